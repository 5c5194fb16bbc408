/- Law 39: aggregate.Top: the walk. -/
import Derived.Test.YtohjgegnamcnlaaGreatAgI
import Derived.Test.YtohjgegnamcnlaaGreatAhu
import Derived.Test.YtohjgegnamcnlaaGreatAhw
namespace Go.Proofs.YtohjgegnamcnlaaGreat
open Go.RowKit Go.Shelf

theorem topE_of {F : List Fct} {S : Nat → Value} {colI : Int} {w : World} {v : Value} (hs : FsIn w v F S) (hv : validF F = true) (hm : MachF F) (h0 : F.length ≠ 0) (hh : hasB F colI = true) : GrpE F S (row0 F).length [] 4 colI w.heap.size w v (.slice none 0 0) :=
  grpE_of hs IsInts.nil hv hm h0 (by decide) (by decide) (.inr ⟨by decide, hh⟩) (by simp [keyedB]) (by decide)
set_option maxRecDepth 100000 in
set_option maxHeartbeats 8000000 in
theorem aTop_c (v : Value) (F : List Fct) (colI : Int) (w : World) (hs : IsFs w v F) (hm : MachF F) (hn : F.length < 1000000000) : Calls Tryz.prog 23 #[v, .int .i64 colI] w (TopRet F colI w) := by
  have K1 : Hid (∀ X, Below w.heap.size w X → Calls Tryz.prog 30 #[v] X (Ret X (.bool (validF F)))) := Lib.hid fun X h => avalid_c v F X (hs.below h) hn
  have K2 : Hid (∀ X k, Below w.heap.size w X → Calls Tryz.prog 31 #[v, .int .i64 k] X (Ret X (.bool (hasB F k)))) := Lib.hid fun X k h => ahas_c v F k X (hs.below h)
  obtain ⟨S, hs⟩ := hs
  obtain ⟨A, c, rfl, hnc, hc⟩ := hs.form
  obtain ⟨W0, hW0⟩ : ∃ W, W = w.alloc (.cells #[.int .i64 colI] 3) := ⟨_, rfl⟩
  have T0 : BoxAt W0 w.heap.size (.int .i64 colI) := ⟨3, by rw [hW0]; exact heap_alloc_new w _⟩
  have hb0 : Below w.heap.size w W0 := by rw [hW0]; exact (Below.refl _ _).alloc (Nat.le_refl _) _
  have hsz0 : w.heap.size + 1 ≤ W0.heap.size := by rw [hW0]; simp
  have HW0 := Lib.hid hW0; have Hm := Lib.hid hm
  clear hW0 hm
  have HB : Hid (∀ X, Below W0.heap.size W0 X → BoxAt X w.heap.size (.int .i64 colI)) := Lib.hid fun X h => T0.block (h.block _ T0.lt)
  clear T0
  go_enter Tryz.func23, Tryz.ntmps23
  go_wp2_with fail
  rw [← HW0.out]
  refine (K1.out _ hb0).mono ?_
  rintro e W1 ⟨rfl, hb1⟩
  have hbw1 := hb0.trans (hb1.mono hb0.size)
  have x0 := (HB.out W1 hb1).cell
  cases hv : validF F
  · have HBad := Lib.hid hv
    go_wp2_with fail
    go_ret2
    exact ⟨_, _, rfl, hbw1, topS_bad (.inl HBad.out)⟩
  have Hv := Lib.hid hv
  clear hv
  have K2b := Lib.hid (K2.out W1 colI hbw1)
  cases hh : hasB F colI
  · have HBad := Lib.hid hh
    rw [hh] at K2b
    clear hh
    go_wp2_with fail
    refine K2b.out.mono ?_
    rintro e W2 ⟨rfl, hb2⟩
    have hbw2 := hbw1.trans (hb2.mono hbw1.size)
    clear hb2
    go_wp2_with fail
    go_ret2
    exact ⟨_, _, rfl, hbw2, topS_bad (.inr HBad.out)⟩
  have Hh := Lib.hid hh
  rw [hh] at K2b
  clear hh
  go_wp2_with fail
  refine K2b.out.mono ?_
  rintro e X4 ⟨rfl, hb2⟩
  have hbq := hbw1.trans (hb2.mono hbw1.size)
  have hbq0 := hb1.trans (hb2.mono hb1.size)
  have hx4 : w.heap.size + 1 ≤ X4.heap.size := by have := hbq0.size; omega
  clear hb2 hbw1 hb1 x0 K2b
  have KN := Lib.hid (anewTable_c X4)
  go_wp2_with fail
  refine KN.out.mono ?_
  rintro e X5 ⟨p, bv, bs, rfl, hb5, htab⟩
  have HTab := Lib.hid htab
  have hbq5 := hbq.trans (hb5.mono hbq.size)
  have hbq50 := hbq0.trans (hb5.mono hbq0.size)
  have hs45 := hb5.size
  clear hb5 htab
  have hb6 : Below w.heap.size w (X5.alloc (.cells #[.pointer (some ⟨p, 0, none⟩)] 65)) := hbq5.alloc hbq5.size _
  have hb60 : Below W0.heap.size W0 (X5.alloc (.cells #[.pointer (some ⟨p, 0, none⟩)] 65)) := hbq50.alloc hbq50.size _
  have hb65 := (Below.refl X5.heap.size X5).alloc (Nat.le_refl _) (.cells #[.pointer (some ⟨p, 0, none⟩)] 65)
  have hbt : BoxAt (X5.alloc (.cells #[.pointer (some ⟨p, 0, none⟩)] 65)) X5.heap.size (.pointer (some ⟨p, 0, none⟩)) := ⟨65, heap_alloc_new X5 _⟩
  obtain ⟨X6, hX6⟩ : ∃ Y, Y = X5.alloc (.cells #[.pointer (some ⟨p, 0, none⟩)] 65) := ⟨_, rfl⟩
  rw [← hX6] at hb6 hb60 hb65 hbt
  have hz6 : X6.heap.size = X5.heap.size + 1 := by rw [hX6]; simp
  have HX6 := Lib.hid hX6; have HZ6 := Lib.hid hz6
  clear hX6
  have hst : ∀ z1 W, X6.heap.size ≤ z1 → z1 ≤ W.heap.size → Below X6.heap.size X6 W → TopJ F colI w.heap.size X6.heap.size z1 w w.heap.size X5.heap.size p bv bs [] W := fun z1 W h1 h2 h3 =>
    ⟨hb6.trans (h3.mono hb6.size), ⟨HB.out W (hb60.trans (h3.mono hb60.size)), hbt.block (h3.block _ hbt.lt)⟩, 0, [], fun _ => undef, fun _ => undef, [], ((HTab.out w.heap.size X6.heap.size z1 (fun _ => undef) (fun _ => undef) hbq.size (by omega)).below hb65).below (h3.mono (by omega)), TabOk.nil, fun a => by simp, by simp, by simp [flatE]⟩
  have KE : Hid (Calls Tryz.prog 34 #[.slice A F.length c, .func (.func 64) #[] #[.pointer (some ⟨w.heap.size, 0, none⟩), .pointer (some ⟨X5.heap.size, 0, none⟩)]] X6 (fun e W7 => ∃ cc : Int, e = .returned (.int .i64 cc) ∧ Below w.heap.size w W7 ∧ ∃ z1 Vs, X6.heap.size ≤ z1 ∧ VisOk F Vs (fun _ => True) ∧ TopJ F colI w.heap.size X6.heap.size z1 w w.heap.size X5.heap.size p bv bs Vs W7 ∧ Vs.length ≤ 2 * F.length)) := by
    by_cases h0 : F.length = 0
    · have h0' := h0
      rw [List.length_eq_zero_iff] at h0'
      subst h0'
      refine Lib.hid ((aeach_nil A c X6).mono ?_)
      rintro e W7 ⟨rfl, hb7⟩
      refine ⟨0, rfl, hb6.trans (hb7.mono hb6.size), X6.heap.size, [], Nat.le_refl _, ⟨fun v hv => absurd hv (by simp), fun v hv => absurd hv (by simp), List.Pairwise.nil, fun v hv => absurd hv (by simp), fun t r _ h => ?_⟩, hst _ W7 (Nat.le_refl _) hb7.size hb7, by simp⟩
      obtain ⟨f, hf, _⟩ := h
      exact absurd hf (by simp)
    · have hrv := valid_rows Hv.out
      have hmk := valid_ok Hv.out Hm.out
      have hE := topE_of hs Hv.out Hm.out h0 Hh.out
      refine Lib.hid ((aeach_c (F := F) (S := S) (base := w.heap.size) (f := 64) (caps := #[.pointer (some ⟨w.heap.size, 0, none⟩), .pointer (some ⟨X5.heap.size, 0, none⟩)])
        (J := fun z1 => TopJ F colI w.heap.size X6.heap.size z1 w w.heap.size X5.heap.size p bv bs) (Fin := fun _ _ _ _ => False) _ X6 hb6.size
        (fun W h => hs.below (hb6.trans h)) hrv.1 hmk (fun f hf => by have := (hrv.2 f hf).1; omega) (fun f hf => (spT_ok (hrv.2 f hf).2.1).1.2.1) (fun f hf => by
          have h1 := (spT_ok (hrv.2 f hf).2.1).1
          unfold OkSp at h1
          omega) (by omega)
        (fun z1 hz1 => ⟨fun _ _ => by kernel_rfl, topJ_keep (Nat.le_refl _) hb6.size (by omega), fun X v js Vs s h1 h2 h3 h4 h5 h6 h7 => atop1_c hE hb6.size hz1 (by omega) X v js Vs s h1 h2 h3 h4 h5 h6 h7⟩)
        hst).mono ?_)
      rintro e W7 ⟨z1, cc, Vs, hz1, rfl, hb7, hcase⟩
      by_cases hc0 : cc = 0
      · rw [if_pos hc0] at hcase
        obtain ⟨h1, h2, h3⟩ := hcase
        exact ⟨cc, rfl, hb6.trans hb7, z1, Vs, hz1, h1, h2, h3⟩
      · rw [if_neg hc0] at hcase
        exact hcase.2.elim
  clear hb65 hbt hst
  go_wp2_with fail
  rw [← HX6.out]
  refine KE.out.mono ?_
  rintro e W7 ⟨cc, rfl, hbw7, z1, Vs, hz1, hvis, ⟨_, ⟨_, hbox⟩, n7, E, U, T, A7, htab7, htok7, hgA7, hn7, hfl7⟩, hvl⟩
  have t7 := hbox.cell
  have hprod : F.length * Vs.length ≤ F.length * (2 * F.length) := Nat.mul_le_mul_left _ hvl
  have hpr2 : F.length * (2 * F.length) ≤ 1000 * 2000 := by
    have := (valid_rows Hv.out).1
    exact Nat.mul_le_mul this (by omega)
  have hfl8 : (flatE E).length ≤ F.length * (2 * F.length) := by omega
  have KF := Lib.hid (afacts_c htab7 (by omega) htok7.can)
  have HEk := Lib.hid htab7.eok; have HTk := Lib.hid htok7; have HVis := Lib.hid hvis; have HgA := Lib.hid hgA7; have HFl := Lib.hid hfl8
  clear htab7 htok7 hgA7 hvis hbox hprod hpr2 hfl8 hn7 hfl7 hvl
  go_wp2_with fail
  refine KF.out.mono ?_
  rintro e W8 ⟨v8, c8, rfl, hb8, hf8⟩
  have hbw8 := hbw7.trans (hb8.mono hbw7.size)
  have hout : TopOut F colI c8 v8 W8 := by
    by_cases hbig : 1000 < (flatE E).length
    · rw [if_pos hbig] at hf8
      obtain ⟨B, hB1, hB2⟩ := sorted_ex (flatE E)
      exact ⟨B, top_norm HVis.out HgA.out (norm_tab HEk.out HTk.out hB1 hB2), by rw [hB1.length_eq]; exact HFl.out, .inl ⟨by rw [hB1.length_eq]; exact hbig, hf8⟩⟩
    · rw [if_neg hbig] at hf8
      obtain ⟨e1, B, hB0, hB1, hB2⟩ := hf8
      exact ⟨B, top_norm HVis.out HgA.out (norm_tab HEk.out HTk.out hB1 hB2), by rw [hB1.length_eq]; exact HFl.out, .inr ⟨by rw [hB1.length_eq]; omega, e1, hB0⟩⟩
  have HO := Lib.hid hout; have HB8 := Lib.hid hbw8
  clear hout hf8 hb8 hbw8
  go_wp2_with fail
  go_ret2
  exact ⟨_, _, rfl, HB8.out, topS_out Hv.out Hh.out HO.out⟩
end Go.Proofs.YtohjgegnamcnlaaGreat
