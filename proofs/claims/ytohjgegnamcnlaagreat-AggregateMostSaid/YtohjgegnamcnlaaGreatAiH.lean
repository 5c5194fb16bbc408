/- Law 39: aggregate.Most. -/
import Derived.Test.YtohjgegnamcnlaaGreatAgI
import Derived.Test.YtohjgegnamcnlaaGreatAiG
namespace Go.Proofs.YtohjgegnamcnlaaGreat
open Go.RowKit Go.Shelf

theorem most_ok {F : List Fct} {Vs : List Vis} {P : Int → Prop} (hV : VisOk F Vs P) (hl : ∀ f ∈ F, OkSp f.2) : ((mostL Vs).all okSpan) = true := by
  rw [List.all_eq_true]
  intro s hs
  obtain ⟨v, hv, rfl⟩ := List.mem_map.1 hs
  obtain ⟨h1, h2, h3⟩ := hV.span v (List.mem_filter.1 hv).1
  have g2 := tm_ok hl h2
  have g3 := tm_ok hl h3
  rw [okSpan_iff]
  unfold OkSp
  omega
/-- A list of spans lies in no box of a list. -/
theorem spans_box {W : World} {v u : Value} {l : List Sp} {b : Nat} {A : Option Addr} {n c : Nat} (h : IsSpans W v l) (hb : BoxAt W b (.slice A n c)) : IsSpans (W.setCell ⟨b, 0, none⟩ u) v l := by
  obtain ⟨A1, c1, rfl, h1, h2, h3⟩ := h
  refine ⟨A1, c1, rfl, h1, h2, fun hn => ?_⟩
  obtain ⟨g, off, rfl, hlt, hc⟩ := h3 hn
  have hne : g ≠ b := fun e => by
    obtain ⟨t, ht⟩ := hb
    have h := hc 0 0 hn (by omega)
    rw [e, blk_get ht] at h
    simp only [Nat.zero_mul, Nat.add_zero] at h
    rcases Nat.eq_zero_or_pos off with q | q
    · rw [q] at h
      unfold spanCell at h
      simp at h
    · rw [Array.getElem?_eq_none (by simp; omega)] at h
      cases h
  exact ⟨g, off, rfl, by simpa using hlt, fun i j hi hj => (World.cell?_of_block (blk_oth hne 0 u)).trans (hc i j hi hj)⟩
set_option maxRecDepth 100000 in
set_option maxHeartbeats 8000000 in
theorem aMost_c (v : Value) (F : List Fct) (w : World) (hs : IsFs w v F) (hm : MachF F) (hn : F.length ≤ 100) : Calls Tryz.prog 19 #[v] w (MostRet F w) := by
  have K1 := Lib.hid (avalid_c v F w hs (by omega))
  obtain ⟨S, hs⟩ := hs
  obtain ⟨A, c, rfl, hnc, hc⟩ := hs.form
  have Hm := Lib.hid hm
  clear hm
  cases hv : validF F
  · have Hv := Lib.hid hv
    rw [hv] at K1
    clear hv
    go_enter Tryz.func19, Tryz.ntmps19
    go_wp2_with fail
    refine K1.out.mono ?_
    rintro e W1 ⟨rfl, hb1⟩
    go_wp2_with fail
    go_ret2
    exact ⟨_, 0, [], rfl, RowsIn.nil, hb1, by rw [if_neg (by rw [Hv.out]; decide)]; exact ⟨rfl, rfl⟩⟩
  have Hv := Lib.hid hv
  rw [hv] at K1
  clear hv
  go_enter Tryz.func19, Tryz.ntmps19
  go_wp2_with fail
  refine K1.out.mono ?_
  rintro e W1 ⟨rfl, hb1⟩
  have hz1 := hb1.size
  obtain ⟨W2, hW2⟩ : ∃ Y, Y = W1.alloc (.cells #[.int .i64 0] 3) := ⟨_, rfl⟩
  have hbA : Below W1.heap.size W1 W2 := by rw [hW2]; exact (Below.refl _ _).alloc (Nat.le_refl _) _
  have hz2 : W2.heap.size = W1.heap.size + 1 := by rw [hW2]; simp
  have hbm2 : BoxAt W2 W1.heap.size (.int .i64 0) := ⟨3, by rw [hW2]; exact heap_alloc_new W1 _⟩
  obtain ⟨W3, hW3⟩ : ∃ Y, Y = W2.alloc (.cells #[.slice none 0 0] 44) := ⟨_, rfl⟩
  have hbB : Below W2.heap.size W2 W3 := by rw [hW3]; exact (Below.refl _ _).alloc (Nat.le_refl _) _
  have hz3 : W3.heap.size = W1.heap.size + 2 := by rw [hW3]; simp; omega
  have hbo3 : BoxAt W3 (W1.heap.size + 1) (.slice none 0 0) := ⟨44, by
    have := heap_alloc_new W2 (.cells #[.slice none 0 0] 44)
    rw [hW3, ← hz2]; exact this⟩
  have hbm3 := hbm2.block (hbB.block _ (by omega))
  have hb3 : Below w.heap.size w W3 := hb1.trans ((hbA.trans (hbB.mono (by omega))).mono hz1)
  have HW3 : Hid (W3 = (W1.alloc (.cells #[.int .i64 0] 3)).alloc (.cells #[.slice none 0 0] 44)) := Lib.hid (by rw [hW3, hW2])
  have hst : ∀ z1 W, W3.heap.size ≤ z1 → z1 ≤ W.heap.size → Below W3.heap.size W3 W → MostJ w.heap.size z1 w W1.heap.size (W1.heap.size + 1) [] W := fun z1 W h1 h2 h3 =>
    ⟨hb3.trans (h3.mono hb3.size), hbm3.block (h3.block _ (by omega)), .slice none 0 0, hbo3.block (h3.block _ (by omega)), own_nil _ _ _ _⟩
  have hline : ∀ f ∈ F, OkSp f.2 := fun f hf => (spT_ok ((valid_rows Hv.out).2 f hf).2.1).1
  have KE : Hid (Calls Tryz.prog 34 #[.slice A F.length c, .func (.func 59) #[] #[.pointer (some ⟨W1.heap.size, 0, none⟩), .pointer (some ⟨W1.heap.size + 1, 0, none⟩)]] W3 (fun e W7 => ∃ cc : Int, e = .returned (.int .i64 cc) ∧ Below w.heap.size w W7 ∧ ∃ z1 Vs, W3.heap.size ≤ z1 ∧ VisOk F Vs (fun _ => True) ∧ MostJ w.heap.size z1 w W1.heap.size (W1.heap.size + 1) Vs W7 ∧ Vs.length ≤ 2 * F.length)) := by
    by_cases h0 : F.length = 0
    · have h0' := h0
      rw [List.length_eq_zero_iff] at h0'
      subst h0'
      refine Lib.hid ((aeach_nil A c W3).mono ?_)
      rintro e W7 ⟨rfl, hb7⟩
      refine ⟨0, rfl, hb3.trans (hb7.mono hb3.size), W3.heap.size, [], Nat.le_refl _, ⟨fun v hv => absurd hv (by simp), fun v hv => absurd hv (by simp), List.Pairwise.nil, fun v hv => absurd hv (by simp), fun t r _ h => ?_⟩, hst _ W7 (Nat.le_refl _) hb7.size hb7, by simp⟩
      obtain ⟨f, hf, _⟩ := h
      exact absurd hf (by simp)
    · have hrv := valid_rows Hv.out
      have hmk := valid_ok Hv.out Hm.out
      refine Lib.hid ((aeach_c (F := F) (S := S) (base := w.heap.size) (f := 59) (caps := #[.pointer (some ⟨W1.heap.size, 0, none⟩), .pointer (some ⟨W1.heap.size + 1, 0, none⟩)])
        (J := fun z1 => MostJ w.heap.size z1 w W1.heap.size (W1.heap.size + 1)) (Fin := fun _ _ _ _ => False) _ W3 hb3.size
        (fun W h => hs.below (hb3.trans h)) hrv.1 hmk (fun f hf => by have := (hrv.2 f hf).1; omega) (fun f hf => (spT_ok (hrv.2 f hf).2.1).1.2.1) (fun f hf => by
          have h1 := (spT_ok (hrv.2 f hf).2.1).1
          unfold OkSp at h1
          omega) (by omega)
        (fun z1 hz1 => ⟨fun _ _ => by kernel_rfl, mostJ_keep (Nat.le_refl _) hb3.size (by omega), fun X v js Vs s h1 h2 h3 h4 h5 h6 h7 => amost1_c hz1 (by omega) (by omega) (by omega) hb3.size X v js Vs s h1 h2 h4 h7⟩)
        hst).mono ?_)
      rintro e W7 ⟨z1, cc, Vs, hz1, rfl, hb7, hcase⟩
      by_cases hc0 : cc = 0
      · rw [if_pos hc0] at hcase
        obtain ⟨h1, h2, h3⟩ := hcase
        exact ⟨cc, rfl, hb3.trans hb7, z1, Vs, hz1, h1, h2, h3⟩
      · rw [if_neg hc0] at hcase
        exact hcase.2.elim
  have HLine := Lib.hid hline
  clear hst hline hbm2 hbm3 hbo3 hbA hbB hW2 hW3 hz2
  go_wp2_with fail
  rw [← HW3.out]
  refine KE.out.mono ?_
  rintro e W7 ⟨cc, rfl, hbw7, z1, Vs, hzz, hvis, ⟨_, hbm, o, hbo, ho⟩, hvl⟩
  obtain ⟨Ao, co, hoe, _, _⟩ := RowsIn.form (spans_of_own ho)
  obtain ⟨nl, hnl⟩ : ∃ z, z = (mostL Vs).length := ⟨_, rfl⟩
  rw [← hnl] at hoe
  subst hoe
  have t0 := hbo.cell
  have hsp := spans_of_own ho
  have hll := mostL_len Vs
  have KO := Lib.hid (rOf_c (.slice Ao nl co) (mostL Vs) W7 hsp (by omega))
  have HVis := Lib.hid hvis; have HBm := Lib.hid hbm; have HBo := Lib.hid hbo; have HBw := Lib.hid hbw7
  have hw1 : w.heap.size ≤ W1.heap.size := hz1
  have Hll := Lib.hid hll
  clear hvis hbm hbo hbw7 hsp ho hnl hll
  go_wp2_with fail
  refine KO.out.mono ?_
  rintro e W8 ⟨r, hof, vr, rfl, hsr, hb8⟩
  unfold OfSpec at hof
  rw [if_pos (most_ok HVis.out HLine.out)] at hof
  obtain ⟨m, hcm, hmm, hml, rfl⟩ := hof
  have hop : opR m = (m, 0) := by unfold opR; rw [if_pos (by have := Hll.out; omega)]
  rw [hop] at hsr ⊢
  simp only at hsr ⊢
  obtain ⟨Av, cv, rfl, _, _⟩ := RowsIn.form hsr
  have hbo8 := HBo.out.block (hb8.block _ HBo.out.lt)
  have hbm8 := HBm.out.block (hb8.block _ HBm.out.lt)
  have y1 := hbo8.cell
  have f1 := hbo8.soft
  have hbo9 := hbo8.put (.slice Av m.length cv)
  have hbm9 := hbm8.oth (show W1.heap.size ≠ W1.heap.size + 1 by omega) (.slice Av m.length cv)
  have z0 := hbm9.cell
  have z1' := hbo9.cell
  have hB9 := (HBw.out.trans (hb8.mono HBw.out.size)).setCell (p := ⟨W1.heap.size + 1, 0, none⟩) (show w.heap.size ≤ W1.heap.size + 1 by omega) (.slice Av m.length cv)
  have HSr := Lib.hid (spans_box (u := .slice Av m.length cv) hsr hbo8)
  have HB9 := Lib.hid hB9
  have HMs := Lib.hid (most_spec HVis.out hcm hmm)
  clear hbo8 hbm8 hbo9 hbm9 hsr hB9 hcm hmm hml
  go_wp2_with fail
  go_quiet (fail)
  have hq : Below (W8.setCell ⟨W1.heap.size + 1, 0, none⟩ (.slice Av m.length cv)).heap.size (W8.setCell ⟨W1.heap.size + 1, 0, none⟩ (.slice Av m.length cv)) ((W8.setCell ⟨W1.heap.size + 1, 0, none⟩ (.slice Av m.length cv)).drewN nq) := below_grow (W8.setCell ⟨W1.heap.size + 1, 0, none⟩ (.slice Av m.length cv)) nq #[] |> fun h => by simpa [Go.Sort.grow_empty] using h
  have HQ := Lib.hid hq
  clear hq
  go_wp2_with fail
  go_ret2
  exact ⟨_, mostV Vs, m, rfl, RowsIn.below HSr.out HQ.out, HB9.out.trans (HQ.out.mono HB9.out.size), by rw [if_pos Hv.out]; exact HMs.out⟩
end Go.Proofs.YtohjgegnamcnlaaGreat
