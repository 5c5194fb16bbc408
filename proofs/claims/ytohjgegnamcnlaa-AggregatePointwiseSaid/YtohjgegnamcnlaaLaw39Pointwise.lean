/- AggregatePointwise: at each end of a fact, and just before it, the counts, least, and greatest values of groups by the first column are those of the rows at this time. -/
import Derived.Test.YtohjgegnamcnlaaRows
import Derived.Test.YtohjgegnamcnlaaAhk
import Derived.Test.YtohjgegnamcnlaaAhm
import Derived.Test.YtohjgegnamcnlaaAhr
import Derived.Test.YtohjgegnamcnlaaAiB
namespace Go.Proofs.Ytohjgegnamcnlaa
open Go.RowKit Go.Shelf Go.ChangeShapes Go.WideShapes Go.ChangeAt

theorem tops_few {F : List Fct} (h : fewF F = true) : F.length ≤ 16 := by
  unfold fewF at h
  simp only [Bool.and_eq_true, decide_eq_true_eq] at h
  exact h.1
theorem vB_size {v : Val} (h : vB v = true) : v.2.2.size ≤ 1000000000 := by
  have h0 : (ByteArray.mk #[]).size = 0 := rfl
  rcases vB_kind h with h | h | h | h
  · rw [h.2, h0]; omega
  · omega
  · rw [h.2.1, h0]; omega
  · rw [h.2, h0]; omega
/-- The rows at a time: their length and their texts. -/
theorem at_rows {F : List Fct} (hv : validF F = true) (hm : MachF F) {t : Int} {k : Nat} (hk : k < (row0 F).length) {r : VRow} (hr : r ∈ rowsAt F t) : k < r.length ∧ (va r k).2.2.size ≤ 1000000000 := by
  obtain ⟨f, hf, rfl, _⟩ := rowsAt_mem.1 hr
  have h1 := ((valid_rows hv).2 f hf).1.2.2
  have h2 : k < f.1.length := by rw [h1]; exact hk
  exact ⟨h2, vB_size (valid_ok hv hm f hf _ (va_mem h2)).1⟩
theorem one_zero (w : World) : IsInts (w.alloc (.cells #[.int .i64 0] 3)) (.slice (some ⟨w.heap.size, 0, none⟩) 1 1) [0] := by
  refine ⟨some ⟨w.heap.size, 0, none⟩, 1, rfl, by simp, by omega, fun _ => ⟨w.heap.size, 0, rfl, by simp, fun i j hi hj => ?_⟩⟩
  have hi2 : i < 1 := hi
  obtain rfl : i = 0 := by omega
  obtain rfl : j = 0 := by omega
  rw [blk_get (heap_alloc_new w _)]
  simp [intCell, iv]
theorem pt_has {F : List Fct} {k : Nat} (hk : k < (row0 F).length) : hasB F (k : Int) = true := by
  unfold hasB
  rw [decide_eq_true (show (0 : Int) ≤ (k : Int) by omega), decide_eq_true (show (k : Int) < ((row0 F).length : Int) by omega), Bool.and_true, Bool.or_true]
/-- One row more. -/
theorem pt_skip {R : List VRow} {i : Nat} {k0 : Val} (hi : i < R.length) (h : va (vr R i) 0 ≠ k0) : keyG (R.take (i + 1)) k0 = keyG (R.take i) k0 := by
  rw [key_take hi, if_neg h, List.append_nil]
theorem pt_add {R : List VRow} {i : Nat} {k0 : Val} (hi : i < R.length) (h : va (vr R i) 0 = k0) : keyG (R.take (i + 1)) k0 = keyG (R.take i) k0 ++ [vr R i] := by
  rw [key_take hi, if_pos h]
theorem pt_first {fn : Int} {G : List VRow} {r : VRow} {c : Nat} (h : G.length = 0) : bestV fn (colV (G ++ [r]) c) = va r c := by
  rw [List.length_eq_zero_iff.1 h]
  rfl
theorem pt_more {fn : Int} {G : List VRow} {r : VRow} {c : Nat} (h : 0 < G.length) : bestV fn (colV (G ++ [r]) c) = bst fn (bestV fn (colV G c)) (va r c) := by
  rw [colV_app]
  exact best_app (fun e => by
    have : (colV G c).length = G.length := by simp [colV]
    rw [e] at this
    simp at this
    omega) _
theorem bst3 {b x : Val} : bst 3 b x = if cmpV x b < 0 then x else b := by
  unfold bst
  by_cases h : cmpV x b < 0
  · rw [if_pos h, if_pos (.inl ⟨rfl, h⟩)]
  · rw [if_neg h, if_neg (by rintro (⟨_, q⟩ | ⟨q, _⟩); exact h q; cases q)]
theorem bst4 {b x : Val} : bst 4 b x = if 0 < cmpV x b then x else b := by
  unfold bst
  by_cases h : 0 < cmpV x b
  · rw [if_pos h, if_pos (.inr ⟨rfl, h⟩)]
  · rw [if_neg h, if_neg (by rintro (⟨q, _⟩ | ⟨_, q⟩); cases q; exact h q)]
set_option maxRecDepth 1000000 in
set_option maxHeartbeats 16000000 in
theorem law39Pointwise_c (v : Value) (F : List Fct) (W : World) (hs : IsFs W v F) (hm : MachF F) : Calls Try.prog 3 #[v] W (Ret W (.bool true)) := by
  have KF : Hid (∀ X, Below W.heap.size W X → Calls Try.prog 9 #[v] X (Ret X (.bool (fewF F)))) := Lib.hid fun X h => few39_c v F X (hs.below h)
  have KV : Hid (∀ X, Below W.heap.size W X → Calls Try.prog 10 #[v] X (Ret X (.bool (validF F)))) := Lib.hid fun X h => r39Valid_c v F X (hs.below h)
  have KG : Hid (F.length < 1000000000 → ∀ X vk fn colI, Below W.heap.size W X → IsInts X vk [0] → Calls Try.prog 11 #[v, vk, .int .i64 fn, .int .i64 colI] X (GroupRet F [0] fn colI X)) := Lib.hid fun hn X vk fn colI h hk => aGroup_c v vk F [0] fn colI X (hs.below h) hk hm hn
  have KL : Hid (F.length ≤ 1000000 → ∀ X t, Below W.heap.size W X → Calls Try.prog 12 #[v, .int .i64 t] X (AtRet (rowsAt F t) X)) := Lib.hid fun hn X t h => at39_c v F t X (hs.below h) hn
  obtain ⟨S, hs⟩ := hs
  obtain ⟨A, cc, rfl, hnc, hcc⟩ := hs.form
  have KA := Lib.hid (awake39_c W)
  have Hm := Lib.hid hm
  clear hm
  go_enter Try.func3, Try.ntmps3
  go_wp2_with fail
  refine KA.out.mono ?_
  rintro e W1 ⟨rfl, hb1⟩
  go_wp2_with fail
  refine (KF.out W1 hb1).mono ?_
  rintro e W2 ⟨rfl, hb2⟩
  have hw2 := hb1.trans (hb2.mono hb1.size)
  clear hb1 hb2
  cases q1 : fewF F
  · go_wp2_with fail
    go_ret
    exact ⟨rfl, hw2⟩
  have Q1 := Lib.hid q1
  clear q1
  cases q2 : decide ((F.length : Int) < 1)
  rotate_left
  · go_wp2_with fail
    go_ret
    exact ⟨rfl, hw2⟩
  have Q2 := Lib.hid q2
  cases q4 : decide ((10 : Int) < (F.length : Int))
  rotate_left
  · go_wp2_with fail
    go_ret
    exact ⟨rfl, hw2⟩
  have Q4 := Lib.hid q4
  go_wp2_with fail
  refine (KV.out W2 hw2).mono ?_
  rintro e W3 ⟨rfl, hb3⟩
  have hw3 := hw2.trans (hb3.mono hw2.size)
  clear hb3 hw2
  cases q3 : validF F
  · go_wp2_with fail
    go_ret
    exact ⟨rfl, hw3⟩
  have Q3 := Lib.hid q3
  clear q3
  have hn1 : 1 ≤ F.length := by have := of_decide_eq_false q2; omega
  have hn2 : 0 < F.length := hn1
  have h10 : F.length ≤ 10 := by have := of_decide_eq_false q4; omega
  obtain ⟨bf, off, rfl, hbl⟩ := hs.addr hn2
  obtain ⟨A0, p0, hS0, hq0, hq0c⟩ := (hs.2 0 hn2).form
  have hrr : (fc F 0).1 = row0 F := rfl
  rw [hrr] at hS0 hq0
  have hrl := ((valid_rows Q3.out).2 _ (fc_mem hn2)).1
  rw [hrr] at hrl
  have z0 : W3.cell? ⟨bf, off, none⟩ = some (.slice A0 (row0 F).length p0) := by
    have h := (hs.below hw3).c0 0 hn2
    simp only [Nat.zero_mul, Nat.add_zero] at h
    rw [hS0] at h
    exact h
  obtain ⟨k, hk⟩ : ∃ k : Nat, k + 1 = (row0 F).length := ⟨(row0 F).length - 1, by omega⟩
  have hkl : k < (row0 F).length := by omega
  have v0 : ((row0 F).length : Int) - 1 = (k : Int) := by omega
  have v1 : IntKind.i64.wrap (k : Int) = (k : Int) := IntWalk.i64_in _ (by omega)
  obtain ⟨W4, hW4⟩ : ∃ Y, Y = W3.alloc (.cells #[.int .i64 0] 3) := ⟨_, rfl⟩
  have hb4 : Below W3.heap.size W3 W4 := by rw [hW4]; exact (Below.refl _ _).alloc (Nat.le_refl _) _
  have hk4 : IsInts W4 (.slice (some ⟨W3.heap.size, 0, none⟩) 1 1) [0] := by rw [hW4]; exact one_zero W3
  have hw4 := hw3.trans (hb4.mono hw3.size)
  have HW4 := Lib.hid hW4
  have Hkl := Lib.hid hkl
  have hn9 : F.length < 1000000000 := by omega
  have K1 := Lib.hid (KG.out hn9 W4 _ 1 0 hw4 hk4)
  clear hW4 hb4 hk4 hw3 hrr hS0 hq0 hq0c
  go_wp2_with fail
  rw [← HW4.out]
  clear z0 v0 v1
  refine K1.out.mono ?_
  rintro e w5 ⟨v5, c5, rfl, hb5, hsp⟩
  obtain ⟨rfl, FA, hA, hAl, hFA⟩ := grp_point Q3.out hn2 h10 (.inl rfl) (fun h => absurd rfl h) hsp
  have HA : Hid (NormOf FA (DGrp F [0] 1 0)) := Lib.hid hA
  have hw5 := hw4.trans (hb5.mono hw4.size)
  have hb6 : Below w5.heap.size w5 (w5.alloc (.cells #[.int .i64 0] 3)) := (Below.refl _ _).alloc (Nat.le_refl _) _
  obtain ⟨W6, hW6⟩ : ∃ Y, Y = w5.alloc (.cells #[.int .i64 0] 3) := ⟨_, rfl⟩
  rw [← hW6] at hb6
  have hk6 : IsInts W6 (.slice (some ⟨w5.heap.size, 0, none⟩) 1 1) [0] := by rw [hW6]; exact one_zero w5
  have hw6 := hw5.trans (hb6.mono hw5.size)
  have HW6 := Lib.hid hW6
  have K2 := Lib.hid (KG.out hn9 W6 _ 3 k hw6 hk6)
  have HFA : Hid (IsFs W6 v5 FA ∧ FA.length ≤ 1000) := Lib.hid ⟨hFA.below hb6, hAl⟩
  clear hW6 hb6 hk6 hw5 hb5 hsp hA hFA hw4 K1 hAl
  go_wp2_with fail
  rw [← HW6.out]
  refine K2.out.mono ?_
  rintro e w7 ⟨v7, c7, rfl, hb7, hsp⟩
  obtain ⟨rfl, FB, hB, hBl, hFB⟩ := grp_point Q3.out hn2 h10 (.inr (.inl rfl)) (fun _ => pt_has Hkl.out) hsp
  have HB : Hid (NormOf FB (DGrp F [0] 3 k)) := Lib.hid hB
  have hw7 := hw6.trans (hb7.mono hw6.size)
  have hb8 : Below w7.heap.size w7 (w7.alloc (.cells #[.int .i64 0] 3)) := (Below.refl _ _).alloc (Nat.le_refl _) _
  obtain ⟨W8, hW8⟩ : ∃ Y, Y = w7.alloc (.cells #[.int .i64 0] 3) := ⟨_, rfl⟩
  rw [← hW8] at hb8
  have hk8 : IsInts W8 (.slice (some ⟨w7.heap.size, 0, none⟩) 1 1) [0] := by rw [hW8]; exact one_zero w7
  have hw8 := hw7.trans (hb8.mono hw7.size)
  have HW8 := Lib.hid hW8
  have K3 := Lib.hid (KG.out hn9 W8 _ 4 k hw8 hk8)
  have HFB : Hid (IsFs W8 v7 FB ∧ FB.length ≤ 1000) := Lib.hid ⟨hFB.below hb8, hBl⟩
  have HFA2 : Hid (IsFs W8 v5 FA) := Lib.hid ((HFA.out.1.below hb7).below hb8)
  clear hW8 hb8 hk8 hw7 hb7 hsp hB hFB hw6 K2 hBl
  go_wp2_with fail
  rw [← HW8.out]
  refine K3.out.mono ?_
  rintro e w9 ⟨v9, c9, rfl, hb9, hsp⟩
  obtain ⟨rfl, FC, hC, hCl, hFC⟩ := grp_point Q3.out hn2 h10 (.inr (.inr rfl)) (fun _ => pt_has Hkl.out) hsp
  have HC : Hid (NormOf FC (DGrp F [0] 4 k)) := Lib.hid hC
  have hw9 := hw8.trans (hb9.mono hw8.size)
  have hFA9 := HFA2.out.below hb9
  have hFB9 := HFB.out.1.below hb9
  have KLA : Hid (∀ X t, Below w9.heap.size w9 X → Calls Try.prog 12 #[v5, .int .i64 t] X (AtRet (rowsAt FA t) X)) := Lib.hid fun X t h => at39_c v5 FA t X (hFA9.below h) (by have := HFA.out.2; omega)
  have KLB : Hid (∀ X t, Below w9.heap.size w9 X → Calls Try.prog 12 #[v7, .int .i64 t] X (AtRet (rowsAt FB t) X)) := Lib.hid fun X t h => at39_c v7 FB t X (hFB9.below h) (by have := HFB.out.2; omega)
  have KLC : Hid (∀ X t, Below w9.heap.size w9 X → Calls Try.prog 12 #[v9, .int .i64 t] X (AtRet (rowsAt FC t) X)) := Lib.hid fun X t h => at39_c v9 FC t X (hFC.below h) (by omega)
  have KLF : Hid (∀ X t, Below w9.heap.size w9 X → Calls Try.prog 12 #[.slice (some ⟨bf, off, none⟩) F.length cc, .int .i64 t] X (AtRet (rowsAt F t) X)) := Lib.hid fun X t h => KL.out (by omega) X t (hw9.trans (h.mono hw9.size))
  have HIn : Hid (∀ X, Below w9.heap.size w9 X → FsIn X (.slice (some ⟨bf, off, none⟩) F.length cc) F S) := Lib.hid fun X h => hs.below (hw9.trans (h.mono hw9.size))
  have HRow : Hid (∀ t (r : VRow), r ∈ rowsAt F t → (0 < r.length ∧ (va r 0).2.2.size ≤ 1000000000) ∧ k < r.length ∧ (va r k).2.2.size ≤ 1000000000) := Lib.hid fun t r hr => ⟨at_rows Q3.out Hm.out (by omega) hr, at_rows Q3.out Hm.out Hkl.out hr⟩
  have HPt : Hid (∀ t, PtOk (rowsAt F t) (rowsAt FA t) (rowsAt FB t) (rowsAt FC t) k) := Lib.hid fun t => point_ok HA.out HB.out HC.out t
  have HW9 := Lib.hid hw9
  have HSp : Hid (∀ j, j < F.length → OkSp (fc F j).2) := Lib.hid fun j hj => (spT_ok ((valid_rows Q3.out).2 _ (fc_mem hj)).2.1).1
  clear hb9 hsp hC hFC hw8 hw9 K3 hCl hFA9 hFB9 KL KF KV KG hs hbl
  go_wp2_with fail
  try go_frame
  go_loopw [85] (fun i X => ∃ j : Nat, i = .int .i64 (j : Int) ∧ j ≤ F.length ∧ Hid (Below w9.heap.size w9 X)) (fun i _ => F.length - (intOf i).toNat)
  case atStart => exact ⟨0, rfl, Nat.zero_le _, Lib.hid (Below.refl _ _)⟩
  case round =>
    obtain ⟨j, rfl, hj, HB5⟩ := hrel
    rename World => X
    by_cases hlt : j < F.length
    · have hin := HIn.out X HB5.out
      have c0 := hin.c0 j hlt
      have c1 := hin.c1 j hlt
      have c2 := hin.c2 j hlt
      obtain ⟨A1, p1, hS, _, _⟩ := (hin.2 j hlt).form
      rw [hS] at c0
      have hsp := HSp.out j hlt
      obtain ⟨⟨row, ⟨s1, s2⟩⟩, hf⟩ : ∃ f, f = fc F j := ⟨_, rfl⟩
      have hlen : (fc F j).1.length = row.length := by rw [← hf]
      rw [hlen] at c0
      rw [← hf] at c1 c2 hsp
      unfold OkSp at hsp
      simp only at c1 c2 hsp
      have v1 : IntKind.i64.wrap (s2 - 1) = s2 - 1 := IntWalk.i64_in _ (by omega)
      have v2 : IntKind.i64.wrap (s1 - 1) = s1 - 1 := IntWalk.i64_in _ (by omega)
      have Hlt := Lib.hid hlt
      obtain ⟨X1, hX1⟩ : ∃ Y, Y = X.alloc (.cells #[.slice A1 row.length p1, .int .i64 s1, .int .i64 s2] 29) := ⟨_, rfl⟩
      have hbA : Below X.heap.size X X1 := by rw [hX1]; exact (Below.refl _ _).alloc (Nat.le_refl _) _
      have hz1 : X1.heap.size = X.heap.size + 1 := by rw [hX1]; simp
      obtain ⟨X2, hX2⟩ : ∃ Y, Y = X1.alloc (.cells #[.int .i64 (s1 - 1), .int .i64 s1, .int .i64 (s2 - 1), .int .i64 s2] 3) := ⟨_, rfl⟩
      have hbB : Below X.heap.size X X2 := by rw [hX2]; exact hbA.alloc hbA.size _
      have hts : X2.heap[X.heap.size + 1]? = some (.cells #[.int .i64 (s1 - 1), .int .i64 s1, .int .i64 (s2 - 1), .int .i64 s2] 3 (0, 0)) := by
        have := heap_alloc_new X1 (.cells #[.int .i64 (s1 - 1), .int .i64 s1, .int .i64 (s2 - 1), .int .i64 s2] 3)
        rw [hX2, ← hz1]; exact this
      have HTs : Hid (∀ Y m, Below X2.heap.size X2 Y → m < 4 → ∃ t : Int, Y.cell? ⟨X.heap.size + 1, m, none⟩ = some (.int .i64 t)) := Lib.hid fun Y m h hm3 => by
        have hb := (h.block _ (blk_lt hts)).trans hts
        rcases (show m = 0 ∨ m = 1 ∨ m = 2 ∨ m = 3 by omega) with rfl | rfl | rfl | rfl
        · exact ⟨s1 - 1, by rw [blk_get hb 0]; rfl⟩
        · exact ⟨s1, by rw [blk_get hb 1]; rfl⟩
        · exact ⟨s2 - 1, by rw [blk_get hb 2]; rfl⟩
        · exact ⟨s2, by rw [blk_get hb 3]; rfl⟩
      have HX2 : Hid (X2 = (X.alloc (.cells #[.slice A1 row.length p1, .int .i64 s1, .int .i64 s2] 29)).alloc (.cells #[.int .i64 (s1 - 1), .int .i64 s1, .int .i64 (s2 - 1), .int .i64 s2] 3)) := Lib.hid (by rw [hX2, hX1])
      have HBX2 := Lib.hid (HB5.out.trans (hbB.mono HB5.out.size))
      clear hX1 hX2 hS hin hf hlen hbA hbB hts hz1 hsp
      go_wp2_with fail
      rw [← HX2.out]
      clear c0 c1 c2 v1 v2
      try go_frame
      go_loopw [105] (fun i Y => ∃ m : Nat, i = .int .i64 (m : Int) ∧ m ≤ 4 ∧ Hid (Below X2.heap.size X2 Y)) (fun i _ => 4 - (intOf i).toNat)
      case atStart => exact ⟨0, rfl, by omega, Lib.hid (Below.refl _ _)⟩
      case round =>
        obtain ⟨m, rfl, hm3, HBY⟩ := hrel
        rename World => Y
        by_cases hml : m < 4
        · obtain ⟨t, ht⟩ := HTs.out Y m HBY.out hml
          have Hml := Lib.hid hml
          have HWY := Lib.hid (HBX2.out.trans (HBY.out.mono HBX2.out.size))
          have hmi : (m : Int) < 4 := by omega
          go_wp2_with fail
          refine (KLF.out Y t HWY.out).mono ?_
          rintro e Y1 ⟨o1, rfl, ⟨S1, hR1⟩, hb1⟩
          obtain ⟨Ar, cr, rfl, hlr, hcr⟩ := hR1.form
          have HWY1 := Lib.hid (HWY.out.trans (hb1.mono HWY.out.size))
          have HBY1 := Lib.hid (HBY.out.trans (hb1.mono HBY.out.size))
          clear hb1 ht
          go_wp2_with fail
          refine (KLA.out Y1 t HWY1.out).mono ?_
          rintro e Y2 ⟨o2, rfl, ⟨S2, hR2⟩, hb2⟩
          obtain ⟨Ar2, cr2, rfl, hlr2, hcr2⟩ := hR2.form
          have hR1 := hR1.below hb2
          have HWY2 := Lib.hid (HWY1.out.trans (hb2.mono HWY1.out.size))
          have HBY2 := Lib.hid (HBY1.out.trans (hb2.mono HBY1.out.size))
          clear hb2
          go_wp2_with fail
          refine (KLB.out Y2 t HWY2.out).mono ?_
          rintro e Y3 ⟨o3, rfl, ⟨S3, hR3⟩, hb3⟩
          obtain ⟨Ar3, cr3, rfl, hlr3, hcr3⟩ := hR3.form
          have hR1 := hR1.below hb3
          have hR2 := hR2.below hb3
          have HWY3 := Lib.hid (HWY2.out.trans (hb3.mono HWY2.out.size))
          have HBY3 := Lib.hid (HBY2.out.trans (hb3.mono HBY2.out.size))
          clear hb3
          go_wp2_with fail
          refine (KLC.out Y3 t HWY3.out).mono ?_
          rintro e Y4 ⟨o4, rfl, ⟨S4, hR4⟩, hb4⟩
          obtain ⟨Ar4, cr4, rfl, hlr4, hcr4⟩ := hR4.form
          have HR1 := Lib.hid (hR1.below hb4)
          have HR2 := Lib.hid (hR2.below hb4)
          have HR3 := Lib.hid (hR3.below hb4)
          have HR4 := Lib.hid hR4
          have HWY4 := Lib.hid (HWY3.out.trans (hb4.mono HWY3.out.size))
          have HBY4 := Lib.hid (HBY3.out.trans (hb4.mono HBY3.out.size))
          have HP := Lib.hid (HPt.out t)
          have HRw : Hid (∀ r ∈ rowsAt F t, (0 < r.length ∧ (va r 0).2.2.size ≤ 1000000000) ∧ k < r.length ∧ (va r k).2.2.size ≤ 1000000000) := Lib.hid fun r hr => HRow.out t r hr
          clear hb4 hR1 hR2 hR3 hR4
          generalize rowsAt F t = R at *
          generalize rowsAt FA t = RA at *
          generalize rowsAt FB t = RB at *
          generalize rowsAt FC t = RC at *
          go_wp2_with fail
          try go_frame
          have hRmax : R.length ≤ 9223372036854775807 := by omega
          have HRmax := Lib.hid hRmax
          have HSumLe : Hid (∀ q, q ≤ RA.length → sumK R ((keysL RA).take q) ≤ R.length) := Lib.hid fun q hq => by
            rw [← HP.out.sum]
            have e : keysL RA = (keysL RA).take q ++ (keysL RA).drop q := (List.take_append_drop q _).symm
            conv => rhs; rw [e, sumK_app]
            omega
          go_loopw [18, 123] (fun n i Z => ∃ q : Nat, n = .int .i64 (sumK R ((keysL RA).take q) : Int) ∧ i = .int .i64 (q : Int) ∧ q ≤ RA.length ∧ Hid (Below Y4.heap.size Y4 Z)) (fun _ i _ => RA.length - (intOf i).toNat)
          case atStart => exact ⟨0, by simp [sumK], rfl, Nat.zero_le _, Lib.hid (Below.refl _ _)⟩
          case round =>
            obtain ⟨q, rfl, rfl, hq, HBZ⟩ := hrel
            rename World => Z
            by_cases hlq : q < RA.length
            · obtain ⟨ba, ofa, rfl, hba⟩ := HR2.out.addr (by omega)
              have hin := HR2.out.below HBZ.out
              have a0 := hin.cell q hlq
              have hvr := hin.2 q hlq
              obtain ⟨k0, hx, hkp, hmB, hmC⟩ := HP.out.row _ (vr_mem hlq)
              have hnx := sumK_next (R := R) hlq
              have hle := HSumLe.out (q + 1) hlq
              rw [hx] at hvr hnx
              have hk00 : va [k0, (1, ((keyG R k0).length : Int), ⟨#[]⟩)] 0 = k0 := rfl
              rw [hk00] at hnx
              obtain ⟨Aw, cw, hSw, hlw, hcw⟩ := hvr.form
              have hSw2 : S2 q = .slice Aw 2 cw := hSw
              rw [hSw2] at a0 hvr
              obtain ⟨bw, ow, rfl, hbw⟩ := IsVals.addr (A := Aw) (c := cw) (r := [k0, (1, ((keyG R k0).length : Int), ⟨#[]⟩)]) hvr (Nat.zero_lt_succ _)
              obtain ⟨nk, hnk⟩ : ∃ z, z = (keyG R k0).length := ⟨_, rfl⟩
              rw [← hnk] at hvr hnx hkp
              have HNk := Lib.hid hnk
              obtain ⟨Z1, hZ1⟩ : ∃ Q, Q = Z.alloc (.cells #[.slice (some ⟨bw, ow, none⟩) 2 cw] 25) := ⟨_, rfl⟩
              have hbZ1 : Below Z.heap.size Z Z1 := by rw [hZ1]; exact (Below.refl _ _).alloc (Nat.le_refl _) _
              have hz1 : Z1.heap.size = Z.heap.size + 1 := by rw [hZ1]; simp
              have hbx : Z1.cell? ⟨Z.heap.size, 0, none⟩ = some (.slice (some ⟨bw, ow, none⟩) 2 cw) := by rw [hZ1]; exact blk_get (heap_alloc_new Z _) 0
              obtain ⟨Z2, hZ2⟩ : ∃ Q, Q = Z1.alloc (.cells #[.int .i64 0, .int .i64 0, .string ⟨#[]⟩] 37) := ⟨_, rfl⟩
              have hbZ2 : Below Z1.heap.size Z1 Z2 := by rw [hZ2]; exact (Below.refl _ _).alloc (Nat.le_refl _) _
              have hz2 : Z2.heap.size = Z.heap.size + 2 := by rw [hZ2]; simp; omega
              have hlo0 : Z2.heap[Z.heap.size + 1]? = some (.cells #[.int .i64 0, .int .i64 0, .string ⟨#[]⟩] 37 (0, 0)) := by
                have := heap_alloc_new Z1 (.cells #[.int .i64 0, .int .i64 0, .string ⟨#[]⟩] 37)
                rw [hZ2, ← hz1]; exact this
              obtain ⟨Z3, hZ3⟩ : ∃ Q, Q = Z2.alloc (.cells #[.int .i64 0, .int .i64 0, .string ⟨#[]⟩] 37) := ⟨_, rfl⟩
              have hbZ3 : Below Z2.heap.size Z2 Z3 := by rw [hZ3]; exact (Below.refl _ _).alloc (Nat.le_refl _) _
              have hhi0 : Z3.heap[Z.heap.size + 2]? = some (.cells #[.int .i64 0, .int .i64 0, .string ⟨#[]⟩] 37 (0, 0)) := by
                have := heap_alloc_new Z2 (.cells #[.int .i64 0, .int .i64 0, .string ⟨#[]⟩] 37)
                rw [hZ3, ← hz2]; exact this
              have hlo3 := (hbZ3.block (Z.heap.size + 1) (by omega)).trans hlo0
              have hbZ13 : Below Z1.heap.size Z1 Z3 := hbZ2.trans (hbZ3.mono hbZ2.size)
              have HZ3 : Hid (Z3 = ((Z.alloc (.cells #[.slice (some ⟨bw, ow, none⟩) 2 cw] 25)).alloc (.cells #[.int .i64 0, .int .i64 0, .string ⟨#[]⟩] 37)).alloc (.cells #[.int .i64 0, .int .i64 0, .string ⟨#[]⟩] 37)) := Lib.hid (by rw [hZ3, hZ2, hZ1])
              have HVr : Hid (∀ Q, Below Z1.heap.size Z1 Q → IsVals Q (.slice (some ⟨bw, ow, none⟩) 2 cw) [k0, (1, (nk : Int), ⟨#[]⟩)]) := Lib.hid fun Q h => (hvr.below hbZ1).below h
              have HRZ : Hid (∀ Q, Below Z1.heap.size Z1 Q → RvIn Q (.slice Ar R.length cr) R S1) := Lib.hid fun Q h => ((HR1.out.below HBZ.out).below hbZ1).below h
              have HRB : Hid (∀ Q, Below Z1.heap.size Z1 Q → RvIn Q (.slice Ar3 RB.length cr3) RB S3) := Lib.hid fun Q h => ((HR3.out.below HBZ.out).below hbZ1).below h
              have HRC : Hid (∀ Q, Below Z1.heap.size Z1 Q → RvIn Q (.slice Ar4 RC.length cr4) RC S4) := Lib.hid fun Q h => ((HR4.out.below HBZ.out).below hbZ1).below h
              have HBx : Hid (∀ Q, Below Z1.heap.size Z1 Q → Q.cell? ⟨Z.heap.size, 0, none⟩ = some (.slice (some ⟨bw, ow, none⟩) 2 cw)) := Lib.hid fun Q h => (h.cell (p := ⟨Z.heap.size, 0, none⟩) (by show Z.heap.size < _; omega)).trans hbx
              have HBZ1 := Lib.hid (HBZ.out.trans (hbZ1.mono HBZ.out.size))
              have Hbw : Hid (bw < Z1.heap.size) := Lib.hid (Nat.lt_of_lt_of_le hbw hbZ1.size)
              have Hlq := Lib.hid hlq; have Hkp := Lib.hid hkp; have HmB := Lib.hid hmB; have HmC := Lib.hid hmC; have Hnx := Lib.hid hnx
              clear hZ1 hZ2 hZ3 hbZ1 hbZ2 hbZ3 hbx hlo0 hvr hin hx hSw hSw2 hk00 hlw hbw hle hkp hmB hmC hnk hnx
              go_wp2_with fail
              rw [← HZ3.out]
              clear a0
              try go_frame
              go_loopw [21, 132] (fun nn i Q => ∃ (i' : Nat) (lo hi : Val), nn = .int .i64 ((keyG (R.take i') k0).length : Int) ∧ i = .int .i64 (i' : Int) ∧ i' ≤ R.length ∧ Hid (bestV 3 (colV (keyG (R.take i') k0) k) = lo) ∧ Hid (bestV 4 (colV (keyG (R.take i') k0) k) = hi) ∧ Hid (Q.heap[Z.heap.size + 1]? = some (.cells #[.int .i64 lo.1, .int .i64 lo.2.1, .string lo.2.2] 37 (0, 0))) ∧ Hid (Q.heap[Z.heap.size + 2]? = some (.cells #[.int .i64 hi.1, .int .i64 hi.2.1, .string hi.2.2] 37 (0, 0))) ∧ Hid (Below Z1.heap.size Z1 Q)) (fun _ i _ => R.length - (intOf i).toNat)
              case atStart => exact ⟨0, (0, 0, ⟨#[]⟩), (0, 0, ⟨#[]⟩), by simp [keyG], rfl, Nat.zero_le _, Lib.hid (by simp [keyG, colV, bestV]), Lib.hid (by simp [keyG, colV, bestV]), Lib.hid hlo3, Lib.hid hhi0, Lib.hid hbZ13⟩
              case round =>
                obtain ⟨i', ⟨lk, ln, ls⟩, ⟨hk', hn', hs'⟩, rfl, rfl, hi', HLo, HHi, HL, HH, HBQ⟩ := hrel
                rename World => Q
                by_cases hli : i' < R.length
                · obtain ⟨br, ofr, rfl, hbr⟩ := HR1.out.addr (by omega)
                  have hinR := HRZ.out Q HBQ.out
                  have c0 := hinR.cell i' hli
                  have hrow := hinR.2 i' hli
                  obtain ⟨Aq, cq, hSq, hlq', hcq⟩ := hrow.form
                  rw [hSq] at c0 hrow
                  obtain ⟨⟨hr0l, hr0s⟩, hrkl, hrks⟩ := HRw.out _ (vr_mem hli)
                  have HSkip : Hid (va (vr R i') 0 ≠ k0 → keyG (R.take (i' + 1)) k0 = keyG (R.take i') k0) := Lib.hid fun h => pt_skip hli h
                  have HAdd : Hid (va (vr R i') 0 = k0 → keyG (R.take (i' + 1)) k0 = keyG (R.take i') k0 ++ [vr R i']) := Lib.hid fun h => pt_add hli h
                  have hGl : (keyG (R.take i') k0).length ≤ i' := by
                    unfold keyG
                    refine Nat.le_trans (List.length_filter_le _ _) ?_
                    rw [List.length_take]
                    exact Nat.min_le_left _ _
                  have HRow2 : Hid (∀ P, Below Z1.heap.size Z1 P → IsVals P (S1 i') (vr R i')) := Lib.hid fun P h => (HRZ.out P h).2 i' hli
                  generalize vr R i' = row at *
                  generalize keyG (R.take i') k0 = G at *
                  obtain ⟨bq, oq, rfl, hbq⟩ := hrow.addr hr0l
                  have x0 := hrow.c0 0 hr0l
                  have x1 := hrow.c1 0 hr0l
                  have x2 := hrow.c2 0 hr0l
                  simp only [Nat.zero_mul, Nat.add_zero] at x0 x1 x2
                  have HY : Hid (∀ P, Below Z1.heap.size Z1 P → IsVals P (.slice (some ⟨bq, oq, none⟩) row.length cq) row) := Lib.hid fun P h => by
                    have h := HRow2.out P h
                    rw [hSq] at h
                    exact h
                  have HY0 : Hid (∀ P, Below Z1.heap.size Z1 P → P.cell? ⟨bq, oq + k * 3, none⟩ = some (.int .i64 (va row k).1)) := Lib.hid fun P h => (HY.out P h).c0 k hrkl
                  have HY1 : Hid (∀ P, Below Z1.heap.size Z1 P → P.cell? ⟨bq, oq + k * 3 + 1, none⟩ = some (.int .i64 (va row k).2.1)) := Lib.hid fun P h => (HY.out P h).c1 k hrkl
                  have HY2 : Hid (∀ P, Below Z1.heap.size Z1 P → P.cell? ⟨bq, oq + k * 3 + 2, none⟩ = some (.string (va row k).2.2)) := Lib.hid fun P h => (HY.out P h).c2 k hrkl
                  have HBq : Hid (∀ P, Below Z1.heap.size Z1 P → bq < P.heap.size) := Lib.hid fun P h => by
                    obtain ⟨b', o', e, hl'⟩ := (HY.out P h).addr hr0l
                    have : bq = b' := by injection e with e; injection e
                    omega
                  have hvv := HVr.out Q HBQ.out
                  have w0 := IsVals.c0 (r := [k0, (1, (nk : Int), ⟨#[]⟩)]) (c := cw) hvv 0 (Nat.zero_lt_succ _)
                  have w1 := IsVals.c1 (r := [k0, (1, (nk : Int), ⟨#[]⟩)]) (c := cw) hvv 0 (Nat.zero_lt_succ _)
                  have w2 := IsVals.c2 (r := [k0, (1, (nk : Int), ⟨#[]⟩)]) (c := cw) hvv 0 (Nat.zero_lt_succ _)
                  have hk00 : va [k0, (1, (nk : Int), ⟨#[]⟩)] 0 = k0 := rfl
                  rw [hk00] at w0 w1 w2
                  simp only [Nat.zero_mul, Nat.add_zero] at w0 w1 w2
                  have hrki : (k : Int) < (row.length : Int) := by omega
                  have hr0i : (0 : Int) < (row.length : Int) := by omega
                  have HF3 : Hid (G.length = 0 → bestV 3 (colV (G ++ [row]) k) = va row k) := Lib.hid pt_first
                  have HF4 : Hid (G.length = 0 → bestV 4 (colV (G ++ [row]) k) = va row k) := Lib.hid pt_first
                  have HM3 : Hid (0 < G.length → bestV 3 (colV (G ++ [row]) k) = if cmpV (va row k) (lk, ln, ls) < 0 then va row k else (lk, ln, ls)) := Lib.hid fun h => by rw [pt_more h, HLo.out, bst3]
                  have HM4 : Hid (0 < G.length → bestV 4 (colV (G ++ [row]) k) = if 0 < cmpV (va row k) (hk', hn', hs') then va row k else (hk', hn', hs')) := Lib.hid fun h => by rw [pt_more h, HHi.out, bst4]
                  obtain ⟨⟨xk, xn, xs⟩, hxv⟩ : ∃ x, x = va row k := ⟨_, rfl⟩
                  obtain ⟨⟨ak, an, as_⟩, hav⟩ : ∃ x, x = va row 0 := ⟨_, rfl⟩
                  rw [← hxv] at HY0 HY1 HY2 HF3 HF4 HM3 HM4 hrks
                  rw [← hav] at x0 x1 x2 HSkip HAdd hr0s
                  obtain ⟨kk, kn, ks⟩ := k0
                  simp only at HY0 HY1 HY2 x0 x1 x2 w0 w1 w2 hrks hr0s
                  have K1 := Lib.hid fun P => r33Compare_c ak an kk kn as_ ks P hr0s
                  have K2 := Lib.hid fun P => r33Compare_c xk xn lk ln xs ls P hrks
                  have K3 := Lib.hid fun P => r33Compare_c xk xn hk' hn' xs hs' P hrks
                  have HD : Hid (cmpV (ak, an, as_) (kk, kn, ks) = 0 ↔ (ak, an, as_) = (kk, kn, ks)) := Lib.hid (ordV.eq _ _)
                  generalize cmpV (ak, an, as_) (kk, kn, ks) = d at K1 HD
                  generalize cmpV (xk, xn, xs) (lk, ln, ls) = d2 at K2 HM3
                  generalize cmpV (xk, xn, xs) (hk', hn', hs') = d3 at K3 HM4
                  have hwb : bw < Q.heap.size := Nat.lt_of_lt_of_le Hbw.out HBQ.out.size
                  have hzb : Z.heap.size < Q.heap.size := by have := HBQ.out.size; omega
                  have e0 := fun x : BW Q => bw_cell x x0 hbq
                  have e1 := fun x : BW Q => bw_cell x x1 hbq
                  have e2 := fun x : BW Q => bw_cell x x2 hbq
                  have e3 := fun x : BW Q => bw_cell x w0 hwb
                  have e4 := fun x : BW Q => bw_cell x w1 hwb
                  have e5 := fun x : BW Q => bw_cell x w2 hwb
                  have e6 := fun x : BW Q => bw_cell x (HBx.out Q HBQ.out) hzb
                  have Hli := Lib.hid hli; have Hbq := Lib.hid hbq; have Hzb := Lib.hid hzb
                  have HGl := Lib.hid hGl
                  clear hinR hrow hvv x0 x1 x2 w0 w1 w2 hSq hxv hav hk00 hr0s hrks hwb hbq hzb
                  have hwr : IntKind.i64.wrap ((G.length : Int) + 1) = (G.length : Int) + 1 := IntWalk.i64_in _ (by have := HRmax.out; omega)
                  go_wp2_with fail
                  refine wp_region_below (by kernel_rfl) (by kernel_rfl) ?_
                  repeat (go_big_quiet_step ((go_at_call 13; exact calls_bw _ (K1.out _))))
                  refine wpQuiet_nil ?_
                  rintro Q5 ⟨⟨_, hb5⟩, rfl⟩
                  clear e0 e1 e2 e3 e4 e5 e6
                  have HB5' := Lib.hid hb5
                  have HBQ5 := Lib.hid (HBQ.out.trans (hb5.mono HBQ.out.size))
                  have hL5 := (hb5.block _ (blk_lt HL.out)).trans HL.out
                  have hH5 := (hb5.block _ (blk_lt HH.out)).trans HH.out
                  cases q1 : (d == 0)
                  · have q2 : (d != 0) = true := by rw [bne, q1]; rfl
                    have HK : Hid (keyG (R.take (i' + 1)) (kk, kn, ks) = G) := Lib.hid (HSkip.out (fun e => by rw [HD.out.2 e] at q1; cases q1))
                    have HL5 := Lib.hid hL5; have HH5 := Lib.hid hH5
                    clear hL5 hH5 hb5
                    go_wp2_with fail
                    go_roundw
                    case rel => exact ⟨i' + 1, (lk, ln, ls), (hk', hn', hs'), by rw [HK.out], by go_num, Hli.out, Lib.hid (by rw [HK.out]; exact HLo.out), Lib.hid (by rw [HK.out]; exact HHi.out), HL5, HH5, HBQ5⟩
                    case measure => have := Hli.out; simp [intOf]; omega
                  · have q2 : (d != 0) = false := by rw [bne, q1]; rfl
                    have HK : Hid (keyG (R.take (i' + 1)) (kk, kn, ks) = G ++ [row]) := Lib.hid (HAdd.out (HD.out.1 (eq_of_beq q1)))
                    have HKl : Hid ((keyG (R.take (i' + 1)) (kk, kn, ks)).length = G.length + 1) := Lib.hid (by rw [HK.out]; simp)
                    have hQ5 := HBQ5.out
                    have hLQ5 := hL5
                    have hHQ5 := hH5
                    clear hL5 hH5 hb5
                    by_cases hG0 : G.length = 0
                    · have g0 : ((G.length : Int) == 0) = true := by simp [hG0]
                      have HG0 := Lib.hid hG0
                      clear hG0
                      have y0 := HY0.out Q5 hQ5; have y1 := HY1.out Q5 hQ5; have y2 := HY2.out Q5 hQ5
                      have hbqP := HBq.out Q5 hQ5
                      have l0 := blk_get hLQ5 0
                      have l1 := blk_get hLQ5 1
                      have l2 := blk_get hLQ5 2
                      simp at l0 l1 l2
                      have hll := blk_lt hLQ5
                      have e0 := fun x : BW Q5 => bw_cell x y0 hbqP
                      have e1 := fun x : BW Q5 => bw_cell x y1 hbqP
                      have e2 := fun x : BW Q5 => bw_cell x y2 hbqP
                      have e3 := fun x : BW Q5 => bw_cell x l0 hll
                      have e4 := fun x : BW Q5 => bw_cell x l1 hll
                      have e5 := fun x : BW Q5 => bw_cell x l2 hll
                      go_wp2_with fail
                      refine wp_region_below (by kernel_rfl) (by kernel_rfl) ?_
                      repeat (go_big_quiet_step ((go_at_call 13; exact calls_bw _ (K2.out _))))
                      refine wpQuiet_nil ?_
                      rintro Q6 ⟨⟨_, hbP⟩, rfl⟩
                      clear e0 e1 e2 e3 e4 e5 l0 l1 l2 y0 y1 y2 hbqP hll
                      have hQ6 := hQ5.trans (hbP.mono hQ5.size)
                      have hLQ6 := (hbP.block _ (blk_lt hLQ5)).trans hLQ5
                      have hHQ6 := (hbP.block _ (blk_lt hHQ5)).trans hHQ5
                      clear hbP
                      have y0 := HY0.out Q6 hQ6; have y1 := HY1.out Q6 hQ6; have y2 := HY2.out Q6 hQ6
                      go_wp2_with (refine wpList_store_row rfl 37 _ _ (by rfl) (Z.heap.size + 1) #[.int .i64 xk, .int .i64 xn, .string xs] (by rfl) (by rfl) 37 _ hLQ6 (by kernel_rfl) rfl (by simp [Value.oneCell']) ?_)
                      have hLQ7 := setRow_heap Q6 (Z.heap.size + 1) _ #[.int .i64 xk, .int .i64 xn, .string xs] _ _ hLQ6
                      have hHQ7 := (setRow_other Q6 (Z.heap.size + 1) (Z.heap.size + 2) #[.int .i64 xk, .int .i64 xn, .string xs] (by omega)).trans hHQ6
                      have hQ7 := below_row hQ6 (show Z1.heap.size ≤ Z.heap.size + 1 by omega) #[.int .i64 xk, .int .i64 xn, .string xs]
                      generalize Q6.setRow (Z.heap.size + 1) #[.int .i64 xk, .int .i64 xn, .string xs] = Q7 at *
                      clear y0 y1 y2
                      have y0 := HY0.out Q7 hQ7; have y1 := HY1.out Q7 hQ7; have y2 := HY2.out Q7 hQ7
                      have hbqP := HBq.out Q7 hQ7
                      have l0 := blk_get hHQ7 0
                      have l1 := blk_get hHQ7 1
                      have l2 := blk_get hHQ7 2
                      simp at l0 l1 l2
                      have hll := blk_lt hHQ7
                      have e0 := fun x : BW Q7 => bw_cell x y0 hbqP
                      have e1 := fun x : BW Q7 => bw_cell x y1 hbqP
                      have e2 := fun x : BW Q7 => bw_cell x y2 hbqP
                      have e3 := fun x : BW Q7 => bw_cell x l0 hll
                      have e4 := fun x : BW Q7 => bw_cell x l1 hll
                      have e5 := fun x : BW Q7 => bw_cell x l2 hll
                      go_frame
                      refine wp_region_below (by kernel_rfl) (by kernel_rfl) ?_
                      repeat (go_big_quiet_step ((go_at_call 13; exact calls_bw _ (K3.out _))))
                      refine wpQuiet_nil ?_
                      rintro Q8 ⟨⟨_, hbP⟩, rfl⟩
                      clear e0 e1 e2 e3 e4 e5 l0 l1 l2 y0 y1 y2 hbqP hll
                      have hQ8 := hQ7.trans (hbP.mono hQ7.size)
                      have hLQ8 := (hbP.block _ (blk_lt hLQ7)).trans hLQ7
                      have hHQ8 := (hbP.block _ (blk_lt hHQ7)).trans hHQ7
                      clear hbP
                      have y0 := HY0.out Q8 hQ8; have y1 := HY1.out Q8 hQ8; have y2 := HY2.out Q8 hQ8
                      go_wp2_with (refine wpList_store_row rfl 37 _ _ (by rfl) (Z.heap.size + 2) #[.int .i64 xk, .int .i64 xn, .string xs] (by rfl) (by rfl) 37 _ hHQ8 (by kernel_rfl) rfl (by simp [Value.oneCell']) ?_)
                      have hHQ9 := setRow_heap Q8 (Z.heap.size + 2) _ #[.int .i64 xk, .int .i64 xn, .string xs] _ _ hHQ8
                      have hLQ9 := (setRow_other Q8 (Z.heap.size + 2) (Z.heap.size + 1) #[.int .i64 xk, .int .i64 xn, .string xs] (by omega)).trans hLQ8
                      have hQ9 := below_row hQ8 (show Z1.heap.size ≤ Z.heap.size + 2 by omega) #[.int .i64 xk, .int .i64 xn, .string xs]
                      generalize Q8.setRow (Z.heap.size + 2) #[.int .i64 xk, .int .i64 xn, .string xs] = Q9 at *
                      clear y0 y1 y2
                      have HLf := Lib.hid hLQ9; have HHf := Lib.hid hHQ9; have HPf := Lib.hid hQ9
                      clear hLQ9 hHQ9 hQ9
                      go_wp2_with fail
                      go_roundw
                      case rel => exact ⟨i' + 1, (xk, xn, xs), (xk, xn, xs), by rw [HKl.out]; go_num, by go_num, Hli.out, Lib.hid (by rw [HK.out]; exact HF3.out HG0.out), Lib.hid (by rw [HK.out]; exact HF4.out HG0.out), HLf, HHf, HPf⟩
                      case measure => have := Hli.out; simp [intOf]; omega
                    · have g0 : ((G.length : Int) == 0) = false := by rw [beq_eq_false_iff_ne]; omega
                      have HG0 : Hid (0 < G.length) := Lib.hid (by omega)
                      clear hG0
                      cases q3 : decide (d2 < 0)
                      · have y0 := HY0.out Q5 hQ5; have y1 := HY1.out Q5 hQ5; have y2 := HY2.out Q5 hQ5
                        have hbqP := HBq.out Q5 hQ5
                        have l0 := blk_get hLQ5 0
                        have l1 := blk_get hLQ5 1
                        have l2 := blk_get hLQ5 2
                        simp at l0 l1 l2
                        have hll := blk_lt hLQ5
                        have e0 := fun x : BW Q5 => bw_cell x y0 hbqP
                        have e1 := fun x : BW Q5 => bw_cell x y1 hbqP
                        have e2 := fun x : BW Q5 => bw_cell x y2 hbqP
                        have e3 := fun x : BW Q5 => bw_cell x l0 hll
                        have e4 := fun x : BW Q5 => bw_cell x l1 hll
                        have e5 := fun x : BW Q5 => bw_cell x l2 hll
                        go_wp2_with fail
                        refine wp_region_below (by kernel_rfl) (by kernel_rfl) ?_
                        repeat (go_big_quiet_step ((go_at_call 13; exact calls_bw _ (K2.out _))))
                        refine wpQuiet_nil ?_
                        rintro Q6 ⟨⟨_, hbP⟩, rfl⟩
                        clear e0 e1 e2 e3 e4 e5 l0 l1 l2 y0 y1 y2 hbqP hll
                        have hQ6 := hQ5.trans (hbP.mono hQ5.size)
                        have hLQ6 := (hbP.block _ (blk_lt hLQ5)).trans hLQ5
                        have hHQ6 := (hbP.block _ (blk_lt hHQ5)).trans hHQ5
                        clear hbP
                        cases q4 : decide (0 < d3)
                        · have y0 := HY0.out Q6 hQ6; have y1 := HY1.out Q6 hQ6; have y2 := HY2.out Q6 hQ6
                          have hbqP := HBq.out Q6 hQ6
                          have l0 := blk_get hHQ6 0
                          have l1 := blk_get hHQ6 1
                          have l2 := blk_get hHQ6 2
                          simp at l0 l1 l2
                          have hll := blk_lt hHQ6
                          have e0 := fun x : BW Q6 => bw_cell x y0 hbqP
                          have e1 := fun x : BW Q6 => bw_cell x y1 hbqP
                          have e2 := fun x : BW Q6 => bw_cell x y2 hbqP
                          have e3 := fun x : BW Q6 => bw_cell x l0 hll
                          have e4 := fun x : BW Q6 => bw_cell x l1 hll
                          have e5 := fun x : BW Q6 => bw_cell x l2 hll
                          go_wp2_with fail
                          refine wp_region_below (by kernel_rfl) (by kernel_rfl) ?_
                          repeat (go_big_quiet_step ((go_at_call 13; exact calls_bw _ (K3.out _))))
                          refine wpQuiet_nil ?_
                          rintro Q8 ⟨⟨_, hbP⟩, rfl⟩
                          clear e0 e1 e2 e3 e4 e5 l0 l1 l2 y0 y1 y2 hbqP hll
                          have hQ8 := hQ6.trans (hbP.mono hQ6.size)
                          have hLQ8 := (hbP.block _ (blk_lt hLQ6)).trans hLQ6
                          have hHQ8 := (hbP.block _ (blk_lt hHQ6)).trans hHQ6
                          clear hbP
                          have HLf := Lib.hid hLQ8; have HHf := Lib.hid hHQ8; have HPf := Lib.hid hQ8
                          clear hLQ8 hHQ8 hQ8
                          go_wp2_with fail
                          go_roundw
                          case rel => exact ⟨i' + 1, (lk, ln, ls), (hk', hn', hs'), by rw [HKl.out]; go_num, by go_num, Hli.out, Lib.hid (by rw [HK.out]; rw [HM3.out HG0.out, if_neg (of_decide_eq_false q3)]), Lib.hid (by rw [HK.out]; rw [HM4.out HG0.out, if_neg (of_decide_eq_false q4)]), HLf, HHf, HPf⟩
                          case measure => have := Hli.out; simp [intOf]; omega
                        · have y0 := HY0.out Q6 hQ6; have y1 := HY1.out Q6 hQ6; have y2 := HY2.out Q6 hQ6
                          have hbqP := HBq.out Q6 hQ6
                          have l0 := blk_get hHQ6 0
                          have l1 := blk_get hHQ6 1
                          have l2 := blk_get hHQ6 2
                          simp at l0 l1 l2
                          have hll := blk_lt hHQ6
                          have e0 := fun x : BW Q6 => bw_cell x y0 hbqP
                          have e1 := fun x : BW Q6 => bw_cell x y1 hbqP
                          have e2 := fun x : BW Q6 => bw_cell x y2 hbqP
                          have e3 := fun x : BW Q6 => bw_cell x l0 hll
                          have e4 := fun x : BW Q6 => bw_cell x l1 hll
                          have e5 := fun x : BW Q6 => bw_cell x l2 hll
                          go_wp2_with fail
                          refine wp_region_below (by kernel_rfl) (by kernel_rfl) ?_
                          repeat (go_big_quiet_step ((go_at_call 13; exact calls_bw _ (K3.out _))))
                          refine wpQuiet_nil ?_
                          rintro Q8 ⟨⟨_, hbP⟩, rfl⟩
                          clear e0 e1 e2 e3 e4 e5 l0 l1 l2 y0 y1 y2 hbqP hll
                          have hQ8 := hQ6.trans (hbP.mono hQ6.size)
                          have hLQ8 := (hbP.block _ (blk_lt hLQ6)).trans hLQ6
                          have hHQ8 := (hbP.block _ (blk_lt hHQ6)).trans hHQ6
                          clear hbP
                          have y0 := HY0.out Q8 hQ8; have y1 := HY1.out Q8 hQ8; have y2 := HY2.out Q8 hQ8
                          go_wp2_with (refine wpList_store_row rfl 37 _ _ (by rfl) (Z.heap.size + 2) #[.int .i64 xk, .int .i64 xn, .string xs] (by rfl) (by rfl) 37 _ hHQ8 (by kernel_rfl) rfl (by simp [Value.oneCell']) ?_)
                          have hHQ9 := setRow_heap Q8 (Z.heap.size + 2) _ #[.int .i64 xk, .int .i64 xn, .string xs] _ _ hHQ8
                          have hLQ9 := (setRow_other Q8 (Z.heap.size + 2) (Z.heap.size + 1) #[.int .i64 xk, .int .i64 xn, .string xs] (by omega)).trans hLQ8
                          have hQ9 := below_row hQ8 (show Z1.heap.size ≤ Z.heap.size + 2 by omega) #[.int .i64 xk, .int .i64 xn, .string xs]
                          generalize Q8.setRow (Z.heap.size + 2) #[.int .i64 xk, .int .i64 xn, .string xs] = Q9 at *
                          clear y0 y1 y2
                          have HLf := Lib.hid hLQ9; have HHf := Lib.hid hHQ9; have HPf := Lib.hid hQ9
                          clear hLQ9 hHQ9 hQ9
                          go_wp2_with fail
                          go_roundw
                          case rel => exact ⟨i' + 1, (lk, ln, ls), (xk, xn, xs), by rw [HKl.out]; go_num, by go_num, Hli.out, Lib.hid (by rw [HK.out]; rw [HM3.out HG0.out, if_neg (of_decide_eq_false q3)]), Lib.hid (by rw [HK.out]; rw [HM4.out HG0.out, if_pos (of_decide_eq_true q4)]), HLf, HHf, HPf⟩
                          case measure => have := Hli.out; simp [intOf]; omega
                      · have y0 := HY0.out Q5 hQ5; have y1 := HY1.out Q5 hQ5; have y2 := HY2.out Q5 hQ5
                        have hbqP := HBq.out Q5 hQ5
                        have l0 := blk_get hLQ5 0
                        have l1 := blk_get hLQ5 1
                        have l2 := blk_get hLQ5 2
                        simp at l0 l1 l2
                        have hll := blk_lt hLQ5
                        have e0 := fun x : BW Q5 => bw_cell x y0 hbqP
                        have e1 := fun x : BW Q5 => bw_cell x y1 hbqP
                        have e2 := fun x : BW Q5 => bw_cell x y2 hbqP
                        have e3 := fun x : BW Q5 => bw_cell x l0 hll
                        have e4 := fun x : BW Q5 => bw_cell x l1 hll
                        have e5 := fun x : BW Q5 => bw_cell x l2 hll
                        go_wp2_with fail
                        refine wp_region_below (by kernel_rfl) (by kernel_rfl) ?_
                        repeat (go_big_quiet_step ((go_at_call 13; exact calls_bw _ (K2.out _))))
                        refine wpQuiet_nil ?_
                        rintro Q6 ⟨⟨_, hbP⟩, rfl⟩
                        clear e0 e1 e2 e3 e4 e5 l0 l1 l2 y0 y1 y2 hbqP hll
                        have hQ6 := hQ5.trans (hbP.mono hQ5.size)
                        have hLQ6 := (hbP.block _ (blk_lt hLQ5)).trans hLQ5
                        have hHQ6 := (hbP.block _ (blk_lt hHQ5)).trans hHQ5
                        clear hbP
                        have y0 := HY0.out Q6 hQ6; have y1 := HY1.out Q6 hQ6; have y2 := HY2.out Q6 hQ6
                        go_wp2_with (refine wpList_store_row rfl 37 _ _ (by rfl) (Z.heap.size + 1) #[.int .i64 xk, .int .i64 xn, .string xs] (by rfl) (by rfl) 37 _ hLQ6 (by kernel_rfl) rfl (by simp [Value.oneCell']) ?_)
                        have hLQ7 := setRow_heap Q6 (Z.heap.size + 1) _ #[.int .i64 xk, .int .i64 xn, .string xs] _ _ hLQ6
                        have hHQ7 := (setRow_other Q6 (Z.heap.size + 1) (Z.heap.size + 2) #[.int .i64 xk, .int .i64 xn, .string xs] (by omega)).trans hHQ6
                        have hQ7 := below_row hQ6 (show Z1.heap.size ≤ Z.heap.size + 1 by omega) #[.int .i64 xk, .int .i64 xn, .string xs]
                        generalize Q6.setRow (Z.heap.size + 1) #[.int .i64 xk, .int .i64 xn, .string xs] = Q7 at *
                        clear y0 y1 y2
                        cases q4 : decide (0 < d3)
                        · have y0 := HY0.out Q7 hQ7; have y1 := HY1.out Q7 hQ7; have y2 := HY2.out Q7 hQ7
                          have hbqP := HBq.out Q7 hQ7
                          have l0 := blk_get hHQ7 0
                          have l1 := blk_get hHQ7 1
                          have l2 := blk_get hHQ7 2
                          simp at l0 l1 l2
                          have hll := blk_lt hHQ7
                          have e0 := fun x : BW Q7 => bw_cell x y0 hbqP
                          have e1 := fun x : BW Q7 => bw_cell x y1 hbqP
                          have e2 := fun x : BW Q7 => bw_cell x y2 hbqP
                          have e3 := fun x : BW Q7 => bw_cell x l0 hll
                          have e4 := fun x : BW Q7 => bw_cell x l1 hll
                          have e5 := fun x : BW Q7 => bw_cell x l2 hll
                          go_frame
                          refine wp_region_below (by kernel_rfl) (by kernel_rfl) ?_
                          repeat (go_big_quiet_step ((go_at_call 13; exact calls_bw _ (K3.out _))))
                          refine wpQuiet_nil ?_
                          rintro Q8 ⟨⟨_, hbP⟩, rfl⟩
                          clear e0 e1 e2 e3 e4 e5 l0 l1 l2 y0 y1 y2 hbqP hll
                          have hQ8 := hQ7.trans (hbP.mono hQ7.size)
                          have hLQ8 := (hbP.block _ (blk_lt hLQ7)).trans hLQ7
                          have hHQ8 := (hbP.block _ (blk_lt hHQ7)).trans hHQ7
                          clear hbP
                          have HLf := Lib.hid hLQ8; have HHf := Lib.hid hHQ8; have HPf := Lib.hid hQ8
                          clear hLQ8 hHQ8 hQ8
                          go_wp2_with fail
                          go_roundw
                          case rel => exact ⟨i' + 1, (xk, xn, xs), (hk', hn', hs'), by rw [HKl.out]; go_num, by go_num, Hli.out, Lib.hid (by rw [HK.out]; rw [HM3.out HG0.out, if_pos (of_decide_eq_true q3)]), Lib.hid (by rw [HK.out]; rw [HM4.out HG0.out, if_neg (of_decide_eq_false q4)]), HLf, HHf, HPf⟩
                          case measure => have := Hli.out; simp [intOf]; omega
                        · have y0 := HY0.out Q7 hQ7; have y1 := HY1.out Q7 hQ7; have y2 := HY2.out Q7 hQ7
                          have hbqP := HBq.out Q7 hQ7
                          have l0 := blk_get hHQ7 0
                          have l1 := blk_get hHQ7 1
                          have l2 := blk_get hHQ7 2
                          simp at l0 l1 l2
                          have hll := blk_lt hHQ7
                          have e0 := fun x : BW Q7 => bw_cell x y0 hbqP
                          have e1 := fun x : BW Q7 => bw_cell x y1 hbqP
                          have e2 := fun x : BW Q7 => bw_cell x y2 hbqP
                          have e3 := fun x : BW Q7 => bw_cell x l0 hll
                          have e4 := fun x : BW Q7 => bw_cell x l1 hll
                          have e5 := fun x : BW Q7 => bw_cell x l2 hll
                          go_frame
                          refine wp_region_below (by kernel_rfl) (by kernel_rfl) ?_
                          repeat (go_big_quiet_step ((go_at_call 13; exact calls_bw _ (K3.out _))))
                          refine wpQuiet_nil ?_
                          rintro Q8 ⟨⟨_, hbP⟩, rfl⟩
                          clear e0 e1 e2 e3 e4 e5 l0 l1 l2 y0 y1 y2 hbqP hll
                          have hQ8 := hQ7.trans (hbP.mono hQ7.size)
                          have hLQ8 := (hbP.block _ (blk_lt hLQ7)).trans hLQ7
                          have hHQ8 := (hbP.block _ (blk_lt hHQ7)).trans hHQ7
                          clear hbP
                          have y0 := HY0.out Q8 hQ8; have y1 := HY1.out Q8 hQ8; have y2 := HY2.out Q8 hQ8
                          go_wp2_with (refine wpList_store_row rfl 37 _ _ (by rfl) (Z.heap.size + 2) #[.int .i64 xk, .int .i64 xn, .string xs] (by rfl) (by rfl) 37 _ hHQ8 (by kernel_rfl) rfl (by simp [Value.oneCell']) ?_)
                          have hHQ9 := setRow_heap Q8 (Z.heap.size + 2) _ #[.int .i64 xk, .int .i64 xn, .string xs] _ _ hHQ8
                          have hLQ9 := (setRow_other Q8 (Z.heap.size + 2) (Z.heap.size + 1) #[.int .i64 xk, .int .i64 xn, .string xs] (by omega)).trans hLQ8
                          have hQ9 := below_row hQ8 (show Z1.heap.size ≤ Z.heap.size + 2 by omega) #[.int .i64 xk, .int .i64 xn, .string xs]
                          generalize Q8.setRow (Z.heap.size + 2) #[.int .i64 xk, .int .i64 xn, .string xs] = Q9 at *
                          clear y0 y1 y2
                          have HLf := Lib.hid hLQ9; have HHf := Lib.hid hHQ9; have HPf := Lib.hid hQ9
                          clear hLQ9 hHQ9 hQ9
                          go_wp2_with fail
                          go_roundw
                          case rel => exact ⟨i' + 1, (xk, xn, xs), (xk, xn, xs), by rw [HKl.out]; go_num, by go_num, Hli.out, Lib.hid (by rw [HK.out]; rw [HM3.out HG0.out, if_pos (of_decide_eq_true q3)]), Lib.hid (by rw [HK.out]; rw [HM4.out HG0.out, if_pos (of_decide_eq_true q4)]), HLf, HHf, HPf⟩
                          case measure => have := Hli.out; simp [intOf]; omega
                · obtain rfl : i' = R.length := by omega
                  have hT : keyG (R.take R.length) k0 = keyG R k0 := by rw [List.take_length]
                  have hlo := HLo.out
                  have hhi := HHi.out
                  rw [hT] at hlo hhi
                  have hmB := HmB.out
                  have hmC := HmC.out
                  rw [hlo] at hmB
                  rw [hhi] at hmC
                  rw [hT, ← HNk.out]
                  clear HLo HHi hlo hhi hT
                  have hl := HL.out
                  have hh := HH.out
                  have l0 := blk_get hl 0
                  have l1 := blk_get hl 1
                  have l2 := blk_get hl 2
                  have m0 := blk_get hh 0
                  have m1 := blk_get hh 1
                  have m2 := blk_get hh 2
                  simp at l0 l1 l2 m0 m1 m2
                  have hbx := HBx.out Q HBQ.out
                  have w1 := IsVals.c1 (r := [k0, (1, (nk : Int), ⟨#[]⟩)]) (c := cw) (HVr.out Q HBQ.out) 1 (Nat.succ_lt_succ (Nat.zero_lt_succ _))
                  have hv1 : (va [k0, (1, (nk : Int), ⟨#[]⟩)] 1).2.1 = (nk : Int) := rfl
                  rw [hv1] at w1
                  simp only [Nat.one_mul] at w1
                  have g0 : ((nk : Int) == 0) = false := by rw [beq_eq_false_iff_ne]; have := Hkp.out; omega
                  have g1 : ((nk : Int) != (nk : Int)) = false := by simp
                  have hnx := Hnx.out
                  have hsl := HSumLe.out (q + 1) Hlq.out
                  have hwr : IntKind.i64.wrap ((sumK R ((keysL RA).take q) : Int) + (nk : Int)) = (sumK R ((keysL RA).take q) : Int) + (nk : Int) := IntWalk.i64_in _ (by have := HRmax.out; omega)
                  obtain ⟨Q1, hQ1⟩ : ∃ P, P = Q.alloc (.cells #[.int .i64 lk, .int .i64 ln, .string ls] 37) := ⟨_, rfl⟩
                  have hbQ1 : Below Q.heap.size Q Q1 := by rw [hQ1]; exact (Below.refl _ _).alloc (Nat.le_refl _) _
                  have hlQ1 : Q1.heap[Q.heap.size]? = some (.cells #[.int .i64 lk, .int .i64 ln, .string ls] 37 (0, 0)) := by rw [hQ1]; exact heap_alloc_new Q _
                  have HP1 := Lib.hid (HBQ.out.trans (hbQ1.mono HBQ.out.size))
                  have hzs : ∀ P, Below Z1.heap.size Z1 P → Z.heap.size < P.heap.size := fun P h => by have := h.size; omega
                  have KB := Lib.hid (slContainsRP (fun x => decide (x = [k0, (lk, ln, ls)])) 15 #[.pointer (some ⟨Z.heap.size, 0, none⟩), .pointer (some ⟨Q.heap.size, 0, none⟩)] ent_point2 _ RB _ Q1 (HRB.out Q1 HP1.out) (fun P i hP hi => by
                    have h := HP1.out.trans (hP.mono HP1.out.size)
                    exact point2_c _ (.slice (some ⟨bw, ow, none⟩) 2 cw) (vr RB i) [k0, (1, (nk : Int), ⟨#[]⟩)] Z.heap.size Q.heap.size (lk, ln, ls) P ((HRB.out P h).2 i hi) (HVr.out P h) (HBx.out P h) (hzs P h) ((hP.block _ (blk_lt hlQ1)).trans hlQ1) (by simp)))
                  rw [any_mem hmB] at KB
                  have HQ1 := Lib.hid hQ1
                  have HKC : Hid (∀ P, Below Q1.heap.size Q1 P → Calls Try.prog 17 #[.slice Ar4 RC.length cr4, .func (.func 15) #[] #[.pointer (some ⟨Z.heap.size, 0, none⟩), .pointer (some ⟨P.heap.size, 0, none⟩)]] (P.alloc (.cells #[.int .i64 hk', .int .i64 hn', .string hs'] 37)) (Ret (P.alloc (.cells #[.int .i64 hk', .int .i64 hn', .string hs'] 37)) (.bool true))) := Lib.hid fun P hP => by
                    have hA : Below P.heap.size P (P.alloc (.cells #[.int .i64 hk', .int .i64 hn', .string hs'] 37)) := (Below.refl _ _).alloc (Nat.le_refl _) _
                    have hlP := heap_alloc_new P (.cells #[.int .i64 hk', .int .i64 hn', .string hs'] 37)
                    have h1 := HP1.out.trans (hP.mono HP1.out.size)
                    have h2 := h1.trans (hA.mono h1.size)
                    have := slContainsRP (fun x => decide (x = [k0, (hk', hn', hs')])) 15 #[.pointer (some ⟨Z.heap.size, 0, none⟩), .pointer (some ⟨P.heap.size, 0, none⟩)] ent_point2 _ RC _ _ (HRC.out _ h2) (fun P2 i hP2 hi => by
                      have h := h2.trans (hP2.mono h2.size)
                      exact point2_c _ (.slice (some ⟨bw, ow, none⟩) 2 cw) (vr RC i) [k0, (1, (nk : Int), ⟨#[]⟩)] Z.heap.size P.heap.size (hk', hn', hs') P2 ((HRC.out P2 h).2 i hi) (HVr.out P2 h) (HBx.out P2 h) (hzs P2 h) ((hP2.block _ (blk_lt hlP)).trans hlP) (by simp))
                    rw [any_mem hmC] at this
                    exact this
                  have HM : Hid (∀ P, Below Q1.heap.size Q1 P → P.heap[Z.heap.size + 2]? = some (.cells #[.int .i64 hk', .int .i64 hn', .string hs'] 37 (0, 0))) := Lib.hid fun P h => ((hbQ1.trans (h.mono hbQ1.size)).block _ (blk_lt hh)).trans hh
                  have HZs := Lib.hid hzs
                  clear hmB hmC hl hh hQ1 hbQ1 hlQ1 hzs m0 m1 m2
                  go_wp2_with fail
                  refine (point1_c lk ln ls Z.heap.size Q).mono ?_
                  rintro e Qa ⟨rfl, hQa⟩
                  rw [← HQ1.out] at hQa
                  subst hQa
                  clear l0 l1 l2
                  go_wp2_with fail
                  refine KB.out.mono ?_
                  rintro e Q2 ⟨rfl, hb2⟩
                  have hm2 := HM.out Q2 hb2
                  have m0 := blk_get hm2 0
                  have m1 := blk_get hm2 1
                  have m2 := blk_get hm2 2
                  simp at m0 m1 m2
                  have KC2 := Lib.hid (HKC.out Q2 hb2)
                  have Hb2 := Lib.hid hb2
                  clear hm2 hb2
                  go_wp2_with fail
                  refine (point1_c hk' hn' hs' Z.heap.size Q2).mono ?_
                  rintro e Qb ⟨rfl, hQb⟩
                  subst hQb
                  clear m0 m1 m2
                  go_wp2_with fail
                  refine KC2.out.mono ?_
                  rintro e Q4 ⟨rfl, hb4⟩
                  have Hb4 := Lib.hid hb4
                  clear hb4
                  go_wp2_with fail
                  go_roundw
                  case rel =>
                    have h1 := HP1.out.trans (Hb2.out.mono HP1.out.size)
                    have hA : Below Q2.heap.size Q2 (Q2.alloc (.cells #[.int .i64 hk', .int .i64 hn', .string hs'] 37)) := (Below.refl _ _).alloc (Nat.le_refl _) _
                    have h2 := h1.trans (hA.mono h1.size)
                    have h3 := h2.trans (Hb4.out.mono h2.size)
                    exact ⟨q + 1, by rw [hnx]; go_num, by go_num, Hlq.out, Lib.hid (HBZ1.out.trans (h3.mono HBZ1.out.size))⟩
                  case measure => have := Hlq.out; simp [intOf]; omega
            · obtain rfl : q = RA.length := by omega
              have hsum : sumK R ((keysL RA).take RA.length) = R.length := by rw [keysL_all]; exact HP.out.sum
              rw [hsum]
              have g0 : ((R.length : Int) != (R.length : Int)) = false := by simp
              have g1 : ((RA.length : Int) != (RB.length : Int)) = false := by rw [HP.out.lb]; simp
              have g2 : ((RA.length : Int) != (RC.length : Int)) = false := by rw [HP.out.lc]; simp
              clear hsum
              go_wp2_with fail
              go_roundw
              case rel => exact ⟨m + 1, by go_num, Hml.out, Lib.hid (HBY4.out.trans (HBZ.out.mono HBY4.out.size))⟩
              case measure => have := Hml.out; simp [intOf]; omega
        · obtain rfl : m = 4 := by omega
          go_wp2_with fail
          go_roundw
          case rel => exact ⟨j + 1, by go_num, Hlt.out, Lib.hid (HBX2.out.trans (HBY.out.mono HBX2.out.size))⟩
          case measure => have := Hlt.out; simp [intOf]; omega
    · obtain rfl : j = F.length := by omega
      go_wp2_with fail
      go_ret
      exact ⟨rfl, HW9.out.trans (HB5.out.mono HW9.out.size)⟩

set_option maxRecDepth 100000 in
theorem law39Pointwise_lifted (os : Os) (started : os.Started) (H : Type) (enc : TypeId × Value → H) :
    ReturnsInHanded {} Try.checked os 3 .any (Rows.aggregatePointwiseSpec.pre6 enc Try.prog Try.f3 Rows.aggregatePointwiseRow.domain false) (Rows.aggregatePointwiseSpec.post enc Try.prog Try.f3 false true false false) := by
  refine returnsInHanded_of_change (C := Try.checked) Try.own started (by kernel_rfl) Try.func3
    (ChangeSpec.witness6 (enc := enc) (C := Try.checked) false ⟨#[], #[.slice none 0 0], []⟩ 8 (by kernel_rfl) (by kernel_rfl) (by kernel_rfl) (by kernel_rfl)) ?_
  intro W base args ds gs before hval0 hW hcnd _
  have hval : ∀ (j : Nat) t v, Try.f3.params[j]? = some t → args[j]? = some v → Value.okWide Try.prog W .any base t v := hval0
  have hW' := hW
  obtain ⟨p, q, hA0, hV, rfl, hfz, hnd⟩ := hW
  have hA : DataW.TrodAll enc Try.prog W 0 (fun _ => true) true Try.f3.params.toList args.toList ds p := hA0
  have hA1 := hA0
  rw [Try.params3] at hA hval
  obtain ⟨v0, d0, rfl, rfl, h0⟩ := trodAll_one hA
  obtain ⟨rfl, rfl⟩ := trodVars_none hV
  obtain ⟨l, g0, m0⟩ := open_facts (hval 0 22 v0 rfl rfl) h0
  clear hA0 hval0
  have hlt : ∀ x ∈ p, x.block < W.heap.size := fun x hx => hW'.lt x (by simp [hx])
  refine (law39Pointwise_c v0 l W g0 m0).mono fun e W' ⟨he, hg⟩ => ?_
  subst he
  exact ⟨_, rfl, post_of_below (pa := p) (pv := []) hW' (fun _ _ _ => trodAll_mk1 (shut_bool Try.underlying4 _))
    (fun sp hsp => trodAll_keep Try.laidOut hg (by kernel_rfl) hA1 hlt (fun x hx => hsp x (by simp [hx])))
    (fun _ _ => rfl) rfl hg (ok_one (by kernel_rfl) rfl (okWide_bool_mk Try.underlying4 _))⟩

theorem law39Pointwise_holds : Rows.AggregatePointwiseSaid :=
  OpenClaim.holds_of_wide 3 Try.f3 rfl rfl rfl rfl rfl rfl rfl ⟨rfl, rfl, rfl, rfl, rfl⟩ rfl rfl rfl rfl rfl (by kernel_rfl) Try.func3 (by kernel_rfl)
    (of_decide_eq_true (by kernel_rfl)) (by unfold Func.isWrapper; first | (rw [if_pos (by decide +kernel)]; kernel_rfl) | (rw [if_neg (by decide +kernel)]; exact ⟨rfl, rfl⟩))
    (fun os started H enc _ => law39Pointwise_lifted os started H enc)
#print axioms law39Pointwise_holds
end Go.Proofs.Ytohjgegnamcnlaa
