/- Law 39: the chapter's example. -/
import Derived.Test.YtohjgegnamcnlaaGreatAhf
namespace Go.Proofs.YtohjgegnamcnlaaGreat
open Go.RowKit Go.Shelf

def i39 (n : Int) : VRow := [(1, n, ⟨#[]⟩)]
def ex39 : List Fct := [(i39 1, (0, 10)), (i39 2, (5, 15))]
def exS : List Fct := [(i39 1, (0, 5)), (i39 1, (10, 15)), (i39 2, (5, 10))]
theorem int_ok (m n : Int) (q : Sp) : okFct (i39 m) (i39 n, q) = spT q := by
  unfold okFct colsB kindB
  have hv : vB (va (i39 n) 0) = true := vB_int n
  have hk : (va (i39 n) 0).1 = (va (i39 m) 0).1 := rfl
  have hl : (i39 n).length = 1 := rfl
  have hl2 : (i39 m).length = 1 := rfl
  simp [hl, hl2, hv, hk]
theorem ex_valid : validF ex39 = true := by
  refine valid_yes (by decide) fun i hi => ?_
  have hi2 : i < 2 := hi
  rcases (by omega : i = 0 ∨ i = 1) with rfl | rfl
  · exact (int_ok 1 1 (0, 10)).trans (by decide)
  · exact (int_ok 1 2 (5, 15)).trans (by decide)
theorem ex_bad : bad1 ex39 1 0 = false := by
  unfold bad1
  rw [ex_valid]
  decide
theorem ex_rows (t : Int) : rowsAt ex39 t = (if 0 ≤ t ∧ t < 10 then [i39 1] else []) ++ (if 5 ≤ t ∧ t < 15 then [i39 2] else []) := by
  have hne : hasR [i39 1] (i39 2) = false := by decide
  have h0 : hasR [] (i39 1) = false := rfl
  have h1 : hasR [] (i39 2) = false := rfl
  have a1 : actB (i39 1, (0, 10)) t = true ↔ 0 ≤ t ∧ t < 10 := by unfold actB; simp
  have a2 : actB (i39 2, (5, 15)) t = true ↔ 5 ≤ t ∧ t < 15 := by unfold actB; simp
  have in1 : rowsN ex39 t 1 = if 0 ≤ t ∧ t < 10 then [i39 1] else [] := by
    show (if actB (i39 1, (0, 10)) t = true ∧ hasR [] (i39 1) = false then [] ++ [i39 1] else []) = _
    by_cases q1 : 0 ≤ t ∧ t < 10
    · rw [if_pos ⟨a1.2 q1, h0⟩, if_pos q1]; rfl
    · rw [if_neg (fun h => q1 (a1.1 h.1)), if_neg q1]
  show rowsN ex39 t 2 = _
  rw [rowsN_succ, in1]
  show (if actB (i39 2, (5, 15)) t = true ∧ hasR (if 0 ≤ t ∧ t < 10 then [i39 1] else []) (i39 2) = false then (if 0 ≤ t ∧ t < 10 then [i39 1] else []) ++ [i39 2] else (if 0 ≤ t ∧ t < 10 then [i39 1] else [])) = _
  have hh : hasR (if 0 ≤ t ∧ t < 10 then [i39 1] else []) (i39 2) = false := by
    split
    · exact hne
    · exact h1
  by_cases q2 : 5 ≤ t ∧ t < 15
  · rw [if_pos ⟨a2.2 q2, hh⟩, if_pos q2]
  · rw [if_neg (fun h => q2 (a2.1 h.1)), if_neg q2, List.append_nil]
theorem cnt_out {R : List VRow} {x : VRow} : OutIn [] 1 0 R x ↔ R ≠ [] ∧ x = i39 (R.length : Int) := by
  have hm : memG [] R ([] : VRow) = R := by unfold memG pickR; simp
  have ho : ∀ r, outR [] 1 0 R (pickR r []) = i39 (R.length : Int) := fun r => by
    show [] ++ [(resR 1 0 (memG [] R [])).1] = _
    rw [hm]
    rfl
  unfold OutIn
  constructor
  · rintro ⟨r, hr, e⟩
    exact ⟨List.ne_nil_of_mem hr, e.trans (ho r)⟩
  · rintro ⟨h, e⟩
    obtain ⟨r, hr⟩ := List.exists_mem_of_ne_nil R h
    exact ⟨r, hr, e.trans (ho r).symm⟩
theorem ex_norm : NormOf exS (DGrp ex39 [] 1 0) := by
  have h12 : i39 1 ≠ i39 2 := by decide
  refine ⟨by decide, fun v => ?_, fun v t => ?_⟩
  · by_cases h1 : v = i39 1
    · subst h1
      have : (exS.filter fun f => decide (f.1 = i39 1)).map (·.2) = [(0, 5), (10, 15)] := by decide
      rw [this]
      refine ⟨fun s hs => ?_, by decide⟩
      simp only [List.mem_cons, List.not_mem_nil, or_false] at hs
      unfold OkSp
      rcases hs with rfl | rfl <;> simp
    · by_cases h2 : v = i39 2
      · subst h2
        have : (exS.filter fun f => decide (f.1 = i39 2)).map (·.2) = [(5, 10)] := by decide
        rw [this]
        refine ⟨fun s hs => ?_, by decide⟩
        simp only [List.mem_cons, List.not_mem_nil, or_false] at hs
        unfold OkSp
        rw [hs]; simp
      · have : (exS.filter fun f => decide (f.1 = v)) = [] := by
          rw [List.filter_eq_nil_iff]
          intro f hf hd
          have := of_decide_eq_true hd
          simp only [exS, List.mem_cons, List.not_mem_nil, or_false] at hf
          rcases hf with rfl | rfl | rfl
          · exact h1 this.symm
          · exact h1 this.symm
          · exact h2 this.symm
        rw [this]
        exact canon_nil
  · unfold DGrp
    rw [cnt_out, ex_rows]
    have key : (∃ f ∈ exS, f.1 = v ∧ f.2.1 ≤ t ∧ t < f.2.2) ↔ (i39 1 = v ∧ 0 ≤ t ∧ t < 5) ∨ (i39 1 = v ∧ 10 ≤ t ∧ t < 15) ∨ (i39 2 = v ∧ 5 ≤ t ∧ t < 10) := by
      unfold exS
      simp
    rw [key]
    have hl1 : ∀ r : VRow, [r] ≠ [] := by simp
    by_cases q1 : 0 ≤ t ∧ t < 10 <;> by_cases q2 : 5 ≤ t ∧ t < 15
    · rw [if_pos q1, if_pos q2]
      constructor
      · rintro (⟨_, h⟩ | ⟨_, h⟩ | ⟨e, h⟩)
        · omega
        · omega
        · exact ⟨by simp, e.symm⟩
      · rintro ⟨_, e⟩
        exact .inr (.inr ⟨e.symm, by omega⟩)
    · rw [if_pos q1, if_neg q2]
      constructor
      · rintro (⟨e, h⟩ | ⟨_, h⟩ | ⟨_, h⟩)
        · exact ⟨by simp, e.symm⟩
        · omega
        · omega
      · rintro ⟨_, e⟩
        exact .inl ⟨e.symm, by omega⟩
    · rw [if_neg q1, if_pos q2]
      constructor
      · rintro (⟨_, h⟩ | ⟨e, h⟩ | ⟨_, h⟩)
        · omega
        · exact ⟨by simp, e.symm⟩
        · omega
      · rintro ⟨_, e⟩
        exact .inr (.inl ⟨e.symm, by omega⟩)
    · rw [if_neg q1, if_neg q2]
      constructor
      · rintro (⟨_, h⟩ | ⟨_, h⟩ | ⟨_, h⟩) <;> omega
      · rintro ⟨h, _⟩
        exact absurd rfl h
theorem ex_tot : TotS ex39 0 (0, 20) = (30, 0) := by
  have h : totF ex39 0 (0, 20) = 30 := by decide
  rw [tots_ok (by rw [ex_valid]; decide) (by decide)]
  show totR (totF ex39 0 (0, 20)) = _
  rw [h]
  rfl
def FactRet39 (n a b : Int) (w : World) (e : Ending) (w' : World) : Prop := ∃ g, e = .returned (.agg #[.slice (some ⟨g, 0, none⟩) 1 1, .int .i64 a, .int .i64 b]) ∧ IsVals w' (.slice (some ⟨g, 0, none⟩) 1 1) (i39 n) ∧ Below w.heap.size w w'
theorem fact39_c (n a b : Int) (w : World) : Calls Tryz.prog 25 #[.int .i64 n, .int .i64 a, .int .i64 b] w (FactRet39 n a b w) := by
  go_enter Tryz.func25, Tryz.ntmps25
  go_wp2_with fail
  have b1 := (Below.refl w.heap.size w).alloc (Nat.le_refl _) (.cells #[.slice (some ⟨w.heap.size + 1, 0, none⟩) 1 1, .int .i64 a, .int .i64 b] 49)
  have b2 := (Below.refl _ (w.alloc (.cells #[.slice (some ⟨w.heap.size + 1, 0, none⟩) 1 1, .int .i64 a, .int .i64 b] 49))).alloc (Nat.le_refl _) (.cells #[.int .i64 1, .int .i64 n, .string ⟨#[]⟩] 51)
  have hz : (w.alloc (.cells #[.slice (some ⟨w.heap.size + 1, 0, none⟩) 1 1, .int .i64 a, .int .i64 b] 49)).heap.size = w.heap.size + 1 := by simp
  have hc := (b2.block w.heap.size (by omega)).trans (heap_alloc_new w _)
  have hv := heap_alloc_new (w.alloc (.cells #[.slice (some ⟨w.heap.size + 1, 0, none⟩) 1 1, .int .i64 a, .int .i64 b] 49)) (.cells #[.int .i64 1, .int .i64 n, .string ⟨#[]⟩] 51)
  rw [hz] at hv
  refine bodyPost_ret (results_cell_row rfl _ _ w.heap.size 49 _ _ _ rfl hc Tryz.underlying49 rfl (by kernel_rfl)) rfl ?_
  refine ⟨w.heap.size + 1, rfl, ⟨_, _, rfl, Nat.le_refl _, by omega, fun _ => ⟨w.heap.size + 1, 0, rfl, by simp, fun i j hi hj => ?_⟩⟩, b1.trans (b2.mono (by omega))⟩
  have hi0 : i = 0 := by have : (i39 n).length = 1 := rfl; omega
  subst hi0
  rw [blk_get hv]
  rcases (by omega : j = 0 ∨ j = 1 ∨ j = 2) with rfl | rfl | rfl <;> rfl
theorem ex_mach : MachF ex39 := fun f hf x hx => by
  simp only [ex39, List.mem_cons, List.not_mem_nil, or_false] at hf
  unfold I64
  rcases hf with rfl | rfl <;> (simp only [i39, List.mem_cons, List.not_mem_nil, or_false] at hx; subst hx; simp)
theorem noerr_count {F : List Fct} {ks : List Int} {col : Nat} : ¬ ∃ t, ErrIn ks 1 col (rowsAt F t) := by
  rintro ⟨t, r, _, h⟩
  exact h rfl
theorem ex_steps {c : Int} {v : Value} {w' : World} (h : GrpSpec ex39 [] 1 0 c v w') : c = 0 ∧ IsFs w' v exS := by
  unfold GrpSpec at h
  rw [if_neg (by rw [ex_bad]; decide), if_neg (by decide), if_neg (by decide), if_neg (by decide), if_neg (by decide)] at h
  rcases h with ⟨h, _⟩ | ⟨_, A, hA, _, h⟩
  · exact absurd h noerr_count
  · have e := norm_unique hA ex_norm
    subst e
    rcases h with ⟨h, _⟩ | ⟨_, h1, h2⟩
    · exact absurd h (by decide)
    · exact ⟨h1, h2⟩
theorem fs_two {w : World} {b g1 g2 : Nat} {t : TypeId} {n1 n2 a1 b1 a2 b2 : Int} (hb : w.heap[b]? = some (.cells #[.slice (some ⟨g1, 0, none⟩) 1 1, .int .i64 a1, .int .i64 b1, .slice (some ⟨g2, 0, none⟩) 1 1, .int .i64 a2, .int .i64 b2] t (0, 0)))
    (h1 : IsVals w (.slice (some ⟨g1, 0, none⟩) 1 1) (i39 n1)) (h2 : IsVals w (.slice (some ⟨g2, 0, none⟩) 1 1) (i39 n2)) : IsFs w (.slice (some ⟨b, 0, none⟩) 2 2) [(i39 n1, (a1, b1)), (i39 n2, (a2, b2))] := by
  refine ⟨fun i => if i = 0 then .slice (some ⟨g1, 0, none⟩) 1 1 else .slice (some ⟨g2, 0, none⟩) 1 1, ⟨_, _, rfl, Nat.le_refl _, by omega, fun _ => ⟨b, 0, rfl, blk_lt hb, fun i j hi hj => ?_⟩⟩, fun i hi => ?_⟩
  · rw [blk_get hb]
    have hi3 : i < 2 := hi
    rcases (by omega : i = 0 ∨ i = 1) with rfl | rfl <;> rcases (by omega : j = 0 ∨ j = 1 ∨ j = 2) with rfl | rfl | rfl <;> rfl
  · have hi3 : i < 2 := hi
    rcases (by omega : i = 0 ∨ i = 1) with rfl | rfl
    · exact h1
    · exact h2
theorem fs_three {w : World} {b g1 g2 g3 : Nat} {t : TypeId} {n1 n2 n3 a1 b1 a2 b2 a3 b3 : Int} (hb : w.heap[b]? = some (.cells #[.slice (some ⟨g1, 0, none⟩) 1 1, .int .i64 a1, .int .i64 b1, .slice (some ⟨g2, 0, none⟩) 1 1, .int .i64 a2, .int .i64 b2, .slice (some ⟨g3, 0, none⟩) 1 1, .int .i64 a3, .int .i64 b3] t (0, 0)))
    (h1 : IsVals w (.slice (some ⟨g1, 0, none⟩) 1 1) (i39 n1)) (h2 : IsVals w (.slice (some ⟨g2, 0, none⟩) 1 1) (i39 n2)) (h3 : IsVals w (.slice (some ⟨g3, 0, none⟩) 1 1) (i39 n3)) : IsFs w (.slice (some ⟨b, 0, none⟩) 3 3) [(i39 n1, (a1, b1)), (i39 n2, (a2, b2)), (i39 n3, (a3, b3))] := by
  refine ⟨fun i => if i = 0 then .slice (some ⟨g1, 0, none⟩) 1 1 else if i = 1 then .slice (some ⟨g2, 0, none⟩) 1 1 else .slice (some ⟨g3, 0, none⟩) 1 1, ⟨_, _, rfl, Nat.le_refl _, by omega, fun _ => ⟨b, 0, rfl, blk_lt hb, fun i j hi hj => ?_⟩⟩, fun i hi => ?_⟩
  · rw [blk_get hb]
    have hi3 : i < 3 := hi
    rcases (by omega : i = 0 ∨ i = 1 ∨ i = 2) with rfl | rfl | rfl <;> rcases (by omega : j = 0 ∨ j = 1 ∨ j = 2) with rfl | rfl | rfl <;> rfl
  · have hi3 : i < 3 := hi
    rcases (by omega : i = 0 ∨ i = 1 ∨ i = 2) with rfl | rfl | rfl
    · exact h1
    · exact h2
    · exact h3
set_option maxRecDepth 100000 in
set_option maxHeartbeats 4000000 in
theorem awake39_c (w : World) : Calls Tryz.prog 8 #[] w (Ret w (.bool true)) := by
  have KF : Hid (∀ (n a b : Int) (W : World), Calls Tryz.prog 25 #[.int .i64 n, .int .i64 a, .int .i64 b] W (FactRet39 n a b W)) := Lib.hid fact39_c
  go_enter Tryz.func8, Tryz.ntmps8
  go_wp2_with fail
  refine (KF.out 1 0 10 w).mono ?_
  rintro e w1 ⟨g1, rfl, v1, hb1⟩
  have V1 := Lib.hid v1; have kb := hb1
  clear v1 hb1
  go_wp2_with fail
  refine (KF.out 2 5 15 w1).mono ?_
  rintro e w2 ⟨g2, rfl, v2, hb2⟩
  have ha := (Below.refl w2.heap.size w2).alloc (Nat.le_refl _) (.cells #[.slice (some ⟨g1, 0, none⟩) 1 1, .int .i64 0, .int .i64 10, .slice (some ⟨g2, 0, none⟩) 1 1, .int .i64 5, .int .i64 15] 49)
  have hfs := fs_two (heap_alloc_new w2 (.cells #[.slice (some ⟨g1, 0, none⟩) 1 1, .int .i64 0, .int .i64 10, .slice (some ⟨g2, 0, none⟩) 1 1, .int .i64 5, .int .i64 15] 49)) ((V1.out.below hb2).below ha) (v2.below ha)
  have kb := (kb.trans (hb2.mono kb.size)).trans (ha.mono (Nat.le_trans kb.size hb2.size))
  have KS := Lib.hid (aSteps_c _ ex39 _ hfs ex_mach (by decide))
  have HFS := Lib.hid hfs; have KB := Lib.hid kb
  clear v2 hb2 ha hfs kb
  go_wp2_with fail
  refine KS.out.mono ?_
  rintro e w3 ⟨r3, c3, rfl, hb3, hsp⟩
  obtain ⟨rfl, hr3⟩ := ex_steps hsp
  have hfs := HFS.out.below hb3
  have kb := KB.out.trans (hb3.mono KB.out.size)
  have KT := Lib.hid (aTotal_c _ ex39 0 (0, 20) w3 hfs ex_mach (by decide))
  rw [ex_tot] at KT
  have HR3 := Lib.hid hr3; have KB := Lib.hid kb
  clear hsp hr3 hfs kb hb3
  go_wp2_with fail
  refine KT.out.mono ?_
  rintro e w4 ⟨rfl, hb4⟩
  have hr4 := HR3.out.below hb4
  have kb := KB.out.trans (hb4.mono KB.out.size)
  have HR4 := Lib.hid hr4; have KB := Lib.hid kb
  clear hr4 hb4 kb
  go_wp2_with fail
  refine (KF.out 1 0 5 w4).mono ?_
  rintro e w5 ⟨g5, rfl, v5, hb5⟩
  have V5 := Lib.hid v5; have HR5 := Lib.hid (HR4.out.below hb5); have KB := Lib.hid (KB.out.trans (hb5.mono KB.out.size))
  clear v5 hb5
  go_wp2_with fail
  refine (KF.out 1 10 15 w5).mono ?_
  rintro e w6 ⟨g6, rfl, v6, hb6⟩
  have V5 := Lib.hid (V5.out.below hb6); have V6 := Lib.hid v6; have HR6 := Lib.hid (HR5.out.below hb6); have KB := Lib.hid (KB.out.trans (hb6.mono KB.out.size))
  clear v6 hb6
  go_wp2_with fail
  refine (KF.out 2 5 10 w6).mono ?_
  rintro e w7 ⟨g7, rfl, v7, hb7⟩
  have ha := (Below.refl w7.heap.size w7).alloc (Nat.le_refl _) (.cells #[.slice (some ⟨g5, 0, none⟩) 1 1, .int .i64 0, .int .i64 5, .slice (some ⟨g6, 0, none⟩) 1 1, .int .i64 10, .int .i64 15, .slice (some ⟨g7, 0, none⟩) 1 1, .int .i64 5, .int .i64 10] 49)
  have hfs := fs_three (heap_alloc_new w7 (.cells #[.slice (some ⟨g5, 0, none⟩) 1 1, .int .i64 0, .int .i64 5, .slice (some ⟨g6, 0, none⟩) 1 1, .int .i64 10, .int .i64 15, .slice (some ⟨g7, 0, none⟩) 1 1, .int .i64 5, .int .i64 10] 49)) ((V5.out.below hb7).below ha) ((V6.out.below hb7).below ha) (v7.below ha)
  have kb := (KB.out.trans (hb7.mono KB.out.size)).trans (ha.mono (Nat.le_trans KB.out.size hb7.size))
  have KQ := Lib.hid (r39Same_c _ _ exS exS _ ((HR6.out.below hb7).below ha) hfs)
  have hsm : sameF exS exS = true := decide_eq_true rfl
  rw [hsm] at KQ
  have KB := Lib.hid kb
  clear v7 hb7 ha hfs kb hsm
  go_wp2_with fail
  refine KQ.out.mono ?_
  rintro e w8 ⟨rfl, hb8⟩
  have kb := KB.out.trans (hb8.mono KB.out.size)
  clear hb8
  go_wp2_with fail
  go_ret
  exact ⟨rfl, kb⟩
end Go.Proofs.YtohjgegnamcnlaaGreat
