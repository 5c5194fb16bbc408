/- IndexLeaves: the walk through all entries can be left at any time, for every tree and number. No condition. -/
import Derived.Test.YtgdcgdjlhljbiaaIyL
import Derived.Test.YtgdcgdjlhljbiaaTree
namespace Go.Proofs.Ytgdcgdjlhljbiaa
open Go.RowKit Go.Shelf Go.ChangeShapes Go.WideShapes Go.ChangeAt
attribute [local go_sem] Oper.semAt_some

/-- What holds between two rounds: k entries have been counted; all else lies as it lay. -/
def LvI (w : World) (n0 : Nat) (v : Value) (root stop : Int) (k : Nat) (W : World) : Prop :=
  W.heap[n0]? = some (.cells #[.int .i64 k] 3 (0, 0)) ∧ W.heap[w.heap.size + 1]? = some (.cells #[.int .u8 stop] 5 (0, 0)) ∧ W.heap[w.heap.size]? = some (.cells #[v, .int .i64 root] 24 (0, 0)) ∧ Below w.heap.size w W
theorem LvI.kept {w : World} {n0 : Nat} {v : Value} {root stop : Int} {k B : Nat} {A C : World} {row : Option Nat} (hB : w.heap.size ≤ B) (h : LvI w n0 v root stop k A) (hg : A.grownBy C row) (hr : ∀ r, row = some r → B ≤ r ∧ ∃ o : Obj, A.heap[r]? = some o ∧ o.isCells = false) : LvI w n0 v root stop k C :=
  have hr' := fun r e => (hr r e).2
  ⟨(grownBy_keeps_cells hg hr' h.1 rfl).trans h.1, (grownBy_keeps_cells hg hr' h.2.1 rfl).trans h.2.1, (grownBy_keeps_cells hg hr' h.2.2.1 rfl).trans h.2.2.1, h.2.2.2.grown hg h.2.2.2.size (fun k e => Nat.le_trans hB (hr k e).1)⟩
theorem lvI_own (n0 : Nat) {w : World} (v : Value) {root stop : Int} {B : Nat} (hB : w.heap.size ≤ B) (f : List En → Nat) : OwnFrom B (fun pre W => LvI w n0 v root stop (f pre) W ∧ (f pre : Int) ≤ stop) := fun _ _ _ _ hs hg hr => ⟨hs.1.kept hB hg hr, hs.2⟩
theorem lvI_ownx (n0 : Nat) {w : World} (v : Value) {root stop : Int} {B : Nat} (hB : w.heap.size ≤ B) (c' : Code) : OwnFrom B (fun (pre : List En) W => ∃ k : Nat, c' = .exit 0 ∧ LvI w n0 v root stop k W ∧ (k : Int) = stop ∧ k < pre.length) := fun _ _ _ _ ⟨k, h1, h2, h3⟩ hg hr => ⟨k, h1, h2.kept hB hg hr, h3⟩
theorem wfu8 {n : Int} (h : (Lit.int .u8 n).wf = true) : 0 ≤ n ∧ n ≤ 255 := by
  simp [Lit.wf, IntKind.min, IntKind.max, IntKind.signed, IntKind.bits] at h
  omega
theorem comes_length {N : List Nd} {root : Int} (h : treeB N root = true) : (comes N root).length = N.length := by
  obtain ⟨L, hh, mm, _, _, e1, e2⟩ := entsT_spec (treeB_valid h).2
  unfold comes
  rw [if_pos h, e2]
  simp [entsOf, e1]
set_option maxRecDepth 100000 in
set_option maxHeartbeats 4000000 in
theorem law42Leaves_c (v : Value) (root : Int) (N : List Nd) (stop : Int) (w : World) (hs : IsNodes w v N) (h0 : 0 ≤ stop) (h1 : stop ≤ 255) : Calls Try.prog 5 #[.agg #[v, .int .i64 root], .int .u8 stop] w (Ret w (.bool true)) := by
  obtain ⟨A, c, rfl, hnc, hc⟩ := hs.form
  obtain ⟨w1, hw1⟩ : ∃ x, x = (w.alloc (.cells #[.slice A N.length c, .int .i64 root] 24)).alloc (.cells #[.int .u8 stop] 5) := ⟨_, rfl⟩
  have hB1 : Below w.heap.size w w1 := by rw [hw1]; exact ((Below.refl _ _).alloc (Nat.le_refl _) _).alloc (by simp) _
  have hT : w1.heap[w.heap.size]? = some (.cells #[.slice A N.length c, .int .i64 root] 24 (0, 0)) := by rw [hw1]; exact old_blk (new_blk _ _ rfl)
  have hP : w1.heap[w.heap.size + 1]? = some (.cells #[.int .u8 stop] 5 (0, 0)) := by rw [hw1]; exact new_blk _ _ (by simp)
  have HB1 := Lib.hid hB1; have HT := Lib.hid hT; have HP := Lib.hid hP; have Hs := Lib.hid hs; have Hw1 := Lib.hid hw1
  have KG : Hid (∀ W, Below w.heap.size w W → Calls Try.prog 13 #[.agg #[.slice A N.length c, .int .i64 root]] W (Ret W (.bool (greatB N)))) := Lib.hid fun W hb => great42_c _ _ _ _ (hs.below hb)
  clear hB1 hT hP hs hw1
  cases hg : greatB N
  rotate_left
  · rw [hg] at KG
    clear hg
    go_enter Try.func5, Try.ntmps5
    go_wp2_with fail
    rw [← Hw1.out]
    refine (awake42_c _).mono ?_
    rintro e W ⟨rfl, hb⟩
    have hTT := (hb.block _ (lt_of_block HT.out)).trans HT.out
    have hB := HB1.out.trans (hb.mono HB1.out.size)
    have t0 := blk_cell hTT 0
    have t1 := blk_cell hTT 1
    simp at t0 t1
    clear hTT
    go_wp2_with fail
    refine (KG.out _ hB).mono ?_
    rintro e W' ⟨rfl, hb2⟩
    clear t0 t1
    go_wp2_with fail
    go_ret
    exact ⟨rfl, hB.trans (hb2.mono hB.size)⟩
  rw [hg] at KG
  clear hg
  refine (callsIn_wide (n := 8)).1 ?_
  refine callsIn_of_wp_marks Try.func5 rfl trivial ?_ rfl
  simp only [Try.ntmps5, List.size_toArray, List.length_cons, List.length_nil, Nat.reduceAdd, Nat.reduceSub, Array.replicate_succ, Array.replicate_zero, List.push_toArray, List.append_toArray, List.nil_append, List.cons_append]
  gi_wp2_with fail
  rw [← Hw1.out]
  refine ⟨trivial, (callsIn_wide.2 (awake42_c _)).mono ?_⟩
  rintro e W ⟨rfl, hb⟩
  have hTT := (hb.block _ (lt_of_block HT.out)).trans HT.out
  have hPP := (hb.block _ (lt_of_block HP.out)).trans HP.out
  have hB := HB1.out.trans (hb.mono HB1.out.size)
  have t0 := blk_cell hTT 0
  have t1 := blk_cell hTT 1
  simp at t0 t1
  clear HB1 HT HP Hw1 hb
  gi_wp2_with fail
  refine ⟨trivial, (callsIn_wide.2 (KG.out _ hB)).mono ?_⟩
  rintro e W3 ⟨rfl, hb⟩
  replace hTT := (hb.block _ (lt_of_block hTT)).trans hTT
  replace hPP := (hb.block _ (lt_of_block hPP)).trans hPP
  replace hB := hB.trans (hb.mono hB.size)
  clear hb t0 t1
  obtain ⟨W4, hW4⟩ : ∃ x, x = W3.alloc (.cells #[.int .i64 0] 3) := ⟨_, rfl⟩
  obtain ⟨n0, hn0⟩ : ∃ x, x = W3.heap.size := ⟨_, rfl⟩
  have hb4 : Below W3.heap.size W3 W4 := by rw [hW4]; exact (Below.refl _ _).alloc (Nat.le_refl _) _
  have hC4 : W4.heap[n0]? = some (.cells #[.int .i64 0] 3 (0, 0)) := by rw [hW4, hn0]; exact heap_alloc_new W3 _
  have hB4 := hB.trans (hb4.mono hB.size)
  have hT4 := (hb4.block _ (lt_of_block hTT)).trans hTT
  have hP4 := (hb4.block _ (lt_of_block hPP)).trans hPP
  have hs4 := Hs.out.below hB4
  have hz4 : W4.heap.size = n0 + 1 := by rw [hW4, hn0]; simp
  have hn3 : w.heap.size + 1 < n0 := by rw [hn0]; exact lt_of_block hPP
  have t0 := blk_cell hT4 0
  have t1 := blk_cell hT4 1
  simp at t0 t1
  rw [hW4] at t0 t1
  have HW4 := Lib.hid hW4; have Hn0 := Lib.hid hn0; have HB4 := Lib.hid hB4; have HC4 := Lib.hid hC4; have HT4 := Lib.hid hT4; have HP4 := Lib.hid hP4; have Hs4 := Lib.hid hs4; have Hz4 := Lib.hid hz4
  clear hW4 hn0 hb4 hC4 hB4 hT4 hP4 hs4 hz4 hTT hPP hB
  gi_wp2_with fail
  rw [← HW4.out]
  refine ⟨trivial, (callsIn_wide.2 (xAll_c _ root N _ Hs4.out)).mono ?_⟩
  rintro e W5 ⟨rfl, rfl⟩
  gi_wp2_with fail
  rw [← Hn0.out]
  obtain ⟨W6, hW6⟩ : ∃ x, x = W4.alloc (.cells #[.slice A N.length c, .int .i64 root] 24) := ⟨_, rfl⟩
  rw [← hW6]
  have hb6 : Below W4.heap.size W4 W6 := by rw [hW6]; exact (Below.refl _ _).alloc (Nat.le_refl _) _
  have hz6 : W6.heap.size = n0 + 2 := by rw [hW6, World.size_alloc, Hz4.out]
  have hTT : W6.heap[W4.heap.size]? = some (.cells #[.slice A N.length c, .int .i64 root] 24 (0, 0)) := by rw [hW6]; exact heap_alloc_new W4 _
  have hB6 := HB4.out.trans (hb6.mono HB4.out.size)
  have hC6 := (hb6.block _ (lt_of_block HC4.out)).trans HC4.out
  have hP6 := (hb6.block _ (lt_of_block HP4.out)).trans HP4.out
  have hT6 := (hb6.block _ (lt_of_block HT4.out)).trans HT4.out
  have hs6 := Hs4.out.below hb6
  have hlow : LowNodes n0 W6 (.slice A N.length c) N := ⟨hs6, (LowNodes.of Hs.out (by omega)).2⟩
  have hwf : wfBox n0 3 W6 := ⟨_, hC6, fun k h => by cases h⟩
  refine wpIn_rangeFunc_ownF rfl (by omega) (gf := 56) (lb := #[.pointer (some ⟨W4.heap.size, 0, none⟩)]) rfl trivial (enters_of Try.func56 (by kernel_rfl) rfl)
    (xAll_stops (dom_box n0 3) 7 W4.heap.size N root _ W6 hlow hTT hwf) KpW.trans (fun W l o o' _ h hc _ => kpW_b (box_put n0 3) W l o o' h hc) (Below.refl _ _) (fun _ => rfl)
    (fun pre W => LvI w n0 (.slice A N.length c) root stop pre.length W ∧ (pre.length : Int) ≤ stop)
    (fun c' pre W => ∃ k : Nat, c' = .exit 0 ∧ LvI w n0 (.slice A N.length c) root stop k W ∧ (k : Int) = stop ∧ k < pre.length)
    (lvI_own _ _ (by omega) _) (fun c' => lvI_ownx _ _ (by omega) c') ⟨⟨hC6, hP6, hT6, hB6⟩, by simpa using h0⟩
    (fun x => { tmps :=
        #[.agg #[.slice A N.length c, .int .i64 root], .int .u8 stop,
          .pointer (some { block := w.heap.size, off := 0 }),
          .pointer (some { block := w.heap.size + 1, off := 0 }), .bool false,
          .pointer (some { block := n0, off := 0 }), .bool true, .bool false,
          .agg #[.slice A N.length c, .int .i64 root], .bool false,
          .agg #[.slice A N.length c, .int .i64 root],
          .func (.func 56) #[] #[.pointer (some { block := W4.heap.size, off := 0 })], .agg #[.int .i64 x.1, .int .i64 x.2.1], .int .i64 x.2.2, undef,
          undef, undef, undef, undef, undef, undef, undef, undef, undef, undef, undef, undef, undef, undef, undef,
          undef, undef, undef], defers := [] }) ?assign ?body ?done ?stop
  case assign =>
    intro l x W K hK
    unfold encs2
    gi_wp2
    exact hK
  case body =>
    rintro l pre x W ⟨⟨hC, hP, hT, hB⟩, hle⟩ hlt
    have t0 := blk_cell hC 0
    have t1 := blk_cell hP 0
    have t2 := blk_frozen hC
    simp at t0 t1
    have hlen : pre.length < 256 := by omega
    dsimp only
    gi_wp2
    · rename_i hx
      refine ⟨KeepsOthers.refl _, pre.length, rfl, ⟨hC, hP, hT, hB⟩, ?_, by simp⟩
      simpa using hx
    · rename_i hx
      have hx' : (pre.length : Int) ≠ stop := by simpa using hx
      have hn : n0 ≠ w.heap.size := by omega
      have hn1 : n0 ≠ w.heap.size + 1 := by omega
      have hkk : Kp (wfBox n0 3) (OBox n0 3) W (W.setCell ⟨n0, 0, none⟩ (.int .i64 (pre.length + 1))) := kp_box hC (by intro h; cases h) (Nat.le_refl _) (fun _ _ _ => rfl) (fun k h => by cases h) (fun k h => by cases h)
      refine ⟨KeepsOthers.setCell _ _ _, fun _ => hkk, ⟨?_, (Below.heap_setCell _ _ _ _ (fun h => hn1 h.symm)).trans hP, (Below.heap_setCell _ _ _ _ (fun h => hn h.symm)).trans hT, hB.setCell (p := ⟨n0, 0, none⟩) (by simp; omega) _⟩, ?_⟩
      · simp [World.setCell, Array.getElem?_modify, hC]
      · simp; omega
  case' done =>
    rintro D ys W hD rfl ⟨⟨hC, hP, hT, hB⟩, hle⟩ hK
    obtain ⟨k, hk⟩ : ∃ k, k = (comes N root).length := ⟨_, rfl⟩
    have hkk : (treeB N root = false → k = 0) ∧ (treeB N root = true → (k : Int) = min stop (N.length : Int)) := by
      refine ⟨fun h => by rw [hk]; unfold comes; rw [h]; rfl, fun h => ?_⟩
      rw [hk] at *
      rw [comes_length h] at hle ⊢
      omega
    rw [← hk] at hC
    clear hk hle
  case' stop =>
    rintro D c' pre W hD hpre ⟨k, rfl, ⟨hC, hP, hT, hB⟩, hks, hkp⟩ hK
    have hkk : (treeB N root = false → k = 0) ∧ (treeB N root = true → (k : Int) = min stop (N.length : Int)) := by
      have hpl := hpre.length_le
      refine ⟨fun h => ?_, fun h => ?_⟩
      · exfalso
        have : comes N root = [] := by unfold comes; rw [h]; rfl
        rw [this] at hpl
        simp at hpl
        simp [hpl] at hkp
      · rw [comes_length h] at hpl
        omega
    clear hpre hkp
  all_goals
    have hD' : w.heap.size ≤ D := by omega
    have hsW := Hs.out.below hB
    have KV := xValid_c _ root N W hsW
    have t0 := blk_cell hT 0
    have t1 := blk_cell hT 1
    simp at t0 t1
    clear hD
    gi_wp2_with fail
    refine ⟨trivial, (callsIn_wide.2 KV).mono ?_⟩
    rintro e W7 ⟨rfl, hb7⟩
    clear t0 t1
    have t2 := blk_cell ((hb7.block _ (lt_of_block hC)).trans hC) 0
    have t3 := blk_cell ((hb7.block _ (lt_of_block hP)).trans hP) 0
    have t0 := blk_cell ((hb7.block _ (lt_of_block hT)).trans hT) 0
    simp at t2 t3 t0
    replace hB := hB.trans (hb7.mono hB.size)
    replace hK := (hb7.block _ (lt_of_block hK)).trans hK
    clear hb7
    cases hv : treeB N root
    · rw [hkk.1 hv] at t2
      clear hC hP hT
      gi_wp2_with fail
      refine ⟨by simp, .inl ⟨_, _, rfl, run_takeDeferred hK, ?_⟩⟩
      exact ⟨_, results_tmp rfl _ _ _, rfl, hB.trans (belowK_b (w := w) (Nat.le_refl _) W7 D _ _ hD' hK rfl rfl)⟩
    · replace hkk := hkk.2 hv
      clear hC hP hT
      gi_wp2_with fail
      refine ⟨by simp, .inl ⟨_, _, rfl, run_takeDeferred hK, ?_⟩⟩
      refine ⟨_, results_tmp rfl _ _ _, ?_, hB.trans (belowK_b (w := w) (Nat.le_refl _) W7 D _ _ hD' hK rfl rfl)⟩
      first
      | rfl
      | (rw [beq_iff_eq.2 (hks.symm.trans hkk)]; rfl)

set_option maxRecDepth 100000 in
theorem law42Leaves_lifted (os : Os) (started : os.Started) (H : Type) (enc : TypeId × Value → H) :
    ReturnsInHanded {} Try.checked os 5 .any (Rows.indexLeavesSpec.pre6 enc Try.prog Try.f5 Rows.indexLeavesRow.domain false) (Rows.indexLeavesSpec.post enc Try.prog Try.f5 false true false false) := by
  refine returnsInHanded_of_change (C := Try.checked) Try.own started (by kernel_rfl) Try.func5
    (ChangeSpec.witness6 (enc := enc) (C := Try.checked) false ⟨#[], #[.agg #[.slice none 0 0, .int .i64 0], .int .u8 0], []⟩ 8 (by kernel_rfl) (by kernel_rfl) (by kernel_rfl) (by kernel_rfl)) ?_
  intro W base args ds gs before hval0 hW hcnd _
  have hval : ∀ (j : Nat) t v, Try.f5.params[j]? = some t → args[j]? = some v → Value.okWide Try.prog W .any base t v := hval0
  have hW' := hW
  obtain ⟨p, q, hA0, hV, rfl, hfz, hnd⟩ := hW
  have hA : DataW.TrodAll enc Try.prog W 0 (fun _ => true) true Try.f5.params.toList args.toList ds p := hA0
  have hA1 := hA0
  rw [Try.params5] at hA hval
  obtain ⟨v0, v1, d0, d1, p0, p1, rfl, rfl, hp, h0, h1⟩ := trodAll_two hA
  obtain ⟨rfl, rfl⟩ := trodVars_none hV
  obtain ⟨s0, Nr, N, rfl, g0⟩ := open_tree (hval 0 24 v0 rfl rfl) h0
  obtain ⟨stop, rfl, rfl, rfl, g1⟩ := open_int Try.underlying5 (hval 1 5 v1 rfl rfl) h1
  clear hA0 hval0
  have hlt : ∀ x ∈ p, x.block < W.heap.size := fun x hx => hW'.lt x (by simp [hx])
  refine (law42Leaves_c s0 Nr N stop W g0 (wfu8 g1).1 (wfu8 g1).2).mono fun e W' ⟨he, hg⟩ => ?_
  subst he
  exact ⟨_, rfl, post_of_below (pa := p) (pv := []) hW' (fun _ _ _ => trodAll_mk1 (shut_bool Try.underlying4 _))
    (fun sp hsp => trodAll_keep Try.laidOut hg (by kernel_rfl) hA1 hlt (fun x hx => hsp x (by simp [hx])))
    (fun _ _ => rfl) rfl hg (ok_one (by kernel_rfl) rfl (okWide_bool_mk Try.underlying4 _))⟩

theorem law42Leaves_holds : Rows.IndexLeavesSaid :=
  OpenClaim.holds_of_wide 5 Try.f5 rfl rfl rfl rfl rfl rfl rfl ⟨rfl, rfl, rfl, rfl, rfl⟩ rfl rfl rfl rfl rfl (by kernel_rfl) Try.func5 (by kernel_rfl)
    (of_decide_eq_true (by kernel_rfl)) (by unfold Func.isWrapper; first | (rw [if_pos (by decide +kernel)]; kernel_rfl) | (rw [if_neg (by decide +kernel)]; exact ⟨rfl, rfl⟩))
    (fun os started H enc _ => law42Leaves_lifted os started H enc)
#print axioms law42Leaves_holds
end Go.Proofs.Ytgdcgdjlhljbiaa
