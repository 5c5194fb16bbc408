/- IndexQueries: All, First, Stab, Overlap and Related answer as the reference does, for every tree, point, interval and set. No condition. -/
import Derived.Test.YtgdcgdjlhljbiaaIyR
import Derived.Test.YtgdcgdjlhljbiaaIyS
import Derived.Test.YtgdcgdjlhljbiaaAwk42
import Derived.Test.YtgdcgdjlhljbiaaTree
import Derived.Deep.DeepCutAuto
namespace Go.Proofs.Ytgdcgdjlhljbiaa
open Go.RowKit Go.Shelf Go.ChangeShapes Go.WideShapes Go.ChangeAt Go.Deep Go.Joins
attribute [local go_sem] Oper.semAt_some

/-- The boxes of the law: the tree, the span, the answer. -/
structure BoxQ (B : Nat) (s : Value) (root p q : Int) (w : World) : Prop where
  t : w.heap[B]? = some (.cells #[s, .int .i64 root] 24 (0, 0))
  s : w.heap[B + 1]? = some (.cells #[.int .i64 p, .int .i64 q] 33 (0, 0))
  r : w.heap[B + 1 + 1]? = some (.cells #[.bool false] 4 (0, 0))
section
variable {B : Nat} {s : Value} {root p q : Int} {w w' : World}
theorem BoxQ.below (h : BoxQ B s root p q w) (hb : Below w.heap.size w w') : BoxQ B s root p q w' :=
  ⟨(hb.block _ (lt_of_block h.t)).trans h.t, (hb.block _ (lt_of_block h.s)).trans h.s, (hb.block _ (lt_of_block h.r)).trans h.r⟩
theorem BoxQ.other {row : Option Nat} (h : BoxQ B s root p q w) (hg : w.grownBy w' row) (hr : ∀ r, row = some r → ∃ o : Obj, w.heap[r]? = some o ∧ o.isCells = false) : BoxQ B s root p q w' :=
  ⟨(grownBy_keeps_cells hg hr h.t rfl).trans h.t, (grownBy_keeps_cells hg hr h.s rfl).trans h.s, (grownBy_keeps_cells hg hr h.r rfl).trans h.r⟩
theorem BoxQ.set (h : BoxQ B s root p q w) (b i : Nat) (v : Value) (hb : B + 1 + 1 < b) : BoxQ B s root p q (w.setCell ⟨b, i, none⟩ v) :=
  ⟨(Below.heap_setCell _ _ _ _ (by simp only; omega)).trans h.t, (Below.heap_setCell _ _ _ _ (by simp only; omega)).trans h.s, (Below.heap_setCell _ _ _ _ (by simp only; omega)).trans h.r⟩
theorem BoxQ.mk3 (w : World) (s : Value) (root p q : Int) : BoxQ w.heap.size s root p q (((w.alloc (.cells #[s, .int .i64 root] 24)).alloc (.cells #[.int .i64 p, .int .i64 q] 33)).alloc (.cells #[.bool false] 4)) :=
  ⟨old_blk (old_blk (new_blk _ _ rfl)), old_blk (new_blk _ _ (by simp)), new_blk _ _ (by simp)⟩
theorem BoxQ.t0 (h : BoxQ B s root p q w) : w.cell? ⟨B, 0, none⟩ = some s := blk_cell h.t 0
theorem BoxQ.t1 (h : BoxQ B s root p q w) : w.cell? ⟨B, 1, none⟩ = some (.int .i64 root) := blk_cell h.t 1
theorem BoxQ.s0 (h : BoxQ B s root p q w) : w.cell? ⟨B + 1, 0, none⟩ = some (.int .i64 p) := blk_cell h.s 0
theorem BoxQ.s1 (h : BoxQ B s root p q w) : w.cell? ⟨B + 1, 1, none⟩ = some (.int .i64 q) := blk_cell h.s 1
theorem BoxQ.r0 (h : BoxQ B s root p q w) : w.cell? ⟨B + 1 + 1, 0, none⟩ = some (.bool false) := blk_cell h.r 0
theorem BoxQ.rf (h : BoxQ B s root p q w) : w.frozen? ⟨B + 1 + 1, 0, none⟩ = false := blk_frozen h.r 0
end
theorem below_dn {B : Nat} {a w : World} (h : Below B a w) (n : Nat) : Below B a (w.drewN n) := ⟨h.os, h.tape, h.output, h.size, h.block⟩
/-- The law's end: its answer lies in its box. -/
theorem q_end {w X : World} {B D : Nat} {tmps : Array Value} (h8 : (tmps[8]?).getD undef = .pointer (some ⟨B + 1 + 1, 0, none⟩)) (hr : X.heap[B + 1 + 1]? = some (.cells #[.bool true] 4 (0, 0))) (hK : X.heap[D]? = some (.deferred (some []))) (hB : Below w.heap.size w X) (hD : w.heap.size ≤ D) :
    bodyPostM Fence.wide 8 Try.prog Try.f6 (Ret w (.bool true)) .ret { tmps := tmps, defers := [{ target := .collected D, args := #[] }] } X := by
  refine ⟨by simp, .inl ⟨_, _, rfl, run_takeDeferred hK, ?_⟩⟩
  have hc5 : (X.putObj D (.deferred none)).cell? ⟨B + 1 + 1, 0, none⟩ = some (.bool true) := cell_kept (blk_cell hr 0) (grownBy_putObj' X D (.deferred none)) (fun r e => by cases e; exact ⟨_, hK, rfl⟩)
  refine ⟨.bool true, ?_, rfl, hB.trans (belowK_b (w := w) (Nat.le_refl _) X D _ _ hD hK rfl rfl)⟩
  simp [results, Try.results6, h8, go_sem, hc5]
set_option maxRecDepth 100000 in
set_option maxHeartbeats 8000000 in
theorem law42Queries_c (v : Value) (root : Int) (N : List Nd) (x p q set : Int) (w : World) (hs : IsNodes w v N) : Calls Try.prog 6 #[.agg #[v, .int .i64 root], .int .i64 x, .agg #[.int .i64 p, .int .i64 q], .int .i64 set] w (Ret w (.bool true)) := by
  obtain ⟨A, c, rfl, hnc, hc⟩ := hs.form
  obtain ⟨w1, hw1⟩ : ∃ y, y = ((w.alloc (.cells #[.slice A N.length c, .int .i64 root] 24)).alloc (.cells #[.int .i64 p, .int .i64 q] 33)).alloc (.cells #[.bool false] 4) := ⟨_, rfl⟩
  have hB1 : Below w.heap.size w w1 := by rw [hw1]; exact (((Below.refl _ _).alloc (Nat.le_refl _) _).alloc (by simp) _).alloc (by simp; omega) _
  have hbx : BoxQ w.heap.size (.slice A N.length c) root p q w1 := by rw [hw1]; exact BoxQ.mk3 w _ root p q
  have HB1 := Lib.hid hB1; have Hbx := Lib.hid hbx; have Hs := Lib.hid hs; have Hw1 := Lib.hid hw1
  have KG : Hid (∀ W, Below w.heap.size w W → Calls Try.prog 13 #[.agg #[.slice A N.length c, .int .i64 root]] W (Ret W (.bool (greatB N)))) := Lib.hid fun W hb => great42_c _ _ _ _ (hs.below hb)
  clear hB1 hbx hs hw1
  cases hg : greatB N
  rotate_left
  · rw [hg] at KG
    clear hg
    go_enter Try.func6, Try.ntmps6
    go_wp2_with fail
    rw [← Hw1.out]
    refine (awake42_c _).mono ?_
    rintro e W ⟨rfl, hb⟩
    have hB := HB1.out.trans (hb.mono HB1.out.size); have hbx := Hbx.out.below hb; clear hb; have t0 := hbx.t0; have t1 := hbx.t1
    go_wp2_with fail
    refine (KG.out _ hB).mono ?_
    rintro e W ⟨rfl, hb⟩
    have hB := hB.trans (hb.mono hB.size); have hbx := hbx.below hb
    have F0 := blk_cell (set_blk hbx.r 0 (.bool true)) 0
    simp only [List.setIfInBounds_toArray, List.set_cons_zero, List.getElem?_toArray, List.getElem?_cons_zero] at F0
    have r0 := hbx.r0; have rf := hbx.rf
    have HF0 := Lib.hid F0
    clear hb t0 t1 hbx F0
    go_wp2_with fail
    have F0 := HF0.out
    refine bodyPost_ret (by simp [results, Try.results6, go_sem, F0]; try rfl) rfl ?_
    exact ⟨rfl, hB.setCell (p := ⟨w.heap.size + 1 + 1, 0, none⟩) (by simp only; omega) _⟩
  rw [hg] at KG
  clear hg
  refine (callsIn_wide (n := 8)).1 ?_
  refine callsIn_of_wp_marks Try.func6 rfl trivial ?_ rfl
  simp only [Try.ntmps6, List.size_toArray, List.length_cons, List.length_nil, Nat.reduceAdd, Nat.reduceSub, Array.replicate_succ, Array.replicate_zero, List.push_toArray, List.append_toArray, List.nil_append, List.cons_append]
  refine wpIn_wide.2 ?_
  go_wp2_with fail
  rw [← Hw1.out]
  refine (awake42_c _).mono ?_
  rintro e W ⟨rfl, hb⟩
  have hB := HB1.out.trans (hb.mono HB1.out.size); have hbx := Hbx.out.below hb; clear hb; have t0 := hbx.t0; have t1 := hbx.t1
  clear HB1 Hbx Hw1
  go_wp2_with fail
  refine (KG.out _ hB).mono ?_
  rintro e W3 ⟨rfl, hb⟩
  replace hB := hB.trans (hb.mono hB.size); replace hbx := hbx.below hb
  clear hb t0 t1 KG
  obtain ⟨W4, hW4⟩ : ∃ y, y = W3.alloc (.cells #[.slice none 0 0] 35) := ⟨_, rfl⟩
  obtain ⟨ca, hca⟩ : ∃ y, y = W3.heap.size := ⟨_, rfl⟩
  obtain ⟨B, hBB⟩ : ∃ y, y = w.heap.size := ⟨_, rfl⟩
  have hb4 : Below W3.heap.size W3 W4 := by rw [hW4]; exact (Below.refl _ _).alloc (Nat.le_refl _) _
  have hC4 : W4.heap[ca]? = some (.cells #[.slice none 0 0] 35 (0, 0)) := by rw [hW4, hca]; exact heap_alloc_new W3 _
  have hB4 := hB.trans (hb4.mono hB.size)
  have hbx4 := hbx.below hb4
  have hs4 := Hs.out.below hB4
  have hz4 : W4.heap.size = ca + 1 := by rw [hW4, hca]; simp
  have hBca : B + 1 + 1 < ca := by rw [hca, hBB]; exact lt_of_block hbx.r
  have t0 := hbx4.t0
  have t1 := hbx4.t1
  rw [hW4] at t0 t1
  rw [← hBB] at t0 t1 hbx4 ⊢
  have HW4 := Lib.hid hW4; have Hca := Lib.hid hca; have HBB := Lib.hid hBB; have HB4 := Lib.hid hB4; have HC4 := Lib.hid hC4; have Hbx4 := Lib.hid hbx4; have Hs4 := Lib.hid hs4; have Hz4 := Lib.hid hz4; have HBca := Lib.hid hBca
  clear hW4 hca hBB hb4 hC4 hB4 hbx4 hs4 hz4 hBca hB hbx
  go_wp2_with fail
  rw [← HW4.out]
  refine (xAll_c _ root N _ Hs4.out).mono ?_
  rintro e W5 ⟨rfl, rfl⟩
  clear t0 t1
  go_wp2_with fail
  refine (wpIn_wide (n := 8)).1 ?_
  rw [← Hca.out]
  obtain ⟨W6, hW6⟩ : ∃ y, y = W4.alloc (.cells #[.slice A N.length c, .int .i64 root] 24) := ⟨_, rfl⟩
  rw [← hW6]
  have hb6 : Below W4.heap.size W4 W6 := by rw [hW6]; exact (Below.refl _ _).alloc (Nat.le_refl _) _
  have hz6 : W6.heap.size = ca + 2 := by rw [hW6, World.size_alloc, Hz4.out]
  have hTT : W6.heap[W4.heap.size]? = some (.cells #[.slice A N.length c, .int .i64 root] 24 (0, 0)) := by rw [hW6]; exact heap_alloc_new W4 _
  have hB6 := HB4.out.trans (hb6.mono HB4.out.size)
  have hC6 := (hb6.block _ (lt_of_block HC4.out)).trans HC4.out
  have hbx6 := Hbx4.out.below hb6
  have hs6 := Hs4.out.below hb6
  have hBca := HBca.out
  have hlow : LowNodes ca W6 (.slice A N.length c) N := ⟨hs6, (LowNodes.of Hs.out (by have := HBB.out; omega)).2⟩
  have hin : InBox ca 35 39 [] W6 := ⟨_, hC6, OwnsE.nil⟩
  refine wpIn_rangeFunc_ownH rfl (by omega) (gf := 56) (lb := #[.pointer (some ⟨W4.heap.size, 0, none⟩)]) rfl trivial (enters_of Try.func56 (by kernel_rfl) rfl)
    (xAll_stops (dom_box ca 35) 7 W4.heap.size N root _ W6 hlow hTT hin.wf) KpW.trans (fun W l o o' _ h hc _ => kpW_b (box_put ca 35) W l o o' h hc) (Below.refl _ _) (fun _ => rfl)
    (fun pre W => (InBox ca 35 39 pre W ∧ BoxQ B (.slice A N.length c) root p q W) ∧ Below w.heap.size w W)
    (fun _ _ _ => False)
    (OwnFrom.and (fun s X Y row hs hg hr => ⟨hs.1.other hg (fun r e => (hr r e).2), hs.2.other hg (fun r e => (hr r e).2)⟩) (ownFrom_below (Nat.le_refl _) hB6.size))
    (fun _ _ _ _ _ hs _ _ => hs)
    ⟨⟨hin, hbx6⟩, hB6⟩
    (fun y a' W => ∃ Bx, ca < Bx ∧ W.heap[Bx]? = some (.cells #[.int .i64 y.1, .int .i64 y.2.1] 33 (0, 0)) ∧ a' = { tmps := #[.agg #[.slice A N.length c, .int .i64 root], .int .i64 x, .agg #[.int .i64 p, .int .i64 q], .int .i64 set,
        .pointer (some ⟨B, 0, none⟩), undef, .pointer (some ⟨B + 1, 0, none⟩), undef, .pointer (some ⟨B + 1 + 1, 0, none⟩), .pointer (some ⟨ca, 0, none⟩), .pointer (some ⟨Bx, 0, none⟩), .int .i64 y.2.2,
        undef, undef, undef, undef, undef, undef, undef, undef, undef, undef, undef, .bool true, .bool false, .agg #[.slice A N.length c, .int .i64 root], .bool false,
        .agg #[.slice A N.length c, .int .i64 root], .func (.func 56) #[] #[.pointer (some ⟨W4.heap.size, 0, none⟩)], .agg #[.int .i64 y.1, .int .i64 y.2.1], .int .i64 y.2.2,
        undef, undef, undef, undef, undef, undef, undef, undef, undef, undef, undef, undef, undef, undef, undef, undef, undef, undef, undef, undef, undef, undef, undef, undef, undef, undef, undef, undef, undef, undef, undef, undef, undef, undef, undef, undef, undef, undef, undef, undef, undef, undef, undef, undef, undef, undef, undef, undef, undef, undef, undef, undef, undef, undef, undef, undef, undef, undef, undef, undef, undef, undef, undef, undef, undef, undef, undef, undef, undef, undef, undef, undef, undef, undef, undef, undef, undef, undef, undef, undef, undef, undef, undef, undef, undef, undef, undef, undef, undef, undef, undef, undef, undef, undef, undef, undef, undef, undef, undef, undef, undef, undef, undef, undef, undef, undef, undef, undef, undef, undef, undef, undef, undef, undef, undef, undef, undef, undef, undef, undef, undef, undef, undef, undef, undef, undef, undef, undef, undef, undef, undef, undef, undef, undef, undef, undef, undef, undef, undef, undef, undef, undef, undef, undef, undef, undef, undef, undef, undef, undef, undef, undef, undef, undef, undef, undef, undef, undef, undef, undef, undef, undef, undef, undef, undef, undef, undef, undef, undef, undef, undef, undef, undef, undef, undef, undef, undef], defers := [] })
    (fun y a' _ X Y row hs hg hr => by obtain ⟨Bx, h1, h2, h3⟩ := hs; exact ⟨Bx, h1, (grownBy_keeps_cells hg (fun r e => (hr r e).2) h2 rfl).trans h2, h3⟩)
    ?assign ?body ?done ?stop
  case assign =>
    rintro l pre y W K ⟨⟨hin, hbx⟩, hB⟩ hK
    clear hz6 hTT hB6 hC6 hbx6 hs6 hlow hBca
    unfold encs2
    gi_wp2
    have hb : Below W.heap.size W (W.alloc (.cells #[.int .i64 y.1, .int .i64 y.2.1] 33)) := (Below.refl _ W).alloc (Nat.le_refl _) _
    have hkp : KpW (wfBox ca 35) (OBox ca 35) W (W.alloc (.cells #[.int .i64 y.1, .int .i64 y.2.1] 33)) := fun hwf => (dom_box ca 35).keeps hwf hb
    have hin' := hin.below hb
    obtain ⟨v9, hv9, _⟩ := hin
    exact hK _ _ ((KeepsOthers.alloc _ _).from _) hkp ⟨⟨hin', hbx.below hb⟩, hB.alloc hB.size _⟩ ⟨W.heap.size, lt_of_block hv9, heap_alloc_new W _, rfl⟩
  case body =>
    rintro l pre y a' W _ _ ⟨⟨hin, hbx⟩, hB⟩ ⟨Bx, hBx, bX, rfl⟩ hlt
    have hle := comes_le N root
    obtain ⟨v, hv, ho⟩ := hin
    obtain ⟨Ao, co, rfl, _, _⟩ := ho.ents.form
    obtain ⟨y0, y1, y2⟩ := y
    have c0 := blk_cell hv 0
    have x0' := blk_cell bX 0
    have x1' := blk_cell bX 1
    simp at c0 x0' x1'
    have hcw := lt_of_block hv
    have hne : (Value.slice Ao pre.length co).ownBlock ≠ some ca := fun e => by have := (ho.own ca e).1; omega
    have hl1 : pre.length + 1 ≤ 1000 := by omega
    have Hv := Lib.hid hv; have Ho := Lib.hid ho; have HB := Lib.hid hB; have Hne := Lib.hid hne; have Hbx := Lib.hid hbx
    clear hv ho hB hne bX hbx hz6 hTT hB6 hC6 hbx6 hs6 hlow hBca hin
    gi_wp2_with (gi_at_builtin; refine append_entIn Try.underlying35 tREntryInfo rfl _ _ rfl (ca + 1) (.slice Ao pre.length co) pre (y0, y1, y2) rfl Ho.out rfl (by omega) (by omega) ?_; intro v' w' h1 h2 h3 h4 h5; have q0 : w'.heap[ca]? = some (.cells #[.slice Ao pre.length co] 35 (0, 0)) := (h3 ca hcw Hne.out).trans Hv.out; have q1 : w'.cell? ⟨ca, 0, none⟩ = some (.slice Ao pre.length co) := (by simp [World.cell?, q0]); have q2 : w'.frozen? ⟨ca, 0, none⟩ = false := (by simp [World.frozen?, q0]); have H1 := Lib.hid h1; have H2 := Lib.hid h2; have H3 := Lib.hid h3; have H4 := Lib.hid h4; have H5 := Lib.hid h5; obtain ⟨g', cap', rfl, hg1, hg2, _, _⟩ := own_formE h1 (by simp); clear h1 h2 h3 h4 h5 q0)
    have h1 := H1.out
    have e : (pre ++ [(y0, y1, y2)]).length = pre.length + 1 := by simp
    have h4 := H4.out
    rw [e] at h1 h4
    have hsz := H5.out.size
    have hB3 : B + 1 + 1 < ca := HBca.out
    obtain ⟨g1, g2⟩ := InBox.grow Hv.out Ho.out h1 hsz H3.out h4
    have hwB : B = w.heap.size := HBB.out
    have hbx' : BoxQ B (.slice A N.length c) root p q w' := ⟨(H2.out.block _ (by omega)).trans Hbx.out.t, (H2.out.block _ (by omega)).trans Hbx.out.s, (H2.out.block _ (by omega)).trans Hbx.out.r⟩
    exact ⟨(H5.out.trans (KeepsOthers.setCell _ _ _)).from _, g2, ⟨g1, hbx'.set ca 0 _ hB3⟩, ((HB.out.trans (H2.out.mono (by omega)))).setCell (p := ⟨ca, 0, none⟩) (by simp only; omega) _⟩
  case stop =>
    rintro D c pre W _ _ h _
    exact h.elim
  case done =>
    rintro D ys W hD rfl ⟨⟨⟨v5, hv5, ho5⟩, hbx⟩, hB⟩ hK
    obtain ⟨A5, c5, rfl, _, _⟩ := ho5.ents.form
    have hD' : B + 1 + 1 < D := by omega
    clear hD hz6 hTT hB6 hC6 hbx6 hs6 hlow hBca hin hb6
    have hsW := Hs.out.below hB
    have heW := ho5.ents
    have FB : Hid (∀ X, Below W.heap.size W X → BoxQ B (.slice A N.length c) root p q X) := Lib.hid fun X hb => hbx.below hb
    have FA : Hid (∀ X, Below W.heap.size W X → X.heap[ca]? = some (.cells #[.slice A5 (comes N root).length c5] 35 (0, 0))) := Lib.hid fun X hb => (hb.block _ (lt_of_block hv5)).trans hv5
    have FE : Hid (∀ X, Below W.heap.size W X → IsEnts X (.slice A5 (comes N root).length c5) (comes N root)) := Lib.hid fun X hb => heW.below hb
    have FW : Hid (∀ X, Below W.heap.size W X → Below w.heap.size w X) := Lib.hid fun X hb => hB.trans (hb.mono hB.size)
    have FK : Hid (∀ X, Below W.heap.size W X → X.heap[D]? = some (.deferred (some []))) := Lib.hid fun X hb => (hb.block _ (lt_of_block hK)).trans hK
    have KF : Hid (∀ X, Below W.heap.size W X → Calls Try.prog 25 #[.agg #[.slice A N.length c, .int .i64 root], .int .i64 x] X (FirstRet (firstE N root x) X)) := Lib.hid fun X hb => xFirst_c _ root x N X (hsW.below hb)
    have KS : Hid (∀ X, Below W.heap.size W X → Calls Try.prog 26 #[.agg #[.slice A N.length c, .int .i64 root], .int .i64 x] X (IntsRet X (stabL N root x))) := Lib.hid fun X hb => xStab_c _ root x N X (hsW.below hb)
    have KO : Hid (∀ X, Below W.heap.size W X → Calls Try.prog 27 #[.agg #[.slice A N.length c, .int .i64 root], .agg #[.int .i64 p, .int .i64 q]] X (IntsRet X (overL N root p q))) := Lib.hid fun X hb => xOverlap_c _ root p q N X (hsW.below hb)
    have KR : Hid (∀ X, Below W.heap.size W X → Calls Try.prog 28 #[.agg #[.slice A N.length c, .int .i64 root], .agg #[.int .i64 p, .int .i64 q], .int .i64 set] X (IntsRet X (relL N root set p q))) := Lib.hid fun X hb => xRelated_c _ root set p q N X (hsW.below hb)
    have KV : Hid (∀ X, Below W.heap.size W X → Calls Try.prog 15 #[.agg #[.slice A N.length c, .int .i64 root]] X (Ret X (.bool (treeB N root)))) := Lib.hid fun X hb => r42Valid_c _ root N X (hsW.below hb)
    have FS : Hid (∀ X, Below W.heap.size W X → IsNodes X (.slice A N.length c) N) := Lib.hid fun X hb => hsW.below hb
    have t0 := hbx.t0
    have t1 := hbx.t1
    have kb := Below.refl W.heap.size W
    clear hv5 ho5 hbx hB hK hsW heW
    go_wp2_with fail
    refine (KF.out _ kb).mono ?_
    rintro e W8 ⟨rfl, hb⟩
    replace kb := kb.trans (hb.mono kb.size)
    clear hb t0 t1 KF
    obtain ⟨fo, hfo⟩ : ∃ y, y = firstE N root x := ⟨_, rfl⟩
    rw [← hfo]
    obtain ⟨fs, hfs⟩ : ∃ y, y = (fo.getD (0, 0, 0)).1 := ⟨_, rfl⟩
    obtain ⟨ft, hft⟩ : ∃ y, y = (fo.getD (0, 0, 0)).2.1 := ⟨_, rfl⟩
    obtain ⟨fv, hfv⟩ : ∃ y, y = (fo.getD (0, 0, 0)).2.2 := ⟨_, rfl⟩
    obtain ⟨fb, hfb⟩ : ∃ y, y = fo.isSome := ⟨_, rfl⟩
    rw [← hfs, ← hft, ← hfv, ← hfb]
    have Hfo := Lib.hid hfo; have Hfs := Lib.hid hfs; have Hft := Lib.hid hft; have Hfv := Lib.hid hfv; have Hfb := Lib.hid hfb
    clear hfo hfs hft hfv hfb
    have hk1 := kb.alloc kb.size (.cells #[.int .i64 fs, .int .i64 ft] 33)
    have hF := heap_alloc_new W8 (.cells #[.int .i64 fs, .int .i64 ft] 33)
    have t0 := (FB.out _ hk1).t0
    have t1 := (FB.out _ hk1).t1
    have s0 := (FB.out _ hk1).s0
    have s1 := (FB.out _ hk1).s1
    have Hk1 := Lib.hid hk1; have HF := Lib.hid hF
    clear hk1 hF
    go_wp2_with fail
    have hk1 := Hk1.out; have hF := HF.out
    clear Hk1 HF t0 t1 s0 s1
    obtain ⟨bf, hbf⟩ : ∃ y, y = W8.heap.size := ⟨_, rfl⟩
    rw [← hbf] at hF ⊢
    generalize W8.alloc (.cells #[.int .i64 fs, .int .i64 ft] 33) = W9 at *
    clear kb hbf
    have FF : Hid (∀ X, Below W9.heap.size W9 X → X.heap[bf]? = some (.cells #[.int .i64 fs, .int .i64 ft] 33 (0, 0))) := Lib.hid fun X hb => (hb.block _ (lt_of_block hF)).trans hF
    have FG : Hid (∀ X, Below W9.heap.size W9 X → Below W.heap.size W X) := Lib.hid fun X hb => hk1.trans (hb.mono hk1.size)
    have FC : Hid (∀ X, Below W9.heap.size W9 X → X.cell? ⟨B, 0, none⟩ = some (.slice A N.length c) ∧ X.cell? ⟨B, 1, none⟩ = some (.int .i64 root) ∧ X.cell? ⟨B + 1, 0, none⟩ = some (.int .i64 p) ∧ X.cell? ⟨B + 1, 1, none⟩ = some (.int .i64 q)) := Lib.hid fun X hb => by
      have h := FB.out X (FG.out X hb)
      exact ⟨h.t0, h.t1, h.s0, h.s1⟩
    clear hk1 hF
    have kb : Below W9.heap.size W9 W9.drew := (Below.refl _ _).drew
    go_region_held3 (fun X => X.cell? ⟨B, 0, none⟩ = some (.slice A N.length c) ∧ X.cell? ⟨B, 1, none⟩ = some (.int .i64 root) ∧ X.cell? ⟨B + 1, 0, none⟩ = some (.int .i64 p) ∧ X.cell? ⟨B + 1, 1, none⟩ = some (.int .i64 q)) ((first | exact FC.out _ kb)) (first
      | (go_at_call 26; (with_reducible refine (KS.out _ (FG.out _ kb)).mono ?_); rintro e Wa ⟨vs, rfl, o, hb⟩; have kb := kb.trans (hb.mono kb.size); have h1 := ints_of_own o; clear o hb)
      | (go_at_call 27; (with_reducible refine (KO.out _ (FG.out _ kb)).mono ?_); rintro e Wb ⟨vo, rfl, o, hb⟩; have kb := kb.trans (hb.mono kb.size); have h1 := h1.below hb; have h2 := ints_of_own o; clear o hb)
      | (go_at_call 28; (with_reducible refine (KR.out _ (FG.out _ kb)).mono ?_); rintro e Wc ⟨vr, rfl, o, hb⟩; have kb := kb.trans (hb.mono kb.size); have h1 := h1.below hb; have h2 := h2.below hb; have h3 := ints_of_own o; clear o hb)
      | fail)
    obtain ⟨As, cs, rfl, _, _⟩ := h1.form
    obtain ⟨Ao, co, rfl, _, _⟩ := h2.form
    obtain ⟨Ar, cr, rfl, _, _⟩ := h3.form
    cases ht : treeB N root
    · have e0 : comes N root = [] := by unfold comes; rw [ht]; rfl
      have e1 : stabL N root x = [] := if_neg (by rw [ht]; simp)
      have e2 : overL N root p q = [] := if_neg (by rw [ht]; simp)
      have e3 : relL N root set p q = [] := if_neg (by rw [ht]; simp)
      have hfo : fo = none := by rw [Hfo.out, firstE, e0]; rfl
      have hfs : fs = 0 := by rw [Hfs.out, hfo]; rfl
      have hft : ft = 0 := by rw [Hft.out, hfo]; rfl
      have hfv : fv = 0 := by rw [Hfv.out, hfo]; rfl
      have hfb : fb = false := by rw [Hfb.out, hfo]; rfl
      have FA0 : Hid (∀ X, Below W.heap.size W X → X.heap[ca]? = some (.cells #[.slice A5 0 c5] 35 (0, 0))) := Lib.hid fun X hb => by have := FA.out X hb; rwa [e0] at this
      have KV0 : Hid (∀ X, Below W.heap.size W X → Calls Try.prog 15 #[.agg #[.slice A N.length c, .int .i64 root]] X (Ret X (.bool false))) := Lib.hid fun X hb => by have := KV.out X hb; rwa [ht] at this
      clear Hfo Hfs Hft Hfv Hfb KV KO KS KR FA h1 h2 h3
      subst hfs hft hfv hfb
      rw [e1, e2, e3]
      clear e0 e1 e2 e3 ht
      obtain ⟨t0, t1, _, _⟩ := FC.out _ kb
      go_wp2_with fail
      refine (KV0.out _ (FG.out _ kb)).mono ?_
      rintro e Wd ⟨rfl, hb⟩
      have kb := kb.trans (hb.mono kb.size)
      clear t0 t1 hb
      have kg := FG.out _ kb
      have a0 := blk_cell (FA0.out _ kg) 0
      have b0 := blk_cell (FF.out _ kb) 0
      have b1 := blk_cell (FF.out _ kb) 1
      have r0 := (FB.out _ kg).r0
      have rf := (FB.out _ kg).rf
      simp at a0 b0 b1
      have Kg := Lib.hid kg
      clear kb kg
      go_wp2_with fail
      have kg := Kg.out
      have hr := set_blk (FB.out _ kg).r 0 (.bool true)
      simp only [List.setIfInBounds_toArray, List.set_cons_zero] at hr
      exact q_end rfl hr (set_oth (FK.out _ kg) (by omega) 0 _) ((FW.out _ kg).setCell (p := ⟨B + 1 + 1, 0, none⟩) (by have := HBB.out; simp only; omega) _) (by have := HBB.out; omega)
    · obtain ⟨L, hL⟩ : ∃ y, y = entsT N root := ⟨_, rfl⟩
      have e0 : comes N root = L := by unfold comes; rw [if_pos ht, hL]
      have e1 : stabL N root x = fnd x L := by rw [stab_fnd ht, hL]
      have hlen : L.length ≤ 1000 := by rw [hL, entsT_len (treeB_valid ht).2]; exact (treeB_valid ht).1
      have hok : ∀ e ∈ L, okSpan (e.1, e.2.1) = true := by rw [hL]; exact entsT_ok (treeB_valid ht).2
      have hfo : fo = if 0 ≤ atI x L then some (en L (atI x L).toNat) else none := by rw [Hfo.out, firstE, e0, find_atI]
      have FA1 : Hid (∀ X, Below W.heap.size W X → X.heap[ca]? = some (.cells #[.slice A5 L.length c5] 35 (0, 0))) := Lib.hid fun X hb => by have := FA.out X hb; rwa [e0] at this
      have FE1 : Hid (∀ X, Below W.heap.size W X → IsEnts X (.slice A5 L.length c5) L) := Lib.hid fun X hb => by have := FE.out X hb; rwa [e0] at this
      have KV1 : Hid (∀ X, Below W.heap.size W X → Calls Try.prog 15 #[.agg #[.slice A N.length c, .int .i64 root]] X (Ret X (.bool true))) := Lib.hid fun X hb => by have := KV.out X hb; rwa [ht] at this
      have KE : Hid (∀ X, Below W.heap.size W X → Calls Try.prog 29 #[.agg #[.slice A N.length c, .int .i64 root]] X (EntsRet 39 X.heap.size X X L)) := Lib.hid fun X hb => by have := r42Entries_c ht _ X (FS.out X hb); rwa [← hL] at this
      obtain ⟨lo, hlo⟩ : ∃ y, y = overL N root p q := ⟨_, rfl⟩
      obtain ⟨lr, hlr⟩ : ∃ y, y = relL N root set p q := ⟨_, rfl⟩
      have Hlo1 : Hid (okSpan (p, q) = true → lo = relE 2044 p q L) := Lib.hid fun h => by rw [hlo, over_rel ht h, hL]
      have Hlo0 : Hid (okSpan (p, q) = false → lo = []) := Lib.hid fun h => by rw [hlo, over_bad h]
      have Hlr1 : Hid (okSpan (p, q) = true → setB set = true → lr = relE set p q L) := Lib.hid fun h k => by rw [hlr, rel_rel ht h k, hL]
      have Hlr0 : Hid (okSpan (p, q) = false ∨ setB set = false → lr = []) := Lib.hid fun h => by rw [hlr, rel_bad h]
      rw [e1] at h1
      rw [← hlo] at h2
      rw [← hlr] at h3
      rw [e1, ← hlo, ← hlr]
      have Hfo2 := Lib.hid hfo; have Hok := Lib.hid hok; have H1 := Lib.hid h1; have H2 := Lib.hid h2; have H3 := Lib.hid h3
      clear Hfo KV KO KS KR FA FE h1 h2 h3 hfo hok hlo hlr e0 e1 hL ht
      obtain ⟨t0, t1, _, _⟩ := FC.out _ kb
      go_wp2_with fail
      refine (KV1.out _ (FG.out _ kb)).mono ?_
      rintro e Wd ⟨rfl, hb⟩
      have h1 := H1.out.below hb; have h2 := H2.out.below hb; have h3 := H3.out.below hb
      replace kb := kb.trans (hb.mono kb.size)
      clear t0 t1 hb H1 H2 H3
      have H1 := Lib.hid h1; have H2 := Lib.hid h2; have H3 := Lib.hid h3
      clear h1 h2 h3
      obtain ⟨t0, t1, _, _⟩ := FC.out _ kb
      go_wp2_with fail
      refine (KE.out _ (FG.out _ kb)).mono ?_
      rintro e We ⟨v6, rfl, ho6, hb, _⟩
      have h1 := H1.out.below hb; have h2 := H2.out.below hb; have h3 := H3.out.below hb
      replace kb := kb.trans (hb.mono kb.size)
      have he6 := ho6.ents
      obtain ⟨A6, c6, rfl, _, _⟩ := he6.form
      have G1 : Hid (∀ X, Below We.heap.size We X → IsInts X (.slice As (fnd x L).length cs) (fnd x L)) := Lib.hid fun X hb => h1.below hb
      have G2 : Hid (∀ X, Below We.heap.size We X → IsInts X (.slice Ao lo.length co) lo) := Lib.hid fun X hb => h2.below hb
      have G3 : Hid (∀ X, Below We.heap.size We X → IsInts X (.slice Ar lr.length cr) lr) := Lib.hid fun X hb => h3.below hb
      have G6 : Hid (∀ X, Below We.heap.size We X → IsEnts X (.slice A6 L.length c6) L) := Lib.hid fun X hb => he6.below hb
      have GK : Hid (∀ X, Below We.heap.size We X → Below W9.heap.size W9 X) := Lib.hid fun X hb => kb.trans (hb.mono kb.size)
      have hal : 0 < L.length → ∃ b off, A6 = some ⟨b, off, none⟩ := fun h => by obtain ⟨b, off, e, _⟩ := he6.addr h; exact ⟨b, off, e⟩
      have Hal := Lib.hid hal
      clear t0 t1 hb H1 H2 H3 h1 h2 h3 ho6 he6 kb hal
      go_wp2_with fail
      go_loopw [19, 20, 95] (fun o a i wr => ∃ k : Nat, k ≤ L.length ∧ i = .int .i64 k ∧ OwnsI wr We.heap.size o (fnd x (L.take k)) ∧ a = .int .i64 (atI x (L.take k)) ∧ Below We.heap.size We wr) (fun _ _ i _ => L.length - (intOf i).toNat)
      case atStart => exact ⟨0, Nat.zero_le _, rfl, OwnsI.nil, by simp [atI], Below.refl _ _⟩
      case round =>
        obtain ⟨k, hk, rfl, hown, rfl, hbr⟩ := hrel
        obtain ⟨Af, cf, rfl, _, _⟩ := (ints_of_own hown).form
        have hfl := fnd_len x (L.take k)
        rw [List.length_take, Nat.min_eq_left hk] at hfl
        by_cases hlt : k < L.length
        · obtain ⟨g, off, rfl⟩ := Hal.out (by omega)
          have hs6 := G6.out wr hbr
          have d0 := hs6.c0 k hlt
          have d1 := hs6.c1 k hlt
          have d2 := hs6.c2 k hlt
          have Hyes : Hid ((en L k).1 ≤ x → x < (en L k).2.1 → fnd x (L.take (k + 1)) = fnd x (L.take k) ++ [(en L k).2.2]) := fnd_yes hlt
          have Hno : Hid (¬ ((en L k).1 ≤ x ∧ x < (en L k).2.1) → fnd x (L.take (k + 1)) = fnd x (L.take k)) := fnd_no hlt
          have Hk : Hid (¬ atI x (L.take k) < 0 → atI x (L.take (k + 1)) = atI x (L.take k)) := atI_keep hlt
          have Hh : Hid (atI x (L.take k) < 0 → x ≤ (en L k).1 → atI x (L.take (k + 1)) = (k : Int)) := atI_hit hlt
          have Hm : Hid (atI x (L.take k) < 0 → ¬ x ≤ (en L k).1 → atI x (L.take (k + 1)) = atI x (L.take k)) := atI_miss hlt
          generalize atI x (L.take k) = a0 at *
          generalize en L k = y at *
          obtain ⟨y0, y1, y2⟩ := y
          simp only at *
          have hba : Below wr.heap.size wr (wr.alloc (.cells #[.int .i64 y0, .int .i64 y1, .int .i64 y2] 39)) := (Below.refl _ _).alloc (Nat.le_refl _) _
          have Hown1 := Lib.hid (hown.below hba)
          have Hbr1 := Lib.hid (hbr.alloc hbr.size (.cells #[.int .i64 y0, .int .i64 y1, .int .i64 y2] 39))
          have hwz := hbr.size
          have hnb : (Value.slice Af (fnd x (L.take k)).length cf).ownBlock ≠ some wr.heap.size := fun e => by have := (hown.own _ e).2; omega
          have Hnb := Lib.hid hnb
          clear hown hbr hba hs6 hnb
          cases c1 : decide (y0 ≤ x)
          · cases c3 : decide (a0 < 0)
            · have HF := Lib.hid (Hno.out (fun h => of_decide_eq_false c1 h.1))
              have HI := Lib.hid (Hk.out (of_decide_eq_false c3))
              clear Hyes Hno Hk Hh Hm
              go_wp2_with fail
              go_roundw
              case rel => exact ⟨k + 1, hlt, by go_num, by rw [HF.out]; exact Hown1.out, by rw [HI.out], Hbr1.out⟩
              case measure => simp [intOf]; omega
            · cases c4 : decide (x ≤ y0)
              · have HF := Lib.hid (Hno.out (fun h => of_decide_eq_false c1 h.1))
                have HI := Lib.hid (Hm.out (of_decide_eq_true c3) (of_decide_eq_false c4))
                clear Hyes Hno Hk Hh Hm
                go_wp2_with fail
                go_roundw
                case rel => exact ⟨k + 1, hlt, by go_num, by rw [HF.out]; exact Hown1.out, by rw [HI.out], Hbr1.out⟩
                case measure => simp [intOf]; omega
              · have HF := Lib.hid (Hno.out (fun h => of_decide_eq_false c1 h.1))
                have HI := Lib.hid (Hh.out (of_decide_eq_true c3) (of_decide_eq_true c4))
                clear Hyes Hno Hk Hh Hm
                go_wp2_with fail
                go_roundw
                case rel => exact ⟨k + 1, hlt, by go_num, by rw [HF.out]; exact Hown1.out, by rw [HI.out], Hbr1.out⟩
                case measure => simp [intOf]; omega
          · cases c2 : decide (x < y1)
            · cases c3 : decide (a0 < 0)
              · have HF := Lib.hid (Hno.out (fun h => of_decide_eq_false c2 h.2))
                have HI := Lib.hid (Hk.out (of_decide_eq_false c3))
                clear Hyes Hno Hk Hh Hm
                go_wp2_with fail
                go_roundw
                case rel => exact ⟨k + 1, hlt, by go_num, by rw [HF.out]; exact Hown1.out, by rw [HI.out], Hbr1.out⟩
                case measure => simp [intOf]; omega
              · cases c4 : decide (x ≤ y0)
                · have HF := Lib.hid (Hno.out (fun h => of_decide_eq_false c2 h.2))
                  have HI := Lib.hid (Hm.out (of_decide_eq_true c3) (of_decide_eq_false c4))
                  clear Hyes Hno Hk Hh Hm
                  go_wp2_with fail
                  go_roundw
                  case rel => exact ⟨k + 1, hlt, by go_num, by rw [HF.out]; exact Hown1.out, by rw [HI.out], Hbr1.out⟩
                  case measure => simp [intOf]; omega
                · have HF := Lib.hid (Hno.out (fun h => of_decide_eq_false c2 h.2))
                  have HI := Lib.hid (Hh.out (of_decide_eq_true c3) (of_decide_eq_true c4))
                  clear Hyes Hno Hk Hh Hm
                  go_wp2_with fail
                  go_roundw
                  case rel => exact ⟨k + 1, hlt, by go_num, by rw [HF.out]; exact Hown1.out, by rw [HI.out], Hbr1.out⟩
                  case measure => simp [intOf]; omega
            · cases c3 : decide (a0 < 0)
              · have HF := Lib.hid (Hyes.out (of_decide_eq_true c1) (of_decide_eq_true c2))
                have HI := Lib.hid (Hk.out (of_decide_eq_false c3))
                clear Hyes Hno Hk Hh Hm
                go_wp2_with (at_builtin; refine append_intG Try.underlying49 tIntInfoX rfl _ _ rfl We.heap.size (.slice Af (fnd x (L.take k)).length cf) (fnd x (L.take k)) y2 rfl Hown1.out (by rw [World.size_alloc]; rfl) (by omega) (by simp; omega) ?_; intro v' w' h1 h2 h3 _; have q0 : w'.cell? ⟨wr.heap.size, 0, none⟩ = some (.int .i64 y0) := (World.cell?_of_block (h3 wr.heap.size (by simp) Hnb.out)).trans (by simp); have H1 := Lib.hid h1; have H2 := Lib.hid h2; obtain ⟨g', cap', rfl, _, _, _, _⟩ := own_formI h1 (by simp); clear h1 h2 h3)
                go_roundw
                case rel => exact ⟨k + 1, hlt, by go_num, by rw [HF.out]; unfold OwnsI; simpa using H1.out, by rw [HI.out], Hbr1.out.trans (H2.out.mono (by have := Hbr1.out.size; omega))⟩
                case measure => simp [intOf]; omega
              · cases c4 : decide (x ≤ y0)
                · have HF := Lib.hid (Hyes.out (of_decide_eq_true c1) (of_decide_eq_true c2))
                  have HI := Lib.hid (Hm.out (of_decide_eq_true c3) (of_decide_eq_false c4))
                  clear Hyes Hno Hk Hh Hm
                  go_wp2_with (at_builtin; refine append_intG Try.underlying49 tIntInfoX rfl _ _ rfl We.heap.size (.slice Af (fnd x (L.take k)).length cf) (fnd x (L.take k)) y2 rfl Hown1.out (by rw [World.size_alloc]; rfl) (by omega) (by simp; omega) ?_; intro v' w' h1 h2 h3 _; have q0 : w'.cell? ⟨wr.heap.size, 0, none⟩ = some (.int .i64 y0) := (World.cell?_of_block (h3 wr.heap.size (by simp) Hnb.out)).trans (by simp); have H1 := Lib.hid h1; have H2 := Lib.hid h2; obtain ⟨g', cap', rfl, _, _, _, _⟩ := own_formI h1 (by simp); clear h1 h2 h3)
                  go_roundw
                  case rel => exact ⟨k + 1, hlt, by go_num, by rw [HF.out]; unfold OwnsI; simpa using H1.out, by rw [HI.out], Hbr1.out.trans (H2.out.mono (by have := Hbr1.out.size; omega))⟩
                  case measure => simp [intOf]; omega
                · have HF := Lib.hid (Hyes.out (of_decide_eq_true c1) (of_decide_eq_true c2))
                  have HI := Lib.hid (Hh.out (of_decide_eq_true c3) (of_decide_eq_true c4))
                  clear Hyes Hno Hk Hh Hm
                  go_wp2_with (at_builtin; refine append_intG Try.underlying49 tIntInfoX rfl _ _ rfl We.heap.size (.slice Af (fnd x (L.take k)).length cf) (fnd x (L.take k)) y2 rfl Hown1.out (by rw [World.size_alloc]; rfl) (by omega) (by simp; omega) ?_; intro v' w' h1 h2 h3 _; have q0 : w'.cell? ⟨wr.heap.size, 0, none⟩ = some (.int .i64 y0) := (World.cell?_of_block (h3 wr.heap.size (by simp) Hnb.out)).trans (by simp); have H1 := Lib.hid h1; have H2 := Lib.hid h2; obtain ⟨g', cap', rfl, _, _, _, _⟩ := own_formI h1 (by simp); clear h1 h2 h3)
                  go_roundw
                  case rel => exact ⟨k + 1, hlt, by go_num, by rw [HF.out]; unfold OwnsI; simpa using H1.out, by rw [HI.out], Hbr1.out.trans (H2.out.mono (by have := Hbr1.out.size; omega))⟩
                  case measure => simp [intOf]; omega
        · obtain rfl : k = L.length := by omega
          rw [List.take_length] at hown hfl ⊢
          have hB2 := Lib.hid hbr; have HN := Lib.hid (ints_of_own hown)
          obtain ⟨a0, ha0⟩ : ∃ y, y = atI x L := ⟨_, rfl⟩
          rw [← ha0]
          obtain ⟨hlo1, hlo2⟩ := atI_lo x L
          rw [← ha0] at hlo1 hlo2
          have hfo := Hfo2.out
          rw [← ha0] at hfo
          have Hfo := Lib.hid hfo
          clear ha0 Hfo2 hfo hown
          have KQ1 : Hid (∀ X, Below We.heap.size We X → Calls Try.prog 23 #[.slice A5 L.length c5, .slice A6 L.length c6] X (Ret X (.bool true))) := Lib.hid fun X hb => by
            have h := slEqualEntry_c (.slice A5 L.length c5) (.slice A6 L.length c6) L L X (FE1.out _ (FG.out _ (GK.out _ hb))) (G6.out _ hb)
            rwa [show sameEL L L = true from decide_eq_true rfl] at h
          have a0' := blk_cell (FA1.out _ (FG.out _ (GK.out _ hbr))) 0
          simp at a0'
          clear hbr
          go_wp2_with fail
          refine (KQ1.out _ hB2.out).mono ?_
          rintro e Wf ⟨rfl, hb⟩
          have kb := hB2.out.trans (hb.mono hB2.out.size)
          have hN := HN.out.below hb
          have KQ2 : Hid (Calls Try.prog 30 #[.slice As (fnd x L).length cs, .slice Af (fnd x L).length cf] Wf (Ret Wf (.bool true))) := Lib.hid (by
            have h := slEqualInt_c (.slice As (fnd x L).length cs) (.slice Af (fnd x L).length cf) (fnd x L) (fnd x L) Wf (G1.out _ kb) hN
            rwa [show sameI (fnd x L) (fnd x L) = true from decide_eq_true rfl] at h)
          clear hb hN hB2 HN a0' KQ1
          have KR1 : Hid (∀ X st, okSpan (p, q) = true → Below We.heap.size We X → Calls Try.prog 31 #[.slice A6 L.length c6, .agg #[.int .i64 p, .int .i64 q], .int .i64 st] X (IntsRet X (relE st p q L))) := Lib.hid fun X st h hb => r42Related_c _ L p q st X (G6.out _ hb) Hok.out h (by omega)
          have KQ3 : Hid (∀ X v, okSpan (p, q) = true → Below We.heap.size We X → IsInts X v (relE 2044 p q L) → Calls Try.prog 30 #[.slice Ao lo.length co, v] X (Ret X (.bool true))) := Lib.hid fun X v h hb hi => by
            have k := slEqualInt_c (.slice Ao lo.length co) v lo (relE 2044 p q L) X (G2.out _ hb) hi
            rwa [show sameI lo (relE 2044 p q L) = true from decide_eq_true (Hlo1.out h)] at k
          have KQ4 : Hid (∀ X v, okSpan (p, q) = true → setB set = true → Below We.heap.size We X → IsInts X v (relE set p q L) → Calls Try.prog 30 #[.slice Ar lr.length cr, v] X (Ret X (.bool true))) := Lib.hid fun X v h h' hb hi => by
            have k := slEqualInt_c (.slice Ar lr.length cr) v lr (relE set p q L) X (G3.out _ hb) hi
            rwa [show sameI lr (relE set p q L) = true from decide_eq_true (Hlr1.out h h')] at k
          by_cases h0 : 0 ≤ a0
          · obtain ⟨i, rfl⟩ := Int.eq_ofNat_of_zero_le h0
            have hi : i < L.length := by omega
            obtain ⟨g, off, rfl⟩ := Hal.out (by omega)
            have hfo : fo = some (en L i) := by rw [Hfo.out, if_pos h0]; simp
            have hfs : fs = (en L i).1 := by rw [Hfs.out, hfo]; rfl
            have hft : ft = (en L i).2.1 := by rw [Hft.out, hfo]; rfl
            have hfv : fv = (en L i).2.2 := by rw [Hfv.out, hfo]; rfl
            have hfb : fb = true := by rw [Hfb.out, hfo]; rfl
            clear Hfs Hft Hfv Hfb Hfo
            have CC : Hid (∀ X, Below We.heap.size We X → (X.cell? ⟨g, off + i * 3, none⟩ = some (.int .i64 fs) ∧ X.cell? ⟨g, off + i * 3 + 1, none⟩ = some (.int .i64 ft) ∧ X.cell? ⟨g, off + i * 3 + 2, none⟩ = some (.int .i64 fv)) ∧ X.cell? ⟨bf, 0, none⟩ = some (.int .i64 fs) ∧ X.cell? ⟨bf, 1, none⟩ = some (.int .i64 ft)) := Lib.hid fun X hb => by
              have h := G6.out X hb
              rw [hfs, hft, hfv]
              refine ⟨⟨h.c0 i hi, h.c1 i hi, h.c2 i hi⟩, ?_, ?_⟩
              · rw [← hfs]; exact blk_cell (FF.out _ (GK.out _ hb)) 0
              · rw [← hft]; exact blk_cell (FF.out _ (GK.out _ hb)) 1
            subst hfb
            clear hfo hfs hft hfv hlo1 hlo2
            go_wp2_with (go_at_call 30; (with_reducible refine (KQ2.out).mono ?_); rintro e Wg ⟨rfl, hb⟩; have kb := kb.trans (hb.mono kb.size); obtain ⟨⟨d0, d1, d2⟩, d3, d4⟩ := CC.out _ kb; clear hb)
            go_quiet (fail)
            clear d0 d1 d2 d3 d4 CC
            replace kb := below_dn kb nq
            generalize Wg.drewN nq = Wh at *
            have Cs := FC.out _ (GK.out _ kb)
            have s0 := Cs.2.2.1
            have s1 := Cs.2.2.2
            clear Cs
            go_wp2_with fail
            refine (r10Valid_c p q _).mono ?_
            rintro e Wi ⟨rfl, hb⟩
            replace kb := kb.trans (hb.mono kb.size)
            clear hb s0 s1
            cases hpq : okSpan (p, q)
            · have hlo := Hlo0.out hpq
              have hlr := Hlr0.out (.inl hpq)
              clear Hlo0 Hlo1 Hlr0 Hlr1 KR1 KQ3 KQ4 G2 G3
              subst hlo hlr
              have kg := FG.out _ (GK.out _ kb)
              have r0 := (FB.out _ kg).r0
              have rf := (FB.out _ kg).rf
              have Kg := Lib.hid kg
              clear kg kb
              go_wp2_with fail
              have kg := Kg.out
              have hr := set_blk (FB.out _ kg).r 0 (.bool true)
              simp only [List.setIfInBounds_toArray, List.set_cons_zero] at hr
              exact q_end rfl hr (set_oth (FK.out _ kg) (by omega) 0 _) ((FW.out _ kg).setCell (p := ⟨B + 1 + 1, 0, none⟩) (by have := HBB.out; simp only; omega) _) (by have := HBB.out; omega)
            · have KQ3' : Hid (∀ X v, Below We.heap.size We X → IsInts X v (relE 2044 p q L) → Calls Try.prog 30 #[.slice Ao lo.length co, v] X (Ret X (.bool true))) := Lib.hid fun X v hb h => KQ3.out X v hpq hb h
              have KR1' : Hid (∀ X st, Below We.heap.size We X → Calls Try.prog 31 #[_, .agg #[.int .i64 p, .int .i64 q], .int .i64 st] X (IntsRet X (relE st p q L))) := Lib.hid fun X st hb => KR1.out X st hpq hb
              have Cs := FC.out _ (GK.out _ kb)
              have s0 := Cs.2.2.1
              have s1 := Cs.2.2.2
              clear Cs KQ3 KR1 Hlo0 Hlo1
              go_wp2_with fail
              refine (KR1'.out _ _ kb).mono ?_
              rintro e Wj ⟨v7, rfl, o, hb⟩
              have kb := kb.trans (hb.mono kb.size)
              have hi7 := ints_of_own o
              clear o hb s0 s1
              go_wp2_with fail
              refine (KQ3'.out _ _ kb hi7).mono ?_
              rintro e Wk ⟨rfl, hb⟩
              replace kb := kb.trans (hb.mono kb.size)
              clear hb hi7 KQ3'
              cases hset : setB set
              · have hlr := Hlr0.out (.inr hset)
                clear Hlr0 Hlr1 KR1' KQ4 G2 G3
                subst hlr
                unfold setB at hset
                cases d1 : decide (0 ≤ set)
                · replace d1 : decide (set < 0) = true := decide_eq_true (by have := of_decide_eq_false d1; omega)
                  clear hset
                  have kg := FG.out _ (GK.out _ kb)
                  have r0 := (FB.out _ kg).r0
                  have rf := (FB.out _ kg).rf
                  have Kg := Lib.hid kg
                  clear kg kb
                  go_wp2_with fail
                  have kg := Kg.out
                  have hr := set_blk (FB.out _ kg).r 0 (.bool true)
                  simp only [List.setIfInBounds_toArray, List.set_cons_zero] at hr
                  exact q_end rfl hr (set_oth (FK.out _ kg) (by omega) 0 _) ((FW.out _ kg).setCell (p := ⟨B + 1 + 1, 0, none⟩) (by have := HBB.out; simp only; omega) _) (by have := HBB.out; omega)
                · rw [d1, Bool.true_and] at hset
                  replace d1 : decide (set < 0) = false := decide_eq_false (by have := of_decide_eq_true d1; omega)
                  replace hset : decide (8191 < set) = true := decide_eq_true (by have := of_decide_eq_false hset; omega)
                  have kg := FG.out _ (GK.out _ kb)
                  have r0 := (FB.out _ kg).r0
                  have rf := (FB.out _ kg).rf
                  have Kg := Lib.hid kg
                  clear kg kb
                  go_wp2_with fail
                  have kg := Kg.out
                  have hr := set_blk (FB.out _ kg).r 0 (.bool true)
                  simp only [List.setIfInBounds_toArray, List.set_cons_zero] at hr
                  exact q_end rfl hr (set_oth (FK.out _ kg) (by omega) 0 _) ((FW.out _ kg).setCell (p := ⟨B + 1 + 1, 0, none⟩) (by have := HBB.out; simp only; omega) _) (by have := HBB.out; omega)
              · have KQ4' : Hid (∀ X v, Below We.heap.size We X → IsInts X v (relE set p q L) → Calls Try.prog 30 #[.slice Ar lr.length cr, v] X (Ret X (.bool true))) := Lib.hid fun X v hb h => KQ4.out X v hpq hset hb h
                clear KQ4 Hlr0 Hlr1 G2 G3
                unfold setB at hset
                have d1 : decide (set < 0) = false := decide_eq_false (by have := of_decide_eq_true (Bool.and_eq_true_iff.1 hset).1; omega)
                have d2 : decide (8191 < set) = false := decide_eq_false (by have := of_decide_eq_true (Bool.and_eq_true_iff.1 hset).2; omega)
                have Cs := FC.out _ (GK.out _ kb)
                have s0 := Cs.2.2.1
                have s1 := Cs.2.2.2
                clear hset Cs
                go_wp2_with fail
                refine (KR1'.out _ _ kb).mono ?_
                rintro e Wl ⟨v8, rfl, o, hb⟩
                have kb := kb.trans (hb.mono kb.size)
                have hi7 := ints_of_own o
                clear o hb s0 s1
                go_wp2_with fail
                refine (KQ4'.out _ _ kb hi7).mono ?_
                rintro e Wm ⟨rfl, hb⟩
                replace kb := kb.trans (hb.mono kb.size)
                clear hb hi7 KQ4' KR1'
                have kg := FG.out _ (GK.out _ kb)
                have r0 := (FB.out _ kg).r0
                have rf := (FB.out _ kg).rf
                have Kg := Lib.hid kg
                clear kg kb
                go_wp2_with fail
                have kg := Kg.out
                have hr := set_blk (FB.out _ kg).r 0 (.bool true)
                simp only [List.setIfInBounds_toArray, List.set_cons_zero] at hr
                exact q_end rfl hr (set_oth (FK.out _ kg) (by omega) 0 _) ((FW.out _ kg).setCell (p := ⟨B + 1 + 1, 0, none⟩) (by have := HBB.out; simp only; omega) _) (by have := HBB.out; omega)
          · have ha0 : a0 = -1 := by omega
            have hfo : fo = none := by rw [Hfo.out, if_neg h0]
            have hfs : fs = 0 := by rw [Hfs.out, hfo]; rfl
            have hft : ft = 0 := by rw [Hft.out, hfo]; rfl
            have hfv : fv = 0 := by rw [Hfv.out, hfo]; rfl
            have hfb : fb = false := by rw [Hfb.out, hfo]; rfl
            clear Hfs Hft Hfv Hfb Hfo hlo1 hlo2 h0
            subst hfs hft hfv hfb ha0
            go_wp2_with (go_at_call 30; (with_reducible refine (KQ2.out).mono ?_); rintro e Wg ⟨rfl, hb⟩; have kb := kb.trans (hb.mono kb.size); have d3 := blk_cell (FF.out _ (GK.out _ kb)) 0; have d4 := blk_cell (FF.out _ (GK.out _ kb)) 1; simp at d3 d4; clear hb)
            go_quiet (fail)
            clear d3 d4
            replace kb := below_dn kb nq
            generalize Wg.drewN nq = Wh at *
            have Cs := FC.out _ (GK.out _ kb)
            have s0 := Cs.2.2.1
            have s1 := Cs.2.2.2
            clear Cs
            go_wp2_with fail
            refine (r10Valid_c p q _).mono ?_
            rintro e Wi ⟨rfl, hb⟩
            replace kb := kb.trans (hb.mono kb.size)
            clear hb s0 s1
            cases hpq : okSpan (p, q)
            · have hlo := Hlo0.out hpq
              have hlr := Hlr0.out (.inl hpq)
              clear Hlo0 Hlo1 Hlr0 Hlr1 KR1 KQ3 KQ4 G2 G3
              subst hlo hlr
              have kg := FG.out _ (GK.out _ kb)
              have r0 := (FB.out _ kg).r0
              have rf := (FB.out _ kg).rf
              have Kg := Lib.hid kg
              clear kg kb
              go_wp2_with fail
              have kg := Kg.out
              have hr := set_blk (FB.out _ kg).r 0 (.bool true)
              simp only [List.setIfInBounds_toArray, List.set_cons_zero] at hr
              exact q_end rfl hr (set_oth (FK.out _ kg) (by omega) 0 _) ((FW.out _ kg).setCell (p := ⟨B + 1 + 1, 0, none⟩) (by have := HBB.out; simp only; omega) _) (by have := HBB.out; omega)
            · have KQ3' : Hid (∀ X v, Below We.heap.size We X → IsInts X v (relE 2044 p q L) → Calls Try.prog 30 #[.slice Ao lo.length co, v] X (Ret X (.bool true))) := Lib.hid fun X v hb h => KQ3.out X v hpq hb h
              have KR1' : Hid (∀ X st, Below We.heap.size We X → Calls Try.prog 31 #[_, .agg #[.int .i64 p, .int .i64 q], .int .i64 st] X (IntsRet X (relE st p q L))) := Lib.hid fun X st hb => KR1.out X st hpq hb
              have Cs := FC.out _ (GK.out _ kb)
              have s0 := Cs.2.2.1
              have s1 := Cs.2.2.2
              clear Cs KQ3 KR1 Hlo0 Hlo1
              go_wp2_with fail
              refine (KR1'.out _ _ kb).mono ?_
              rintro e Wj ⟨v7, rfl, o, hb⟩
              have kb := kb.trans (hb.mono kb.size)
              have hi7 := ints_of_own o
              clear o hb s0 s1
              go_wp2_with fail
              refine (KQ3'.out _ _ kb hi7).mono ?_
              rintro e Wk ⟨rfl, hb⟩
              replace kb := kb.trans (hb.mono kb.size)
              clear hb hi7 KQ3'
              cases hset : setB set
              · have hlr := Hlr0.out (.inr hset)
                clear Hlr0 Hlr1 KR1' KQ4 G2 G3
                subst hlr
                unfold setB at hset
                cases d1 : decide (0 ≤ set)
                · replace d1 : decide (set < 0) = true := decide_eq_true (by have := of_decide_eq_false d1; omega)
                  clear hset
                  have kg := FG.out _ (GK.out _ kb)
                  have r0 := (FB.out _ kg).r0
                  have rf := (FB.out _ kg).rf
                  have Kg := Lib.hid kg
                  clear kg kb
                  go_wp2_with fail
                  have kg := Kg.out
                  have hr := set_blk (FB.out _ kg).r 0 (.bool true)
                  simp only [List.setIfInBounds_toArray, List.set_cons_zero] at hr
                  exact q_end rfl hr (set_oth (FK.out _ kg) (by omega) 0 _) ((FW.out _ kg).setCell (p := ⟨B + 1 + 1, 0, none⟩) (by have := HBB.out; simp only; omega) _) (by have := HBB.out; omega)
                · rw [d1, Bool.true_and] at hset
                  replace d1 : decide (set < 0) = false := decide_eq_false (by have := of_decide_eq_true d1; omega)
                  replace hset : decide (8191 < set) = true := decide_eq_true (by have := of_decide_eq_false hset; omega)
                  have kg := FG.out _ (GK.out _ kb)
                  have r0 := (FB.out _ kg).r0
                  have rf := (FB.out _ kg).rf
                  have Kg := Lib.hid kg
                  clear kg kb
                  go_wp2_with fail
                  have kg := Kg.out
                  have hr := set_blk (FB.out _ kg).r 0 (.bool true)
                  simp only [List.setIfInBounds_toArray, List.set_cons_zero] at hr
                  exact q_end rfl hr (set_oth (FK.out _ kg) (by omega) 0 _) ((FW.out _ kg).setCell (p := ⟨B + 1 + 1, 0, none⟩) (by have := HBB.out; simp only; omega) _) (by have := HBB.out; omega)
              · have KQ4' : Hid (∀ X v, Below We.heap.size We X → IsInts X v (relE set p q L) → Calls Try.prog 30 #[.slice Ar lr.length cr, v] X (Ret X (.bool true))) := Lib.hid fun X v hb h => KQ4.out X v hpq hset hb h
                clear KQ4 Hlr0 Hlr1 G2 G3
                unfold setB at hset
                have d1 : decide (set < 0) = false := decide_eq_false (by have := of_decide_eq_true (Bool.and_eq_true_iff.1 hset).1; omega)
                have d2 : decide (8191 < set) = false := decide_eq_false (by have := of_decide_eq_true (Bool.and_eq_true_iff.1 hset).2; omega)
                have Cs := FC.out _ (GK.out _ kb)
                have s0 := Cs.2.2.1
                have s1 := Cs.2.2.2
                clear hset Cs
                go_wp2_with fail
                refine (KR1'.out _ _ kb).mono ?_
                rintro e Wl ⟨v8, rfl, o, hb⟩
                have kb := kb.trans (hb.mono kb.size)
                have hi7 := ints_of_own o
                clear o hb s0 s1
                go_wp2_with fail
                refine (KQ4'.out _ _ kb hi7).mono ?_
                rintro e Wm ⟨rfl, hb⟩
                replace kb := kb.trans (hb.mono kb.size)
                clear hb hi7 KQ4' KR1'
                have kg := FG.out _ (GK.out _ kb)
                have r0 := (FB.out _ kg).r0
                have rf := (FB.out _ kg).rf
                have Kg := Lib.hid kg
                clear kg kb
                go_wp2_with fail
                have kg := Kg.out
                have hr := set_blk (FB.out _ kg).r 0 (.bool true)
                simp only [List.setIfInBounds_toArray, List.set_cons_zero] at hr
                exact q_end rfl hr (set_oth (FK.out _ kg) (by omega) 0 _) ((FW.out _ kg).setCell (p := ⟨B + 1 + 1, 0, none⟩) (by have := HBB.out; simp only; omega) _) (by have := HBB.out; omega)

set_option maxRecDepth 100000 in
theorem law42Queries_lifted (os : Os) (started : os.Started) (H : Type) (enc : TypeId × Value → H) :
    ReturnsInHanded {} Try.checked os 6 .any (Rows.indexQueriesSpec.pre6 enc Try.prog Try.f6 Rows.indexQueriesRow.domain false) (Rows.indexQueriesSpec.post enc Try.prog Try.f6 false true false false) := by
  refine returnsInHanded_of_change (C := Try.checked) Try.own started (by kernel_rfl) Try.func6
    (ChangeSpec.witness6 (enc := enc) (C := Try.checked) false ⟨#[], #[.agg #[.slice none 0 0, .int .i64 0], .int .i64 0, .agg #[.int .i64 0, .int .i64 0], .int .i64 0], []⟩ 8 (by kernel_rfl) (by kernel_rfl) (by kernel_rfl) (by kernel_rfl)) ?_
  intro W base args ds gs before hval0 hW hcnd _
  have hval : ∀ (j : Nat) t v, Try.f6.params[j]? = some t → args[j]? = some v → Value.okWide Try.prog W .any base t v := hval0
  have hW' := hW
  obtain ⟨p, q, hA0, hV, rfl, hfz, hnd⟩ := hW
  have hA : DataW.TrodAll enc Try.prog W 0 (fun _ => true) true Try.f6.params.toList args.toList ds p := hA0
  have hA1 := hA0
  rw [Try.params6] at hA hval
  obtain ⟨v0, v1, v2, v3, d0, d1, d2, d3, p0, p1, p2, p3, rfl, rfl, hp, h0, h1, h2, h3⟩ := trodAll_four hA
  obtain ⟨rfl, rfl⟩ := trodVars_none hV
  obtain ⟨s0, Nr, N, rfl, g0⟩ := open_tree (hval 0 24 v0 rfl rfl) h0
  obtain ⟨x, rfl, rfl, rfl, g1⟩ := open_int Try.underlying3 (hval 1 3 v1 rfl rfl) h1
  obtain ⟨s1, s2, rfl, g2⟩ := open_span (hval 2 33 v2 rfl rfl) h2
  obtain ⟨set, rfl, rfl, rfl, g3⟩ := open_int Try.underlying3 (hval 3 3 v3 rfl rfl) h3
  clear hA0 hval0
  have hlt : ∀ x ∈ p, x.block < W.heap.size := fun x hx => hW'.lt x (by simp [hx])
  refine (law42Queries_c s0 Nr N x s1 s2 set W g0).mono fun e W' ⟨he, hg⟩ => ?_
  subst he
  exact ⟨_, rfl, post_of_below (pa := p) (pv := []) hW' (fun _ _ _ => trodAll_mk1 (shut_bool Try.underlying4 _))
    (fun sp hsp => trodAll_keep Try.laidOut hg (by kernel_rfl) hA1 hlt (fun x hx => hsp x (by simp [hx])))
    (fun _ _ => rfl) rfl hg (ok_one (by kernel_rfl) rfl (okWide_bool_mk Try.underlying4 _))⟩

theorem law42Queries_holds : Rows.IndexQueriesSaid :=
  OpenClaim.holds_of_wide 6 Try.f6 rfl rfl rfl rfl rfl rfl rfl ⟨rfl, rfl, rfl, rfl, rfl⟩ rfl rfl rfl rfl rfl (by kernel_rfl) Try.func6 (by kernel_rfl)
    (of_decide_eq_true (by kernel_rfl)) (by unfold Func.isWrapper; first | (rw [if_pos (by decide +kernel)]; kernel_rfl) | (rw [if_neg (by decide +kernel)]; exact ⟨rfl, rfl⟩))
    (fun os started H enc _ => law42Queries_lifted os started H enc)
#print axioms law42Queries_holds
end Go.Proofs.Ytgdcgdjlhljbiaa
