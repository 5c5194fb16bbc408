/- Law 42: the law's closure that collects the entries of a tree. -/
import Derived.Test.YtgdcgdjlhljbiaaIyQ
namespace Go.Proofs.Ytgdcgdjlhljbiaa
open Go.RowKit Go.Shelf
attribute [local go_sem] Oper.semAt_some

theorem comes_le (N : List Nd) (root : Int) : (comes N root).length ≤ 1000 := by
  unfold comes
  split
  · rename_i h
    obtain ⟨h1, h2⟩ := treeB_valid h
    rw [entsT_len h2]
    exact h1
  · simp
set_option maxRecDepth 100000 in
set_option maxHeartbeats 4000000 in
theorem collect42_c (v : Value) (root : Int) (N : List Nd) (w : World) (hs : IsNodes w v N) : Calls Try.prog 42 #[.agg #[v, .int .i64 root]] w (EntsRet 39 w.heap.size w w (comes N root)) := by
  obtain ⟨A, c, rfl, hnc, hc⟩ := hs.form
  obtain ⟨w1, hw1⟩ : ∃ x, x = (w.alloc (.cells #[.slice A N.length c, .int .i64 root] 24)).alloc (.cells #[.slice none 0 0] 35) := ⟨_, rfl⟩
  obtain ⟨ca, hca⟩ : ∃ x, x = w.heap.size + 1 := ⟨_, rfl⟩
  have hb1 : Below w.heap.size w w1 := by rw [hw1]; exact ((Below.refl _ _).alloc (Nat.le_refl _) _).alloc (by simp) _
  have hT : w1.heap[w.heap.size]? = some (.cells #[.slice A N.length c, .int .i64 root] 24 (0, 0)) := by rw [hw1]; exact old_blk (new_blk _ _ rfl)
  have hC : w1.heap[ca]? = some (.cells #[.slice none 0 0] 35 (0, 0)) := by rw [hw1, hca]; exact new_blk _ _ (by simp)
  have hz1 : w1.heap.size = ca + 1 := by rw [hw1, hca]; simp
  have hs1 := hs.below hb1
  have t0 := blk_cell hT 0
  have t1 := blk_cell hT 1
  simp at t0 t1
  rw [hw1] at t0 t1
  have Hw1 := Lib.hid hw1; have Hca := Lib.hid hca; have Hb1 := Lib.hid hb1; have HC := Lib.hid hC; have Hz1 := Lib.hid hz1; have Hs1 := Lib.hid hs1; have Hs := Lib.hid hs
  clear hw1 hca hb1 hT hC hz1 hs1 hs
  refine (callsIn_wide (n := 8)).1 ?_
  refine callsIn_of_wp_marks Try.func42 rfl trivial ?_ rfl
  simp only [Try.ntmps42, List.size_toArray, List.length_cons, List.length_nil, Nat.reduceAdd, Nat.reduceSub, Array.replicate_succ, Array.replicate_zero, List.push_toArray, List.append_toArray, List.nil_append, List.cons_append]
  gi_wp2_with fail
  rw [← Hw1.out]
  refine ⟨trivial, (callsIn_wide.2 (xAll_c _ root N _ Hs1.out)).mono ?_⟩
  rintro e W5 ⟨rfl, rfl⟩
  clear t0 t1
  gi_wp2_with fail
  obtain ⟨W6, hW6⟩ : ∃ x, x = w1.alloc (.cells #[.slice A N.length c, .int .i64 root] 24) := ⟨_, rfl⟩
  rw [← hW6, ← Hca.out]
  have hca := Hca.out
  have hz1 := Hz1.out
  have hb6 : Below w1.heap.size w1 W6 := by rw [hW6]; exact (Below.refl _ _).alloc (Nat.le_refl _) _
  have hz6 : W6.heap.size = ca + 2 := by rw [hW6, World.size_alloc, hz1]
  have hTT : W6.heap[w1.heap.size]? = some (.cells #[.slice A N.length c, .int .i64 root] 24 (0, 0)) := by rw [hW6]; exact heap_alloc_new w1 _
  have hB6 := Hb1.out.trans (hb6.mono Hb1.out.size)
  have hC6 := (hb6.block _ (lt_of_block HC.out)).trans HC.out
  have hs6 := Hs1.out.below hb6
  have hlow : LowNodes ca W6 (.slice A N.length c) N := ⟨hs6, (LowNodes.of Hs.out (by omega)).2⟩
  have hin : InBox ca 35 39 [] W6 := ⟨_, hC6, OwnsE.nil⟩
  refine wpIn_rangeFunc_ownH rfl (by omega) (gf := 56) (lb := #[.pointer (some ⟨w1.heap.size, 0, none⟩)]) rfl trivial (enters_of Try.func56 (by kernel_rfl) rfl)
    (xAll_stops (dom_box ca 35) 7 w1.heap.size N root _ W6 hlow hTT hin.wf) KpW.trans (fun W l o o' _ h hc _ => kpW_b (box_put ca 35) W l o o' h hc) (Below.refl _ _) (fun _ => rfl)
    (fun pre W => InBox ca 35 39 pre W ∧ Below w.heap.size w W)
    (fun _ _ _ => False)
    (OwnFrom.and (fun s X Y row hs hg hr => hs.other hg (fun r e => (hr r e).2)) (ownFrom_below (Nat.le_refl _) (by omega)))
    (fun _ _ _ _ _ hs _ _ => hs)
    ⟨hin, hB6⟩
    (fun x a' W => ∃ Bx, ca < Bx ∧ W.heap[Bx]? = some (.cells #[.int .i64 x.1, .int .i64 x.2.1] 33 (0, 0)) ∧ a' = { tmps := #[.agg #[.slice A N.length c, .int .i64 root], .pointer (some ⟨w.heap.size, 0, none⟩), .slice none 0 0, .pointer (some ⟨ca, 0, none⟩), .pointer (some ⟨Bx, 0, none⟩), .int .i64 x.2.2, .agg #[.slice A N.length c, .int .i64 root], .func (.func 56) #[] #[.pointer (some ⟨w1.heap.size, 0, none⟩)], .agg #[.int .i64 x.1, .int .i64 x.2.1], .int .i64 x.2.2, undef, undef, undef, undef, undef, undef, undef], defers := [] })
    (fun x a' _ X Y row hs hg hr => by obtain ⟨Bx, h1, h2, h3⟩ := hs; exact ⟨Bx, h1, (grownBy_keeps_cells hg (fun r e => (hr r e).2) h2 rfl).trans h2, h3⟩)
    ?assign ?body ?done ?stop
  case assign =>
    rintro l pre x W K ⟨hin, hB⟩ hK
    clear hca hz1 hz6
    unfold encs2
    gi_wp2
    have hb : Below W.heap.size W (W.alloc (.cells #[.int .i64 x.1, .int .i64 x.2.1] 33)) := (Below.refl _ W).alloc (Nat.le_refl _) _
    have hkp : KpW (wfBox ca 35) (OBox ca 35) W (W.alloc (.cells #[.int .i64 x.1, .int .i64 x.2.1] 33)) := fun hwf => (dom_box ca 35).keeps hwf hb
    have hin' := hin.below hb
    obtain ⟨v9, hv9, _⟩ := hin
    exact hK _ _ ((KeepsOthers.alloc _ _).from _) hkp ⟨hin', hB.alloc hB.size _⟩ ⟨W.heap.size, lt_of_block hv9, heap_alloc_new W _, rfl⟩
  case body =>
    rintro l pre x a' W _ _ ⟨hin, hB⟩ ⟨Bx, hBx, bX, rfl⟩ hlt
    have hle := comes_le N root
    obtain ⟨v, hv, ho⟩ := hin
    obtain ⟨Ao, co, rfl, _, _⟩ := ho.ents.form
    obtain ⟨x0, x1, x2⟩ := x
    have c0 := blk_cell hv 0
    have x0' := blk_cell bX 0
    have x1' := blk_cell bX 1
    simp at c0 x0' x1'
    have hcw := lt_of_block hv
    have hne : (Value.slice Ao pre.length co).ownBlock ≠ some ca := fun e => by have := (ho.own ca e).1; omega
    have Hv := Lib.hid hv; have Ho := Lib.hid ho; have HB := Lib.hid hB; have Hne := Lib.hid hne; have Hca := Lib.hid hca
    clear hca hz1 hz6 hv ho hB hne bX
    gi_wp2_with (gi_at_builtin; refine append_entIn Try.underlying35 tREntryInfo rfl _ _ rfl (ca + 1) (.slice Ao pre.length co) pre (x0, x1, x2) rfl Ho.out rfl (by omega) (by omega) ?_; intro v' w' h1 h2 h3 h4 h5; have q0 : w'.heap[ca]? = some (.cells #[.slice Ao pre.length co] 35 (0, 0)) := (h3 ca hcw Hne.out).trans Hv.out; have q1 : w'.cell? ⟨ca, 0, none⟩ = some (.slice Ao pre.length co) := (by simp [World.cell?, q0]); have q2 : w'.frozen? ⟨ca, 0, none⟩ = false := (by simp [World.frozen?, q0]); have H1 := Lib.hid h1; have H2 := Lib.hid h2; have H3 := Lib.hid h3; have H4 := Lib.hid h4; have H5 := Lib.hid h5; obtain ⟨g', cap', rfl, hg1, hg2, _, _⟩ := own_formE h1 (by simp); clear h1 h2 h3 h4 h5 q0)
    have h1 := H1.out
    have e : (pre ++ [(x0, x1, x2)]).length = pre.length + 1 := by simp
    have h4 := H4.out
    rw [e] at h1 h4
    have hsz := H5.out.size
    obtain ⟨g1, g2⟩ := InBox.grow Hv.out Ho.out h1 hsz H3.out h4
    exact ⟨(H5.out.trans (KeepsOthers.setCell _ _ _)).from _, g2, g1, ((HB.out.trans (H2.out.mono (by rw [Hca.out]; omega)))).setCell (p := ⟨ca, 0, none⟩) (by simp only; rw [Hca.out]; omega) _⟩
  case done =>
    rintro D ys W hD rfl ⟨⟨v5, hv5, ho5⟩, hB⟩ hK
    obtain ⟨A5, c5, rfl, _, _⟩ := ho5.ents.form
    have hDw : w.heap.size ≤ D := by omega
    have Hca := Lib.hid hca
    clear hca hz1 hz6
    have t0 := blk_cell hv5 0
    simp at t0
    gi_wp2
    refine ⟨by simp, .inl ⟨_, _, rfl, run_takeDeferred hK, ?_⟩⟩
    have hbk := belowK_b (n₀ := w.heap.size) (w := w) (Nat.le_refl _) W D _ (.deferred none) hDw hK rfl rfl
    refine ⟨_, results_tmp rfl _ _ _, _, rfl, ?_, hB.trans hbk, hB.trans hbk⟩
    have h := ho5.other (grownBy_putObj' W D (.deferred none)) (fun r e => by cases e; exact ⟨_, hK, rfl⟩)
    exact h.mono (by rw [Hca.out]; omega)
  case stop =>
    rintro D c pre W _ _ h _
    exact h.elim
end Go.Proofs.Ytgdcgdjlhljbiaa
