/- AggregateTotals: Total returns the specified sum, or the specified error. -/
import Derived.Test.YtohjgegnamcnlaaGreatRows
import Derived.Test.YtohjgegnamcnlaaGreatAhk
import Derived.Test.YtohjgegnamcnlaaGreatAjY
namespace Go.Proofs.YtohjgegnamcnlaaGreat
open Go.RowKit Go.Shelf Go.ChangeShapes Go.WideShapes Go.ChangeAt

theorem few_size {F : List Fct} (h : fewF F = true) : F.length ≤ 16 ∧ ∀ f ∈ F, ∀ x ∈ f.1, x.2.2.size ≤ 1000000000 := by
  unfold fewF at h
  simp only [Bool.and_eq_true, decide_eq_true_eq, Bool.not_eq_true', List.any_eq_false] at h
  refine ⟨h.1, fun f hf x hx => ?_⟩
  have h1 := h.2 f hf
  unfold bigF at h1
  rw [Bool.or_eq_true, not_or] at h1
  have h2 := h1.2
  rw [List.any_eq_true] at h2
  have h3 : ¬ bigS x = true := fun e => h2 ⟨x, hx, e⟩
  unfold bigS at h3
  rw [decide_eq_true_eq] at h3
  omega
set_option maxRecDepth 100000 in
set_option maxHeartbeats 4000000 in
theorem law39Totals_c (v : Value) (F : List Fct) (col a b : Int) (W : World) (hs : IsFs W v F) (hm : MachF F) : Calls Tryz.prog 4 #[v, .int .i64 col, .agg #[.int .i64 a, .int .i64 b]] W (Ret W (.bool true)) := by
  have KF : Hid (∀ X, Below W.heap.size W X → Calls Tryz.prog 9 #[v] X (Ret X (.bool (fewF F)))) := Lib.hid fun X h => few39_c v F X (hs.below h)
  have KT : Hid (fewF F = true → ∀ X, Below W.heap.size W X → Calls Tryz.prog 13 #[v, .int .i64 col, .agg #[.int .i64 a, .int .i64 b]] X (Ret X (.tuple #[.int .i64 (TotS F col (a, b)).1, .int .i64 (TotS F col (a, b)).2]))) := Lib.hid fun hn X h => aTotal_c v F col (a, b) X (hs.below h) hm (by have := (few_size hn).1; omega)
  have KT2 : Hid (fewF F = true → ∀ X, Below W.heap.size W X → Calls Tryz.prog 14 #[v, .int .i64 col, .agg #[.int .i64 a, .int .i64 b]] X (Ret X (.tuple #[.int .i64 (TotS F col (a, b)).1, .int .i64 (TotS F col (a, b)).2]))) := Lib.hid fun hn X h => r39Total_c v F col (a, b) X (hs.below h) hm (few_size hn).1 (few_size hn).2
  obtain ⟨S, hs⟩ := hs
  obtain ⟨A, cc, rfl, hnc, hcc⟩ := hs.form
  generalize TotS F col (a, b) = res at KT KT2
  obtain ⟨r1, r2⟩ := res
  simp only at KT KT2
  have KA : Hid (∀ X, Calls Tryz.prog 8 #[] X (Ret X (.bool true))) := Lib.hid fun X => awake39_c X
  obtain ⟨W0, hW0⟩ : ∃ Y, Y = W.alloc (.cells #[.int .i64 a, .int .i64 b] 34) := ⟨_, rfl⟩
  have hT : W0.heap[W.heap.size]? = some (.cells #[.int .i64 a, .int .i64 b] 34 (0, 0)) := by rw [hW0]; exact heap_alloc_new W _
  have hb0 : Below W.heap.size W W0 := by rw [hW0]; exact (Below.refl _ _).alloc (Nat.le_refl _) _
  have HT : Hid (∀ X, Below W0.heap.size W0 X → X.heap[W.heap.size]? = some (.cells #[.int .i64 a, .int .i64 b] 34 (0, 0))) := Lib.hid fun X h => (h.block _ (blk_lt hT)).trans hT
  have HW0 := Lib.hid hW0; have HB0 := Lib.hid hb0
  clear hW0 hT hb0 hm
  go_enter Tryz.func4, Tryz.ntmps4
  go_wp2_with fail
  rw [← HW0.out]
  refine (KA.out W0).mono ?_
  rintro e W1 ⟨rfl, hb1⟩
  have hw1 := HB0.out.trans (hb1.mono HB0.out.size)
  go_wp2_with fail
  refine (KF.out W1 hw1).mono ?_
  rintro e W2 ⟨rfl, hb2⟩
  have hw2 := hw1.trans (hb2.mono hw1.size)
  have h02 := hb1.trans (hb2.mono hb1.size)
  clear hb1 hb2 hw1
  cases q1 : fewF F
  · go_wp2_with fail
    go_ret
    exact ⟨rfl, hw2⟩
  have Q1 := Lib.hid q1
  have t2 := HT.out W2 h02
  have x0 := blk_get t2 0
  have x1 := blk_get t2 1
  simp at x0 x1
  clear q1 t2
  go_wp2_with fail
  refine (KT.out Q1.out W2 hw2).mono ?_
  rintro e W3 ⟨rfl, hb3⟩
  have hw3 := hw2.trans (hb3.mono hw2.size)
  have h03 := h02.trans (hb3.mono h02.size)
  clear hb3 hw2 h02 x0 x1
  have t2 := HT.out W3 h03
  have x0 := blk_get t2 0
  have x1 := blk_get t2 1
  simp at x0 x1
  clear t2
  go_wp2_with fail
  refine (KT2.out Q1.out W3 hw3).mono ?_
  rintro e W4 ⟨rfl, hb4⟩
  have Hw4 := Lib.hid (hw3.trans (hb4.mono hw3.size))
  have e1 : (r1 == r1) = true := by simp
  have e2 : (r2 == r2) = true := by simp
  clear hb4 hw3 h03 x0 x1
  go_wp2_with fail
  go_ret
  exact ⟨rfl, Hw4.out⟩

set_option maxRecDepth 100000 in
theorem law39Totals_lifted (os : Os) (started : os.Started) (H : Type) (enc : TypeId × Value → H) :
    ReturnsInHanded {} Tryz.checked os 4 .any (Rows.aggregateTotalsSpec.pre6 enc Tryz.prog Tryz.f4 Rows.aggregateTotalsRow.domain false) (Rows.aggregateTotalsSpec.post enc Tryz.prog Tryz.f4 false true false false) := by
  refine returnsInHanded_of_change (C := Tryz.checked) Tryz.own started (by kernel_rfl) Tryz.func4
    (ChangeSpec.witness6 (enc := enc) (C := Tryz.checked) false ⟨#[], #[.slice none 0 0, .int .i64 0, .agg #[.int .i64 0, .int .i64 0]], []⟩ 8 (by kernel_rfl) (by kernel_rfl) (by kernel_rfl) (by kernel_rfl)) ?_
  intro W base args ds gs before hval0 hW hcnd _
  have hval : ∀ (j : Nat) t v, Tryz.f4.params[j]? = some t → args[j]? = some v → Value.okWide Tryz.prog W .any base t v := hval0
  have hW' := hW
  obtain ⟨p, q, hA0, hV, rfl, hfz, hnd⟩ := hW
  have hA : DataW.TrodAll enc Tryz.prog W 0 (fun _ => true) true Tryz.f4.params.toList args.toList ds p := hA0
  have hA1 := hA0
  rw [Tryz.params4] at hA hval
  obtain ⟨v0, v1, v2, d0, d1, d2, p0, p1, p2, rfl, rfl, hp, h0, h1, h2⟩ := trodAll_three hA
  obtain ⟨rfl, rfl⟩ := trodVars_none hV
  obtain ⟨l, g0, m0⟩ := open_facts (hval 0 22 v0 rfl rfl) h0
  obtain ⟨column, rfl, rfl, rfl, g1⟩ := open_int Tryz.underlying3 (hval 1 3 v1 rfl rfl) h1
  obtain ⟨in1, in2, rfl, g2⟩ := open_span (hval 2 34 v2 rfl rfl) h2
  clear hA0 hval0
  have hlt : ∀ x ∈ p, x.block < W.heap.size := fun x hx => hW'.lt x (by simp [hx])
  refine (law39Totals_c v0 l column in1 in2 W g0 m0).mono fun e W' ⟨he, hg⟩ => ?_
  subst he
  exact ⟨_, rfl, post_of_below (pa := p) (pv := []) hW' (fun _ _ _ => trodAll_mk1 (shut_bool Tryz.underlying4 _))
    (fun sp hsp => trodAll_keep Tryz.laidOut hg (by kernel_rfl) hA1 hlt (fun x hx => hsp x (by simp [hx])))
    (fun _ _ => rfl) rfl hg (ok_one (by kernel_rfl) rfl (okWide_bool_mk Tryz.underlying4 _))⟩

theorem law39Totals_holds : Rows.AggregateTotalsSaid :=
  OpenClaim.holds_of_wide 4 Tryz.f4 rfl rfl rfl rfl rfl rfl rfl ⟨rfl, rfl, rfl, rfl, rfl⟩ rfl rfl rfl rfl rfl (by kernel_rfl) Tryz.func4 (by kernel_rfl)
    (of_decide_eq_true (by kernel_rfl)) (by unfold Func.isWrapper; first | (rw [if_pos (by decide +kernel)]; kernel_rfl) | (rw [if_neg (by decide +kernel)]; exact ⟨rfl, rfl⟩))
    (fun os started H enc _ => law39Totals_lifted os started H enc)
#print axioms law39Totals_holds
end Go.Proofs.YtohjgegnamcnlaaGreat
