/- AggregateMoving: Steps and Moving return the specified facts, or the specified errors. -/
import Derived.Test.YtohjgegnamcnlaaGreatRows
import Derived.Test.YtohjgegnamcnlaaGreatAhk
import Derived.Test.YtohjgegnamcnlaaGreatAjX
namespace Go.Proofs.YtohjgegnamcnlaaGreat
open Go.RowKit Go.Shelf Go.ChangeShapes Go.WideShapes Go.ChangeAt

theorem few_size {F : List Fct} (h : fewF F = true) : F.length ≤ 16 ∧ ∀ f ∈ F, ∀ x ∈ f.1, x.2.2.size ≤ 1000000000 := by
  unfold fewF at h
  simp only [Bool.and_eq_true, decide_eq_true_eq, Bool.not_eq_true', List.any_eq_false] at h
  refine ⟨h.1, fun f hf x hx => ?_⟩
  have h1 := h.2 f hf
  unfold bigF at h1
  rw [Bool.or_eq_true, not_or] at h1
  have h2 := h1.2
  rw [List.any_eq_true] at h2
  have h3 : ¬ bigS x = true := fun e => h2 ⟨x, hx, e⟩
  unfold bigS at h3
  rw [decide_eq_true_eq] at h3
  omega
set_option maxRecDepth 100000 in
set_option maxHeartbeats 4000000 in
theorem law39Moving_c (v : Value) (F : List Fct) (col win : Int) (W : World) (hs : IsFs W v F) (hm : MachF F) : Calls Tryz.prog 5 #[v, .int .i64 col, .int .i64 win] W (Ret W (.bool true)) := by
  have KF : Hid (∀ X, Below W.heap.size W X → Calls Tryz.prog 9 #[v] X (Ret X (.bool (fewF F)))) := Lib.hid fun X h => few39_c v F X (hs.below h)
  have KG : Hid (fewF F = true → ∀ X, Below W.heap.size W X → Calls Tryz.prog 15 #[v] X (GroupRet F [] 1 0 X)) := Lib.hid fun hn X h => aSteps_c v F X (hs.below h) hm (by have := (few_size hn).1; omega)
  have KG2 : Hid (fewF F = true → ∀ X, Below W.heap.size W X → Calls Tryz.prog 11 #[v, .slice none 0 0, .int .i64 1, .int .i64 0] X (RGrpRet F [] 1 0 X)) := Lib.hid fun hn X h => r39Group_c v (.slice none 0 0) F [] 1 0 X (hs.below h) IsInts.nil hm (few_size hn).1 (by simp) (few_size hn).2
  have KM : Hid (fewF F = true → ∀ X, Below W.heap.size W X → Calls Tryz.prog 16 #[v, .int .i64 col, .int .i64 win] X (MovRet F col win X)) := Lib.hid fun hn X h => aMoving_c v F col win X (hs.below h) hm (by have := (few_size hn).1; omega)
  have KM2 : Hid (fewF F = true → ∀ X, Below W.heap.size W X → Calls Tryz.prog 17 #[v, .int .i64 col, .int .i64 win] X (RMovRet F col win X)) := Lib.hid fun hn X h => r39Moving_c v F col win X (hs.below h) hm (few_size hn).1 (few_size hn).2
  obtain ⟨S, hs⟩ := hs
  obtain ⟨A, cc, rfl, hnc, hcc⟩ := hs.form
  have KA := Lib.hid (awake39_c W)
  clear hm
  go_enter Tryz.func5, Tryz.ntmps5
  go_wp2_with fail
  refine KA.out.mono ?_
  rintro e W1 ⟨rfl, hb1⟩
  go_wp2_with fail
  refine (KF.out W1 hb1).mono ?_
  rintro e W2 ⟨rfl, hb2⟩
  have hw2 := hb1.trans (hb2.mono hb1.size)
  clear hb1 hb2
  cases q1 : fewF F
  · go_wp2_with fail
    go_ret
    exact ⟨rfl, hw2⟩
  have Q1 := Lib.hid q1
  clear q1
  go_wp2_with fail
  refine (KG.out Q1.out W2 hw2).mono ?_
  rintro e W3 ⟨v3, c3, rfl, hb3, hg3⟩
  have hw3 := hw2.trans (hb3.mono hw2.size)
  have HG3 := Lib.hid hg3
  clear hw2 hb3 hg3
  go_wp2_with fail
  refine (KG2.out Q1.out W3 hw3).mono ?_
  rintro e W4 ⟨v4, c4, rfl, hb4, hg4⟩
  obtain ⟨rfl, B, hB3, hB4⟩ := grp_eq HG3.out hg4
  have hw4 := hw3.trans (hb4.mono hw3.size)
  have hB3 := hB3.below hb4
  have KS : Hid (Calls Tryz.prog 12 #[v3, v4] W4 (Ret W4 (.bool true))) := Lib.hid (by
    have := r39Same_c v3 v4 B B W4 hB3 hB4
    rw [show sameF B B = true from decide_eq_true rfl] at this
    exact this)
  obtain ⟨S3, hB3⟩ := hB3
  obtain ⟨S4, hB4⟩ := hB4
  obtain ⟨A3, k3, rfl, _, _⟩ := hB3.form
  obtain ⟨A4, k4, rfl, _, _⟩ := hB4.form
  have Hw4 := Lib.hid hw4
  have e1 : (c3 == c3) = true := by simp
  have e2 : (c3 != c3) = false := by simp
  clear hw3 hb4 hg4 hB3 hB4 hw4
  go_wp2_with fail
  refine KS.out.mono ?_
  rintro e W5 ⟨rfl, hb5⟩
  have hw5 := Hw4.out.trans (hb5.mono Hw4.out.size)
  clear hb5 e1 e2
  go_wp2_with fail
  refine (KM.out Q1.out W5 hw5).mono ?_
  rintro e W6 ⟨v6, c6, rfl, hb6, hg6⟩
  have hw6 := hw5.trans (hb6.mono hw5.size)
  have HG6 := Lib.hid hg6
  clear hw5 hb6 hg6
  go_wp2_with fail
  refine (KM2.out Q1.out W6 hw6).mono ?_
  rintro e W7 ⟨v7, c7, rfl, hb7, hg7⟩
  obtain ⟨rfl, C, hC6, hC7⟩ := mov_eq HG6.out hg7
  have hw7 := hw6.trans (hb7.mono hw6.size)
  have hC6 := hC6.below hb7
  have KT : Hid (Calls Tryz.prog 12 #[v6, v7] W7 (Ret W7 (.bool true))) := Lib.hid (by
    have := r39Same_c v6 v7 C C W7 hC6 hC7
    rw [show sameF C C = true from decide_eq_true rfl] at this
    exact this)
  obtain ⟨S6, hC6⟩ := hC6
  obtain ⟨S7, hC7⟩ := hC7
  obtain ⟨A6, k6, rfl, _, _⟩ := hC6.form
  obtain ⟨A7, k7, rfl, _, _⟩ := hC7.form
  have Hw7 := Lib.hid hw7
  clear hw6 hb7 hg7 hC6 hC7 hw7
  go_wp2_with fail
  refine KT.out.mono ?_
  rintro e W8 ⟨rfl, hb8⟩
  have Hw8 := Lib.hid (Hw7.out.trans (hb8.mono Hw7.out.size))
  clear hb8
  go_wp2_with fail
  go_ret
  exact ⟨rfl, Hw8.out⟩

set_option maxRecDepth 100000 in
theorem law39Moving_lifted (os : Os) (started : os.Started) (H : Type) (enc : TypeId × Value → H) :
    ReturnsInHanded {} Tryz.checked os 5 .any (Rows.aggregateMovingSpec.pre6 enc Tryz.prog Tryz.f5 Rows.aggregateMovingRow.domain false) (Rows.aggregateMovingSpec.post enc Tryz.prog Tryz.f5 false true false false) := by
  refine returnsInHanded_of_change (C := Tryz.checked) Tryz.own started (by kernel_rfl) Tryz.func5
    (ChangeSpec.witness6 (enc := enc) (C := Tryz.checked) false ⟨#[], #[.slice none 0 0, .int .i64 0, .int .i64 0], []⟩ 8 (by kernel_rfl) (by kernel_rfl) (by kernel_rfl) (by kernel_rfl)) ?_
  intro W base args ds gs before hval0 hW hcnd _
  have hval : ∀ (j : Nat) t v, Tryz.f5.params[j]? = some t → args[j]? = some v → Value.okWide Tryz.prog W .any base t v := hval0
  have hW' := hW
  obtain ⟨p, q, hA0, hV, rfl, hfz, hnd⟩ := hW
  have hA : DataW.TrodAll enc Tryz.prog W 0 (fun _ => true) true Tryz.f5.params.toList args.toList ds p := hA0
  have hA1 := hA0
  rw [Tryz.params5] at hA hval
  obtain ⟨v0, v1, v2, d0, d1, d2, p0, p1, p2, rfl, rfl, hp, h0, h1, h2⟩ := trodAll_three hA
  obtain ⟨rfl, rfl⟩ := trodVars_none hV
  obtain ⟨l, g0, m0⟩ := open_facts (hval 0 22 v0 rfl rfl) h0
  obtain ⟨column, rfl, rfl, rfl, g1⟩ := open_int Tryz.underlying3 (hval 1 3 v1 rfl rfl) h1
  obtain ⟨window, rfl, rfl, rfl, g2⟩ := open_int Tryz.underlying3 (hval 2 3 v2 rfl rfl) h2
  clear hA0 hval0
  have hlt : ∀ x ∈ p, x.block < W.heap.size := fun x hx => hW'.lt x (by simp [hx])
  refine (law39Moving_c v0 l column window W g0 m0).mono fun e W' ⟨he, hg⟩ => ?_
  subst he
  exact ⟨_, rfl, post_of_below (pa := p) (pv := []) hW' (fun _ _ _ => trodAll_mk1 (shut_bool Tryz.underlying4 _))
    (fun sp hsp => trodAll_keep Tryz.laidOut hg (by kernel_rfl) hA1 hlt (fun x hx => hsp x (by simp [hx])))
    (fun _ _ => rfl) rfl hg (ok_one (by kernel_rfl) rfl (okWide_bool_mk Tryz.underlying4 _))⟩

theorem law39Moving_holds : Rows.AggregateMovingSaid :=
  OpenClaim.holds_of_wide 5 Tryz.f5 rfl rfl rfl rfl rfl rfl rfl ⟨rfl, rfl, rfl, rfl, rfl⟩ rfl rfl rfl rfl rfl (by kernel_rfl) Tryz.func5 (by kernel_rfl)
    (of_decide_eq_true (by kernel_rfl)) (by unfold Func.isWrapper; first | (rw [if_pos (by decide +kernel)]; kernel_rfl) | (rw [if_neg (by decide +kernel)]; exact ⟨rfl, rfl⟩))
    (fun os started H enc _ => law39Moving_lifted os started H enc)
#print axioms law39Moving_holds
end Go.Proofs.YtohjgegnamcnlaaGreat
