/- AggregateGroups: Group returns the specified facts, or the specified error. -/
import Derived.Test.YtohjgegnamcnlaaGreatRows
import Derived.Test.YtohjgegnamcnlaaGreatAhk
import Derived.Test.YtohjgegnamcnlaaGreatAiD
import Derived.Test.YtohjgegnamcnlaaGreatAjW
namespace Go.Proofs.YtohjgegnamcnlaaGreat
open Go.RowKit Go.Shelf Go.ChangeShapes Go.WideShapes Go.ChangeAt

theorem few_size {F : List Fct} (h : fewF F = true) : F.length ≤ 16 ∧ ∀ f ∈ F, ∀ x ∈ f.1, x.2.2.size ≤ 1000000000 := by
  unfold fewF at h
  simp only [Bool.and_eq_true, decide_eq_true_eq, Bool.not_eq_true', List.any_eq_false] at h
  refine ⟨h.1, fun f hf x hx => ?_⟩
  have h1 := h.2 f hf
  unfold bigF at h1
  rw [Bool.or_eq_true, not_or] at h1
  have h2 := h1.2
  rw [List.any_eq_true] at h2
  have h3 : ¬ bigS x = true := fun e => h2 ⟨x, hx, e⟩
  unfold bigS at h3
  rw [decide_eq_true_eq] at h3
  omega
set_option maxRecDepth 100000 in
set_option maxHeartbeats 4000000 in
theorem law39Groups_c (v vk : Value) (F : List Fct) (ks : List Int) (fn col : Int) (W : World) (hs : IsFs W v F) (hk : IsInts W vk ks) (hm : MachF F) : Calls Tryz.prog 3 #[v, vk, .int .i64 fn, .int .i64 col] W (Ret W (.bool true)) := by
  have KF : Hid (∀ X, Below W.heap.size W X → Calls Tryz.prog 9 #[v] X (Ret X (.bool (fewF F)))) := Lib.hid fun X h => few39_c v F X (hs.below h)
  have KG : Hid (fewF F = true → ∀ X, Below W.heap.size W X → Calls Tryz.prog 10 #[v, vk, .int .i64 fn, .int .i64 col] X (GroupRet F ks fn col X)) := Lib.hid fun hn X h => aGroup_c v vk F ks fn col X (hs.below h) (hk.below h) hm (by have := (few_size hn).1; omega)
  have KG2 : Hid (fewF F = true → ks.length ≤ 10 → ∀ X, Below W.heap.size W X → Calls Tryz.prog 11 #[v, vk, .int .i64 fn, .int .i64 col] X (RGrpRet F ks fn col X)) := Lib.hid fun hn hl X h => r39Group_c v vk F ks fn col X (hs.below h) (hk.below h) hm (few_size hn).1 (by omega) (few_size hn).2
  obtain ⟨S, hs⟩ := hs
  obtain ⟨A, cc, rfl, hnc, hcc⟩ := hs.form
  obtain ⟨Ak, ck, rfl, hnk, hck⟩ := hk.form
  have KA := Lib.hid (awake39_c W)
  clear hm
  go_enter Tryz.func3, Tryz.ntmps3
  go_wp2_with fail
  refine KA.out.mono ?_
  rintro e W1 ⟨rfl, hb1⟩
  go_wp2_with fail
  refine (KF.out W1 hb1).mono ?_
  rintro e W2 ⟨rfl, hb2⟩
  have hw2 := hb1.trans (hb2.mono hb1.size)
  clear hb1 hb2
  cases q1 : fewF F
  · go_wp2_with fail
    go_ret
    exact ⟨rfl, hw2⟩
  have Q1 := Lib.hid q1
  clear q1
  cases q2 : decide ((10 : Int) < (ks.length : Int))
  rotate_left
  · go_wp2_with fail
    go_ret
    exact ⟨rfl, hw2⟩
  have Q2 : Hid (ks.length ≤ 10) := Lib.hid (by have := of_decide_eq_false q2; omega)
  go_wp2_with fail
  clear q2
  refine (KG.out Q1.out W2 hw2).mono ?_
  rintro e W3 ⟨v3, c3, rfl, hb3, hg3⟩
  have hw3 := hw2.trans (hb3.mono hw2.size)
  have HG3 := Lib.hid hg3
  clear hw2 hb3 hg3
  go_wp2_with fail
  refine (KG2.out Q1.out Q2.out W3 hw3).mono ?_
  rintro e W4 ⟨v4, c4, rfl, hb4, hg4⟩
  obtain ⟨rfl, B, hB3, hB4⟩ := grp_eq HG3.out hg4
  have hw4 := hw3.trans (hb4.mono hw3.size)
  have hB3 := hB3.below hb4
  have KS : Hid (Calls Tryz.prog 12 #[v3, v4] W4 (Ret W4 (.bool true))) := Lib.hid (by
    have := r39Same_c v3 v4 B B W4 hB3 hB4
    rw [show sameF B B = true from decide_eq_true rfl] at this
    exact this)
  obtain ⟨S3, hB3⟩ := hB3
  obtain ⟨S4, hB4⟩ := hB4
  obtain ⟨A3, k3, rfl, _, _⟩ := hB3.form
  obtain ⟨A4, k4, rfl, _, _⟩ := hB4.form
  have Hw4 := Lib.hid hw4
  clear hw3 hb4 hg4 hB3 hB4 hw4
  go_wp2_with fail
  refine KS.out.mono ?_
  rintro e W5 ⟨rfl, hb5⟩
  have Hw5 := Lib.hid (Hw4.out.trans (hb5.mono Hw4.out.size))
  clear hb5
  go_wp2_with fail
  go_ret
  exact ⟨rfl, Hw5.out⟩

set_option maxRecDepth 100000 in
theorem law39Groups_lifted (os : Os) (started : os.Started) (H : Type) (enc : TypeId × Value → H) :
    ReturnsInHanded {} Tryz.checked os 3 .any (Rows.aggregateGroupsSpec.pre6 enc Tryz.prog Tryz.f3 Rows.aggregateGroupsRow.domain false) (Rows.aggregateGroupsSpec.post enc Tryz.prog Tryz.f3 false true false false) := by
  refine returnsInHanded_of_change (C := Tryz.checked) Tryz.own started (by kernel_rfl) Tryz.func3
    (ChangeSpec.witness6 (enc := enc) (C := Tryz.checked) false ⟨#[], #[.slice none 0 0, .slice none 0 0, .int .i64 0, .int .i64 0], []⟩ 8 (by kernel_rfl) (by kernel_rfl) (by kernel_rfl) (by kernel_rfl)) ?_
  intro W base args ds gs before hval0 hW hcnd _
  have hval : ∀ (j : Nat) t v, Tryz.f3.params[j]? = some t → args[j]? = some v → Value.okWide Tryz.prog W .any base t v := hval0
  have hW' := hW
  obtain ⟨p, q, hA0, hV, rfl, hfz, hnd⟩ := hW
  have hA : DataW.TrodAll enc Tryz.prog W 0 (fun _ => true) true Tryz.f3.params.toList args.toList ds p := hA0
  have hA1 := hA0
  rw [Tryz.params3] at hA hval
  obtain ⟨v0, v1, v2, v3, d0, d1, d2, d3, p0, p1, p2, p3, rfl, rfl, hp, h0, h1, h2, h3⟩ := trodAll_four hA
  obtain ⟨rfl, rfl⟩ := trodVars_none hV
  obtain ⟨l, g0, m0⟩ := open_facts (hval 0 22 v0 rfl rfl) h0
  obtain ⟨keys, g1⟩ := open_ints39 (hval 1 23 v1 rfl rfl) h1
  obtain ⟨function, rfl, rfl, rfl, g2⟩ := open_int Tryz.underlying3 (hval 2 3 v2 rfl rfl) h2
  obtain ⟨column, rfl, rfl, rfl, g3⟩ := open_int Tryz.underlying3 (hval 3 3 v3 rfl rfl) h3
  clear hA0 hval0
  have hlt : ∀ x ∈ p, x.block < W.heap.size := fun x hx => hW'.lt x (by simp [hx])
  refine (law39Groups_c v0 v1 l keys function column W g0 g1 m0).mono fun e W' ⟨he, hg⟩ => ?_
  subst he
  exact ⟨_, rfl, post_of_below (pa := p) (pv := []) hW' (fun _ _ _ => trodAll_mk1 (shut_bool Tryz.underlying4 _))
    (fun sp hsp => trodAll_keep Tryz.laidOut hg (by kernel_rfl) hA1 hlt (fun x hx => hsp x (by simp [hx])))
    (fun _ _ => rfl) rfl hg (ok_one (by kernel_rfl) rfl (okWide_bool_mk Tryz.underlying4 _))⟩

theorem law39Groups_holds : Rows.AggregateGroupsSaid :=
  OpenClaim.holds_of_wide 3 Tryz.f3 rfl rfl rfl rfl rfl rfl rfl ⟨rfl, rfl, rfl, rfl, rfl⟩ rfl rfl rfl rfl rfl (by kernel_rfl) Tryz.func3 (by kernel_rfl)
    (of_decide_eq_true (by kernel_rfl)) (by unfold Func.isWrapper; first | (rw [if_pos (by decide +kernel)]; kernel_rfl) | (rw [if_neg (by decide +kernel)]; exact ⟨rfl, rfl⟩))
    (fun os started H enc _ => law39Groups_lifted os started H enc)
#print axioms law39Groups_holds
end Go.Proofs.YtohjgegnamcnlaaGreat
