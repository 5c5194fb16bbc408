/- AggregateMost: Most and Top return the specified results, or the specified error. -/
import Derived.Test.YtohjgegnamcnlaaGreatRows
import Derived.Test.YtohjgegnamcnlaaGreatAhk
import Derived.Test.YtohjgegnamcnlaaGreatAhv
import Derived.Test.YtohjgegnamcnlaaGreatAiH
import Derived.Test.YtohjgegnamcnlaaGreatAjP
namespace Go.Proofs.YtohjgegnamcnlaaGreat
open Go.RowKit Go.Shelf Go.ChangeShapes Go.WideShapes Go.ChangeAt

theorem few_size {F : List Fct} (h : fewF F = true) : F.length ≤ 16 ∧ ∀ f ∈ F, ∀ x ∈ f.1, x.2.2.size ≤ 1000000000 := by
  unfold fewF at h
  simp only [Bool.and_eq_true, decide_eq_true_eq, Bool.not_eq_true', List.any_eq_false] at h
  refine ⟨h.1, fun f hf x hx => ?_⟩
  have h1 := h.2 f hf
  unfold bigF at h1
  rw [Bool.or_eq_true, not_or] at h1
  have h2 := h1.2
  rw [List.any_eq_true] at h2
  have h3 : ¬ bigS x = true := fun e => h2 ⟨x, hx, e⟩
  unfold bigS at h3
  rw [decide_eq_true_eq] at h3
  omega
theorem most_eq {F : List Fct} {n k : Nat} {L M : List Sp} (h : if validF F = true then MostSpec F n L else n = 0 ∧ L = []) (g : if validF F = true then MostSpec F k M else k = 0 ∧ M = []) : n = k ∧ L = M := by
  cases hv : validF F
  · rw [if_neg (by rw [hv]; decide)] at h g
    rw [h.1, h.2, g.1, g.2]
    exact ⟨rfl, rfl⟩
  · rw [if_pos hv] at h g
    exact h.unique g
theorem top_eq {F : List Fct} {col c d : Int} {v u : Value} {w1 w2 : World} (h : TopSpec F col c v w1) (g : RTopSpec F col d u w2) : c = d ∧ ∃ B, IsFs w1 v B ∧ IsFs w2 u B := by
  unfold TopSpec at h
  unfold RTopSpec at g
  by_cases q : validF F = true ∧ hasB F col = true
  · rw [if_pos q] at h g
    obtain ⟨B, h1, _, h2⟩ := h
    obtain ⟨B', g1, g2⟩ := g
    obtain rfl := norm_unique h1 g1
    rcases h2 with ⟨a1, a2, a3⟩ | ⟨a1, a2, a3⟩ <;> rcases g2 with ⟨b1, b2, b3⟩ | ⟨b1, b2, b3⟩
    · subst a3 b3
      exact ⟨by omega, [], IsFs.nil, IsFs.nil⟩
    · omega
    · omega
    · exact ⟨by omega, B, a3, b3⟩
  · rw [if_neg q] at h g
    obtain ⟨rfl, rfl⟩ := h
    obtain ⟨rfl, rfl⟩ := g
    exact ⟨rfl, [], IsFs.nil, IsFs.nil⟩
set_option maxRecDepth 100000 in
set_option maxHeartbeats 4000000 in
theorem law39Most_c (v : Value) (F : List Fct) (col : Int) (W : World) (hs : IsFs W v F) (hm : MachF F) : Calls Tryz.prog 7 #[v, .int .i64 col] W (Ret W (.bool true)) := by
  have KF : Hid (∀ X, Below W.heap.size W X → Calls Tryz.prog 9 #[v] X (Ret X (.bool (fewF F)))) := Lib.hid fun X h => few39_c v F X (hs.below h)
  have KM : Hid (fewF F = true → ∀ X, Below W.heap.size W X → Calls Tryz.prog 19 #[v] X (MostRet F X)) := Lib.hid fun hn X h => aMost_c v F X (hs.below h) hm (by have := (few_size hn).1; omega)
  have KM2 : Hid (fewF F = true → ∀ X, Below W.heap.size W X → Calls Tryz.prog 22 #[v] X (MostRet F X)) := Lib.hid fun hn X h => r39Most_c v F X (hs.below h) (by have := (few_size hn).1; omega)
  have KT : Hid (fewF F = true → ∀ X, Below W.heap.size W X → Calls Tryz.prog 23 #[v, .int .i64 col] X (TopRet F col X)) := Lib.hid fun hn X h => aTop_c v F col X (hs.below h) hm (by have := (few_size hn).1; omega)
  have KT2 : Hid (fewF F = true → ∀ X, Below W.heap.size W X → Calls Tryz.prog 24 #[v, .int .i64 col] X (RTopRet F col X)) := Lib.hid fun hn X h => r39Top_c v F col X (hs.below h) (few_size hn).1 fun _ => (few_size hn).2
  obtain ⟨S, hs⟩ := hs
  obtain ⟨A, cc, rfl, hnc, hcc⟩ := hs.form
  have KA := Lib.hid (awake39_c W)
  clear hm
  go_enter Tryz.func7, Tryz.ntmps7
  go_wp2_with fail
  refine KA.out.mono ?_
  rintro e W1 ⟨rfl, hb1⟩
  go_wp2_with fail
  refine (KF.out W1 hb1).mono ?_
  rintro e W2 ⟨rfl, hb2⟩
  have hw2 := hb1.trans (hb2.mono hb1.size)
  clear hb1 hb2
  cases q1 : fewF F
  · go_wp2_with fail
    go_ret
    exact ⟨rfl, hw2⟩
  have Q1 := Lib.hid q1
  clear q1
  go_wp2_with fail
  refine (KM.out Q1.out W2 hw2).mono ?_
  rintro e W3 ⟨v3, n, L, rfl, hL, hb3, hms⟩
  have hw3 := hw2.trans (hb3.mono hw2.size)
  have Hms := Lib.hid hms
  obtain ⟨A3, c3, rfl, _, _⟩ := RowsIn.form hL
  have HL := Lib.hid hL
  clear hw2 hb3 hms hL
  go_wp2_with fail
  refine (KM2.out Q1.out W3 hw3).mono ?_
  rintro e W4 ⟨v4, k, M, rfl, hM, hb4, hms⟩
  obtain ⟨rfl, rfl⟩ := most_eq Hms.out hms
  have hw4 := hw3.trans (hb4.mono hw3.size)
  have hL4 := RowsIn.below HL.out hb4
  obtain ⟨A4, c4, rfl, _, _⟩ := RowsIn.form hM
  have HL4 := Lib.hid hL4; have HM4 := Lib.hid hM
  clear hw3 hb4 hms hM hL4
  go_wp2_with fail
  refine (KT.out Q1.out W4 hw4).mono ?_
  rintro e W5 ⟨v5, c5, rfl, hb5, ht5⟩
  have hw5 := hw4.trans (hb5.mono hw4.size)
  have HL5 := Lib.hid (RowsIn.below HL4.out hb5); have HM5 := Lib.hid (RowsIn.below HM4.out hb5); have HT5 := Lib.hid ht5
  clear hw4 hb5 ht5
  go_wp2_with fail
  refine (KT2.out Q1.out W5 hw5).mono ?_
  rintro e W6 ⟨v6, c6, rfl, hb6, ht6⟩
  obtain ⟨rfl, B, hB5, hB6⟩ := top_eq HT5.out ht6
  have hw6 := hw5.trans (hb6.mono hw5.size)
  have hL6 := RowsIn.below HL5.out hb6
  have hM6 := RowsIn.below HM5.out hb6
  have hB5 := hB5.below hb6
  have KE := Lib.hid (slEqualSpan_c (.slice A3 L.length c3) (.slice A4 L.length c4) L L W6 hL6 hM6)
  have hsl : sameL L L = true := (sameL_iff _ _).2 rfl
  rw [hsl] at KE
  have KS : Hid (∀ X, Below W6.heap.size W6 X → Calls Tryz.prog 12 #[v5, v6] X (Ret X (.bool true))) := Lib.hid fun X h => by
    have := r39Same_c v5 v6 B B X (hB5.below h) (hB6.below h)
    rw [show sameF B B = true from decide_eq_true rfl] at this
    exact this
  obtain ⟨S5, hB5⟩ := hB5
  obtain ⟨S6, hB6⟩ := hB6
  obtain ⟨A5, c5', rfl, _, _⟩ := hB5.form
  obtain ⟨A6, c6', rfl, _, _⟩ := hB6.form
  have Hw6 := Lib.hid hw6
  clear hsl hw5 hb6 ht6 hL6 hM6 hB5 hB6 hw6
  go_wp2_with fail
  refine KE.out.mono ?_
  rintro e W7 ⟨rfl, hb7⟩
  go_wp2_with fail
  refine (KS.out W7 hb7).mono ?_
  rintro e W8 ⟨rfl, hb8⟩
  have Hw8 := Lib.hid (Hw6.out.trans ((hb7.trans (hb8.mono hb7.size)).mono Hw6.out.size))
  clear hb7 hb8
  go_wp2_with fail
  go_ret
  exact ⟨rfl, Hw8.out⟩

set_option maxRecDepth 100000 in
theorem law39Most_lifted (os : Os) (started : os.Started) (H : Type) (enc : TypeId × Value → H) :
    ReturnsInHanded {} Tryz.checked os 7 .any (Rows.aggregateMostSpec.pre6 enc Tryz.prog Tryz.f7 Rows.aggregateMostRow.domain false) (Rows.aggregateMostSpec.post enc Tryz.prog Tryz.f7 false true false false) := by
  refine returnsInHanded_of_change (C := Tryz.checked) Tryz.own started (by kernel_rfl) Tryz.func7
    (ChangeSpec.witness6 (enc := enc) (C := Tryz.checked) false ⟨#[], #[.slice none 0 0, .int .i64 0], []⟩ 8 (by kernel_rfl) (by kernel_rfl) (by kernel_rfl) (by kernel_rfl)) ?_
  intro W base args ds gs before hval0 hW hcnd _
  have hval : ∀ (j : Nat) t v, Tryz.f7.params[j]? = some t → args[j]? = some v → Value.okWide Tryz.prog W .any base t v := hval0
  have hW' := hW
  obtain ⟨p, q, hA0, hV, rfl, hfz, hnd⟩ := hW
  have hA : DataW.TrodAll enc Tryz.prog W 0 (fun _ => true) true Tryz.f7.params.toList args.toList ds p := hA0
  have hA1 := hA0
  rw [Tryz.params7] at hA hval
  obtain ⟨v0, v1, d0, d1, p0, p1, rfl, rfl, hp, h0, h1⟩ := trodAll_two hA
  obtain ⟨rfl, rfl⟩ := trodVars_none hV
  obtain ⟨l, g0, m0⟩ := open_facts (hval 0 22 v0 rfl rfl) h0
  obtain ⟨column, rfl, rfl, rfl, g1⟩ := open_int Tryz.underlying3 (hval 1 3 v1 rfl rfl) h1
  clear hA0 hval0
  have hlt : ∀ x ∈ p, x.block < W.heap.size := fun x hx => hW'.lt x (by simp [hx])
  refine (law39Most_c v0 l column W g0 m0).mono fun e W' ⟨he, hg⟩ => ?_
  subst he
  exact ⟨_, rfl, post_of_below (pa := p) (pv := []) hW' (fun _ _ _ => trodAll_mk1 (shut_bool Tryz.underlying4 _))
    (fun sp hsp => trodAll_keep Tryz.laidOut hg (by kernel_rfl) hA1 hlt (fun x hx => hsp x (by simp [hx])))
    (fun _ _ => rfl) rfl hg (ok_one (by kernel_rfl) rfl (okWide_bool_mk Tryz.underlying4 _))⟩

theorem law39Most_holds : Rows.AggregateMostSaid :=
  OpenClaim.holds_of_wide 7 Tryz.f7 rfl rfl rfl rfl rfl rfl rfl ⟨rfl, rfl, rfl, rfl, rfl⟩ rfl rfl rfl rfl rfl (by kernel_rfl) Tryz.func7 (by kernel_rfl)
    (of_decide_eq_true (by kernel_rfl)) (by unfold Func.isWrapper; first | (rw [if_pos (by decide +kernel)]; kernel_rfl) | (rw [if_neg (by decide +kernel)]; exact ⟨rfl, rfl⟩))
    (fun os started H enc _ => law39Most_lifted os started H enc)
#print axioms law39Most_holds
end Go.Proofs.YtohjgegnamcnlaaGreat
