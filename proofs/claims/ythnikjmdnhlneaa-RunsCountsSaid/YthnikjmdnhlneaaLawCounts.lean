/- RunsCounts: Has, Measure, Rank, Nth and Next answer as the reference says, whatever the list and the numbers. No condition. -/
import Derived.Test.YthnikjmdnhlneaaAwake
import Derived.Test.YthnikjmdnhlneaaGreat
import Derived.Test.YthnikjmdnhlneaaRunsN
import Derived.Test.YthnikjmdnhlneaaOpen
namespace Go.Proofs.Ythnikjmdnhlneaa
open Go.RowKit Go.ChangeShapes Go.WideShapes Go.ChangeAt

set_option maxRecDepth 100000 in
set_option maxHeartbeats 1600000 in
theorem lawCounts_c (v : Value) (l : List Sp) (x n : Int) (w : World) (h1 : IsSpans w v l) (_hx0 : -9223372036854775808 ≤ x) (_hx1 : x ≤ 9223372036854775807) (hn0 : -9223372036854775808 ≤ n) (hn1 : n ≤ 9223372036854775807) :
    Calls Try.prog 6 #[v, .int .i64 x, .int .i64 n] w (Ret w (.bool true)) := by
  obtain ⟨A, c, rfl, hnc, hc⟩ := h1.form
  have hla : l.length ≤ 9223372036854775807 := by omega
  have kN := fun w' (h : IsSpans w' (.slice A l.length c) l) => rNth_c (.slice A l.length c) l n w' hn0 hn1 h
  have kN2 := fun w' (h : IsSpans w' (.slice A l.length c) l) => r12Nth_c (.slice A l.length c) l n w' hn0 hn1 h
  have kX := fun w' (h : IsSpans w' (.slice A l.length c) l) => rNext_c (.slice A l.length c) l x w' h
  have kH := fun w' (h : IsSpans w' (.slice A l.length c) l) => rHas_c (.slice A l.length c) l x w' h
  have kM := fun w' (h : IsSpans w' (.slice A l.length c) l) => rMeasure_c (.slice A l.length c) l w' h
  have kR := fun w' (h : IsSpans w' (.slice A l.length c) l) => rRank_c (.slice A l.length c) l x w' h
  obtain ⟨⟨y, f⟩, hy⟩ : ∃ p, nthR l n = p := ⟨_, rfl⟩
  rw [hy] at kN kN2
  clear hy
  cases hv : validB l
  · have e2 : nextR l x = (0, false) := by rw [nextR, if_pos hv]
    rw [e2] at kX
    rw [if_neg (by rw [hv]; exact Bool.noConfusion)] at kM kR
    rw [hv, Bool.false_and] at kH
    have HN := Lib.hid kN; have HN2 := Lib.hid kN2; have HX := Lib.hid kX; have HH := Lib.hid kH; have HM := Lib.hid kM; have HR := Lib.hid kR
    clear kN kN2 kX kH kM kR e2
    go_enter Try.func6, Try.ntmps6
    go_wp2_with fail
    refine (awake12_c _).mono ?_
    rintro e w1 ⟨rfl, hB⟩
    have h1 := h1.below hB
    go_wp2_with fail
    refine (great12_c _ [l.length] _ (by exact slices_one w1.heap.size rfl hla)).mono ?_
    rintro e w2 ⟨rfl, rfl⟩
    have hB := hB.alloc hB.size (.cells #[.slice A l.length c] 22)
    have h1 := h1.alloc (.cells #[.slice A l.length c] 22)
    cases hg : anyLong [l.length]
    all_goals
      go_wp2_with (first
        | (go_at_call 15; refine (r12Valid_c _ l _ h1).mono ?_; rw [hv]; rintro e w' ⟨rfl, hb⟩; replace h1 := h1.below hb; replace hB := hB.trans (hb.mono hB.size); clear hb)
        | (go_at_call 29; (with_reducible refine (HN.out _ h1).mono ?_); rintro e w' ⟨rfl, hb⟩; replace h1 := h1.below hb; replace hB := hB.trans (hb.mono hB.size); clear hb)
        | (go_at_call 30; (with_reducible refine (HN2.out _ h1).mono ?_); rintro e w' ⟨rfl, hb⟩; replace h1 := h1.below hb; replace hB := hB.trans (hb.mono hB.size); clear hb)
        | (go_at_call 31; (with_reducible refine (HX.out _ h1).mono ?_); rintro e w' ⟨rfl, hb⟩; replace h1 := h1.below hb; replace hB := hB.trans (hb.mono hB.size); clear hb)
        | (go_at_call 26; (with_reducible refine (HM.out _ h1).mono ?_); rintro e w' ⟨rfl, hb⟩; replace h1 := h1.below hb; replace hB := hB.trans (hb.mono hB.size); clear hb)
        | (go_at_call 28; (with_reducible refine (HR.out _ h1).mono ?_); rintro e w' ⟨rfl, hb⟩; replace h1 := h1.below hb; replace hB := hB.trans (hb.mono hB.size); clear hb)
        | (go_at_call 32; (with_reducible refine (HH.out _ h1).mono ?_); rintro e w' ⟨rfl, hb⟩; replace h1 := h1.below hb; replace hB := hB.trans (hb.mono hB.size); clear hb))
    all_goals
      go_ret
      exact ⟨rfl, hB⟩
  · have e2 : nextR l x = nextO (nextL x l) := by rw [nextR, if_neg (by rw [hv]; exact Bool.noConfusion)]
    have kX2 := fun w' (h : IsSpans w' (.slice A l.length c) l) => r12Next_c (.slice A l.length c) l x w' h
    have kM2 := fun w' (h : IsSpans w' (.slice A l.length c) l) => r12Measure_c (.slice A l.length c) l w' h hv
    have kR2 := fun w' (h : IsSpans w' (.slice A l.length c) l) => r12Rank_c (.slice A l.length c) l x w' h hv
    have kI := fun w' (h : IsSpans w' (.slice A l.length c) l) => r12In_c (.slice A l.length c) l x w' h
    rw [e2] at kX
    rw [if_pos hv] at kM kR
    rw [hv, Bool.true_and] at kH
    obtain ⟨⟨z, b⟩, hz⟩ : ∃ p, nextO (nextL x l) = p := ⟨_, rfl⟩
    rw [hz] at kX kX2
    clear hz e2
    generalize measL l = M at kM kM2
    generalize rankL x l = R at kR kR2
    have HN := Lib.hid kN; have HN2 := Lib.hid kN2; have HX := Lib.hid kX; have HH := Lib.hid kH; have HM := Lib.hid kM; have HR := Lib.hid kR
    have HX2 := Lib.hid kX2; have HM2 := Lib.hid kM2; have HR2 := Lib.hid kR2; have HI := Lib.hid kI
    clear kN kN2 kX kH kM kR kX2 kM2 kR2 kI
    cases hmm : mem l x
    all_goals
      rw [hmm] at HH HI
      clear hmm
      cases b
    all_goals
      go_enter Try.func6, Try.ntmps6
      go_wp2_with fail
      refine (awake12_c _).mono ?_
      rintro e w1 ⟨rfl, hB⟩
      have h1 := h1.below hB
      go_wp2_with fail
      refine (great12_c _ [l.length] _ (by exact slices_one w1.heap.size rfl hla)).mono ?_
      rintro e w2 ⟨rfl, rfl⟩
      have hB := hB.alloc hB.size (.cells #[.slice A l.length c] 22)
      have h1 := h1.alloc (.cells #[.slice A l.length c] 22)
      cases hg : anyLong [l.length]
    all_goals
      go_wp2_with (first
        | (go_at_call 15; refine (r12Valid_c _ l _ h1).mono ?_; rw [hv]; rintro e w' ⟨rfl, hb⟩; replace h1 := h1.below hb; replace hB := hB.trans (hb.mono hB.size); clear hb)
        | (go_at_call 29; (with_reducible refine (HN.out _ h1).mono ?_); rintro e w' ⟨rfl, hb⟩; replace h1 := h1.below hb; replace hB := hB.trans (hb.mono hB.size); clear hb)
        | (go_at_call 30; (with_reducible refine (HN2.out _ h1).mono ?_); rintro e w' ⟨rfl, hb⟩; replace h1 := h1.below hb; replace hB := hB.trans (hb.mono hB.size); clear hb)
        | (go_at_call 31; (with_reducible refine (HX.out _ h1).mono ?_); rintro e w' ⟨rfl, hb⟩; replace h1 := h1.below hb; replace hB := hB.trans (hb.mono hB.size); clear hb)
        | (go_at_call 33; (with_reducible refine (HX2.out _ h1).mono ?_); rintro e w' ⟨rfl, rfl⟩)
        | (go_at_call 34; (with_reducible refine (HI.out _ h1).mono ?_); rintro e w' ⟨rfl, rfl⟩)
        | (go_at_call 26; (with_reducible refine (HM.out _ h1).mono ?_); rintro e w' ⟨rfl, hb⟩; replace h1 := h1.below hb; replace hB := hB.trans (hb.mono hB.size); clear hb)
        | (go_at_call 35; (with_reducible refine (HM2.out _ h1).mono ?_); rintro e w' ⟨rfl, hb⟩; replace h1 := h1.below hb; replace hB := hB.trans (hb.mono hB.size); clear hb)
        | (go_at_call 28; (with_reducible refine (HR.out _ h1).mono ?_); rintro e w' ⟨rfl, hb⟩; replace h1 := h1.below hb; replace hB := hB.trans (hb.mono hB.size); clear hb)
        | (go_at_call 36; (with_reducible refine (HR2.out _ h1).mono ?_); rintro e w' ⟨rfl, hb⟩; replace h1 := h1.below hb; replace hB := hB.trans (hb.mono hB.size); clear hb)
        | (go_at_call 32; (with_reducible refine (HH.out _ h1).mono ?_); rintro e w' ⟨rfl, hb⟩; replace h1 := h1.below hb; replace hB := hB.trans (hb.mono hB.size); clear hb))
    all_goals
      go_ret
      exact ⟨rfl, hB⟩

set_option maxRecDepth 100000 in
theorem lawCounts_lifted (os : Os) (started : os.Started) (H : Type) (enc : TypeId × Value → H) :
    ReturnsInHanded {} Try.checked os 6 .any (Rows.runsCountsSpec.pre6 enc Try.prog Try.f6 Rows.runsCountsRow.domain false) (Rows.runsCountsSpec.post enc Try.prog Try.f6 false true false false) := by
  refine returnsInHanded_of_change (C := Try.checked) Try.own started (by kernel_rfl) Try.func6
    (ChangeSpec.witness6 (enc := enc) (C := Try.checked) false ⟨#[], #[.slice none 0 0, .int .i64 0, .int .i64 0], []⟩ 8 (by kernel_rfl) (by kernel_rfl) (by kernel_rfl) (by kernel_rfl)) ?_
  intro W base args ds gs before hval0 hW hcnd _
  have hval : ∀ (j : Nat) t v, Try.f6.params[j]? = some t → args[j]? = some v → Value.okWide Try.prog W .any base t v := hval0
  have hW' := hW
  obtain ⟨p, q, hA0, hV, rfl, hfz, hnd⟩ := hW
  have hA : DataW.TrodAll enc Try.prog W 0 (fun _ => true) true Try.f6.params.toList args.toList ds p := hA0
  have hA1 := hA0
  rw [Try.params6] at hA hval
  obtain ⟨v0, v1, v2, d0, d1, d2, p0, p1, p2, rfl, rfl, hp, h0, h1, h2⟩ := trodAll_three hA
  obtain ⟨rfl, rfl⟩ := trodVars_none hV
  obtain ⟨a, g0, r0⟩ := open_spans (hval 0 22 v0 rfl rfl) h0
  obtain ⟨x, rfl, rfl, rfl, g1⟩ := open_int Try.underlying3 (hval 1 3 v1 rfl rfl) h1
  obtain ⟨n, rfl, rfl, rfl, g2⟩ := open_int Try.underlying3 (hval 2 3 v2 rfl rfl) h2
  clear hA0 hval0
  have hlt : ∀ x ∈ p, x.block < W.heap.size := fun x hx => hW'.lt x (by simp [hx])
  refine (lawCounts_c v0 a x n W g0 (wf64 g1).1 (wf64 g1).2 (wf64 g2).1 (wf64 g2).2).mono fun e W' ⟨he, hg⟩ => ?_
  subst he
  exact ⟨_, rfl, post_of_below (pa := p) (pv := []) hW' (fun _ _ _ => trodAll_mk1 (shut_bool Try.underlying4 _))
    (fun sp hsp => trodAll_keep Try.laidOut hg (by kernel_rfl) hA1 hlt (fun x hx => hsp x (by simp [hx])))
    (fun _ _ => rfl) rfl hg (ok_one (by kernel_rfl) rfl (okWide_bool_mk Try.underlying4 _))⟩

theorem lawCounts_holds : Rows.RunsCountsSaid :=
  OpenClaim.holds_of_wide 6 Try.f6 rfl rfl rfl rfl rfl rfl rfl ⟨rfl, rfl, rfl, rfl, rfl⟩ rfl rfl rfl rfl rfl (by kernel_rfl) Try.func6 (by kernel_rfl)
    (of_decide_eq_true (by kernel_rfl)) (by unfold Func.isWrapper; first | (rw [if_pos (by decide +kernel)]; kernel_rfl) | (rw [if_neg (by decide +kernel)]; exact ⟨rfl, rfl⟩))
    (fun os started H enc _ => lawCounts_lifted os started H enc)
#print axioms lawCounts_holds
end Go.Proofs.Ythnikjmdnhlneaa
