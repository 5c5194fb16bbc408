/- RunsInverse: Nth and Rank are inverse functions: whatever the list and the numbers, the law answers true. No condition. -/
import Derived.Test.YthnikjmdnhlneaaAwake
import Derived.Test.YthnikjmdnhlneaaGreat
import Derived.Test.YthnikjmdnhlneaaRunsV
import Derived.Test.YthnikjmdnhlneaaOpen
namespace Go.Proofs.Ythnikjmdnhlneaa
open Go.RowKit Go.ChangeShapes Go.WideShapes Go.ChangeAt

set_option maxRecDepth 100000 in
set_option maxHeartbeats 1600000 in
theorem lawInverse_c (v : Value) (l : List Sp) (x n : Int) (w : World) (h1 : IsSpans w v l) (hx0 : -9223372036854775808 ≤ x) (hx1 : x ≤ 9223372036854775807) (hn0 : -9223372036854775808 ≤ n) (hn1 : n ≤ 9223372036854775807) :
    Calls Try.prog 7 #[v, .int .i64 x, .int .i64 n] w (Ret w (.bool true)) := by
  obtain ⟨A, c, rfl, hnc, hc⟩ := h1.form
  have hla : l.length ≤ 9223372036854775807 := by omega
  cases hv : validB l
  · go_enter Try.func7, Try.ntmps7
    go_wp2_with fail
    refine (awake12_c _).mono ?_
    rintro e w1 ⟨rfl, hB⟩
    have h1 := h1.below hB
    go_wp2_with fail
    refine (great12_c _ [l.length] _ (by exact slices_one w1.heap.size rfl hla)).mono ?_
    rintro e w2 ⟨rfl, rfl⟩
    have hB := hB.alloc hB.size (.cells #[.slice A l.length c] 22)
    have h1 := h1.alloc (.cells #[.slice A l.length c] 22)
    cases hg : anyLong [l.length]
    · go_wp2_with fail
      refine (rValid_c _ l _ h1).mono ?_
      rintro e w3 ⟨rfl, hb⟩
      have hB := hB.trans (hb.mono hB.size)
      go_wp2
      go_ret
      exact ⟨rfl, hB⟩
    · go_wp2
      go_ret
      exact ⟨rfl, hB⟩
  · have hcn := ((validB_iff l).1 hv).2
    have hmb := meas_bound l hcn.1
    have hrb := rank_nonneg x l hcn.1
    have hll := validB_len hv
    have kN := rNth_c (.slice A l.length c) l n
    have kR2 := fun w' (h : IsSpans w' (.slice A l.length c) l) => rRank_c (.slice A l.length c) l x w' h
    have kN2 := rNth_c (.slice A l.length c) l (rankL x l)
    have kX := rNext_c (.slice A l.length c) l x
    have kH := fun w' (h : IsSpans w' (.slice A l.length c) l) => rHas_c (.slice A l.length c) l x w' h
    rw [if_pos hv] at kR2
    rw [hv, Bool.true_and] at kH
    have e1 : nthR l (rankL x l) = nthO (nextL x l) := by rw [nthR, if_neg (by rw [hv]; exact Bool.noConfusion), if_neg (by omega), nth_rank x hcn]
    have e2 : nextR l x = nextO (nextL x l) := by rw [nextR, if_neg (by rw [hv]; exact Bool.noConfusion)]
    rw [e1] at kN2
    rw [e2] at kX
    have hnx := fun z => next_spec (x := x) (z := z) hcn
    -- the first pair
    have hfirst : nthR l n = (0, 2) ∨ ∃ y, nthR l n = (y, 0) ∧ mem l y = true ∧ rankL y l = n := by
      by_cases h0 : n < 0
      · left; rw [nthR, if_neg (by rw [hv]; exact Bool.noConfusion), if_pos h0]
      · rw [nthR, if_neg (by rw [hv]; exact Bool.noConfusion), if_neg h0]
        cases hy : nthL l n with
        | none => exact .inl rfl
        | some y => exact .inr ⟨y, rfl, nth_mem hcn (by omega) hy⟩
    have hR0 : 0 ≤ rankL x l ∧ rankL x l ≤ 17592186044416000 := by omega
    generalize rankL x l = R at *
    have HN := Lib.hid kN; have HR2 := Lib.hid kR2; have HN2 := Lib.hid kN2; have HX := Lib.hid kX; have HH := Lib.hid kH; have HNX := Lib.hid hnx
    clear kN kR2 kN2 kX kH hnx e1 e2 hmb hrb
    rcases hfirst with hf | ⟨y, hf, hmy, hry⟩
    · rw [hf] at HN
      clear hf
      cases hz : nextL x l with
      | none =>
        rw [hz] at HN2 HX
        rw [show nthO none = (0, 2) from rfl] at HN2
        rw [show nextO none = (0, false) from rfl] at HX
        clear hz HNX
        cases hm : mem l x
        all_goals
          rw [hm] at HH
          clear hm
        all_goals
          go_enter Try.func7, Try.ntmps7
          go_wp2_with fail
          refine (awake12_c _).mono ?_
          rintro e w1 ⟨rfl, hB⟩
          have h1 := h1.below hB
          go_wp2_with fail
          refine (great12_c _ [l.length] _ (by exact slices_one w1.heap.size rfl hla)).mono ?_
          rintro e w2 ⟨rfl, rfl⟩
          have hB := hB.alloc hB.size (.cells #[.slice A l.length c] 22)
          have h1 := h1.alloc (.cells #[.slice A l.length c] 22)
          cases hg : anyLong [l.length]
        all_goals
          go_wp2_with (first
            | (go_at_call 14; refine (rValid_c _ l _ h1).mono ?_; rw [hv]; rintro e w' ⟨rfl, hb⟩; replace h1 := h1.below hb; replace hB := hB.trans (hb.mono hB.size); clear hb)
            | (go_at_call 29; first
                | ((with_reducible refine (HN.out _ hn0 hn1 h1).mono ?_); rintro e w' ⟨rfl, hb⟩; replace h1 := h1.below hb; replace hB := hB.trans (hb.mono hB.size); clear hb)
                | ((with_reducible refine (HN2.out _ (by omega) (by omega) h1).mono ?_); rintro e w' ⟨rfl, hb⟩; replace h1 := h1.below hb; replace hB := hB.trans (hb.mono hB.size); clear hb))
            | (go_at_call 28; first
                | ((with_reducible refine (HRy.out _ h1).mono ?_); rintro e w' ⟨rfl, hb⟩; replace h1 := h1.below hb; replace hB := hB.trans (hb.mono hB.size); clear hb)
                | ((with_reducible refine (HR2.out _ h1).mono ?_); rintro e w' ⟨rfl, hb⟩; replace h1 := h1.below hb; replace hB := hB.trans (hb.mono hB.size); clear hb))
            | (go_at_call 31; (with_reducible refine (HX.out _ h1).mono ?_); rintro e w' ⟨rfl, hb⟩; replace h1 := h1.below hb; replace hB := hB.trans (hb.mono hB.size); clear hb)
            | (go_at_call 32; first
                | ((with_reducible refine (HHy.out _ h1).mono ?_); rintro e w' ⟨rfl, hb⟩; replace h1 := h1.below hb; replace hB := hB.trans (hb.mono hB.size); clear hb)
                | ((with_reducible refine (HH.out _ h1).mono ?_); rintro e w' ⟨rfl, hb⟩; replace h1 := h1.below hb; replace hB := hB.trans (hb.mono hB.size); clear hb)))
        all_goals
          go_ret
          exact ⟨rfl, hB⟩
      | some z =>
        obtain ⟨hxz, hmz⟩ := HNX.out z hz
        rw [hz] at HN2 HX
        rw [show nthO (some z) = (z, 0) from rfl] at HN2
        rw [show nextO (some z) = (z, true) from rfl] at HX
        rw [hmz] at HH
        clear hz HNX hmz
        cases hzx : (z == x)
        all_goals
          rw [hzx] at HH
        all_goals
          go_enter Try.func7, Try.ntmps7
          go_wp2_with fail
          refine (awake12_c _).mono ?_
          rintro e w1 ⟨rfl, hB⟩
          have h1 := h1.below hB
          go_wp2_with fail
          refine (great12_c _ [l.length] _ (by exact slices_one w1.heap.size rfl hla)).mono ?_
          rintro e w2 ⟨rfl, rfl⟩
          have hB := hB.alloc hB.size (.cells #[.slice A l.length c] 22)
          have h1 := h1.alloc (.cells #[.slice A l.length c] 22)
          cases hg : anyLong [l.length]
        all_goals
          go_wp2_with (first
            | (go_at_call 14; refine (rValid_c _ l _ h1).mono ?_; rw [hv]; rintro e w' ⟨rfl, hb⟩; replace h1 := h1.below hb; replace hB := hB.trans (hb.mono hB.size); clear hb)
            | (go_at_call 29; first
                | ((with_reducible refine (HN.out _ hn0 hn1 h1).mono ?_); rintro e w' ⟨rfl, hb⟩; replace h1 := h1.below hb; replace hB := hB.trans (hb.mono hB.size); clear hb)
                | ((with_reducible refine (HN2.out _ (by omega) (by omega) h1).mono ?_); rintro e w' ⟨rfl, hb⟩; replace h1 := h1.below hb; replace hB := hB.trans (hb.mono hB.size); clear hb))
            | (go_at_call 28; first
                | ((with_reducible refine (HRy.out _ h1).mono ?_); rintro e w' ⟨rfl, hb⟩; replace h1 := h1.below hb; replace hB := hB.trans (hb.mono hB.size); clear hb)
                | ((with_reducible refine (HR2.out _ h1).mono ?_); rintro e w' ⟨rfl, hb⟩; replace h1 := h1.below hb; replace hB := hB.trans (hb.mono hB.size); clear hb))
            | (go_at_call 31; (with_reducible refine (HX.out _ h1).mono ?_); rintro e w' ⟨rfl, hb⟩; replace h1 := h1.below hb; replace hB := hB.trans (hb.mono hB.size); clear hb)
            | (go_at_call 32; first
                | ((with_reducible refine (HHy.out _ h1).mono ?_); rintro e w' ⟨rfl, hb⟩; replace h1 := h1.below hb; replace hB := hB.trans (hb.mono hB.size); clear hb)
                | ((with_reducible refine (HH.out _ h1).mono ?_); rintro e w' ⟨rfl, hb⟩; replace h1 := h1.below hb; replace hB := hB.trans (hb.mono hB.size); clear hb)))
        all_goals
          go_ret
          exact ⟨rfl, hB⟩
    · have kRy := fun w' (h : IsSpans w' (.slice A l.length c) l) => rRank_c (.slice A l.length c) l y w' h
      have kHy := fun w' (h : IsSpans w' (.slice A l.length c) l) => rHas_c (.slice A l.length c) l y w' h
      rw [if_pos hv, hry] at kRy
      rw [hv, Bool.true_and, hmy] at kHy
      rw [hf] at HN
      have HRy := Lib.hid kRy; have HHy := Lib.hid kHy
      clear hf kRy kHy hmy hry
      cases hz : nextL x l with
      | none =>
        rw [hz] at HN2 HX
        rw [show nthO none = (0, 2) from rfl] at HN2
        rw [show nextO none = (0, false) from rfl] at HX
        clear hz HNX
        cases hm : mem l x
        all_goals
          rw [hm] at HH
          clear hm
        all_goals
          go_enter Try.func7, Try.ntmps7
          go_wp2_with fail
          refine (awake12_c _).mono ?_
          rintro e w1 ⟨rfl, hB⟩
          have h1 := h1.below hB
          go_wp2_with fail
          refine (great12_c _ [l.length] _ (by exact slices_one w1.heap.size rfl hla)).mono ?_
          rintro e w2 ⟨rfl, rfl⟩
          have hB := hB.alloc hB.size (.cells #[.slice A l.length c] 22)
          have h1 := h1.alloc (.cells #[.slice A l.length c] 22)
          cases hg : anyLong [l.length]
        all_goals
          go_wp2_with (first
            | (go_at_call 14; refine (rValid_c _ l _ h1).mono ?_; rw [hv]; rintro e w' ⟨rfl, hb⟩; replace h1 := h1.below hb; replace hB := hB.trans (hb.mono hB.size); clear hb)
            | (go_at_call 29; first
                | ((with_reducible refine (HN.out _ hn0 hn1 h1).mono ?_); rintro e w' ⟨rfl, hb⟩; replace h1 := h1.below hb; replace hB := hB.trans (hb.mono hB.size); clear hb)
                | ((with_reducible refine (HN2.out _ (by omega) (by omega) h1).mono ?_); rintro e w' ⟨rfl, hb⟩; replace h1 := h1.below hb; replace hB := hB.trans (hb.mono hB.size); clear hb))
            | (go_at_call 28; first
                | ((with_reducible refine (HRy.out _ h1).mono ?_); rintro e w' ⟨rfl, hb⟩; replace h1 := h1.below hb; replace hB := hB.trans (hb.mono hB.size); clear hb)
                | ((with_reducible refine (HR2.out _ h1).mono ?_); rintro e w' ⟨rfl, hb⟩; replace h1 := h1.below hb; replace hB := hB.trans (hb.mono hB.size); clear hb))
            | (go_at_call 31; (with_reducible refine (HX.out _ h1).mono ?_); rintro e w' ⟨rfl, hb⟩; replace h1 := h1.below hb; replace hB := hB.trans (hb.mono hB.size); clear hb)
            | (go_at_call 32; first
                | ((with_reducible refine (HHy.out _ h1).mono ?_); rintro e w' ⟨rfl, hb⟩; replace h1 := h1.below hb; replace hB := hB.trans (hb.mono hB.size); clear hb)
                | ((with_reducible refine (HH.out _ h1).mono ?_); rintro e w' ⟨rfl, hb⟩; replace h1 := h1.below hb; replace hB := hB.trans (hb.mono hB.size); clear hb)))
        all_goals
          go_ret
          exact ⟨rfl, hB⟩
      | some z =>
        obtain ⟨hxz, hmz⟩ := HNX.out z hz
        rw [hz] at HN2 HX
        rw [show nthO (some z) = (z, 0) from rfl] at HN2
        rw [show nextO (some z) = (z, true) from rfl] at HX
        rw [hmz] at HH
        clear hz HNX hmz
        cases hzx : (z == x)
        all_goals
          rw [hzx] at HH
        all_goals
          go_enter Try.func7, Try.ntmps7
          go_wp2_with fail
          refine (awake12_c _).mono ?_
          rintro e w1 ⟨rfl, hB⟩
          have h1 := h1.below hB
          go_wp2_with fail
          refine (great12_c _ [l.length] _ (by exact slices_one w1.heap.size rfl hla)).mono ?_
          rintro e w2 ⟨rfl, rfl⟩
          have hB := hB.alloc hB.size (.cells #[.slice A l.length c] 22)
          have h1 := h1.alloc (.cells #[.slice A l.length c] 22)
          cases hg : anyLong [l.length]
        all_goals
          go_wp2_with (first
            | (go_at_call 14; refine (rValid_c _ l _ h1).mono ?_; rw [hv]; rintro e w' ⟨rfl, hb⟩; replace h1 := h1.below hb; replace hB := hB.trans (hb.mono hB.size); clear hb)
            | (go_at_call 29; first
                | ((with_reducible refine (HN.out _ hn0 hn1 h1).mono ?_); rintro e w' ⟨rfl, hb⟩; replace h1 := h1.below hb; replace hB := hB.trans (hb.mono hB.size); clear hb)
                | ((with_reducible refine (HN2.out _ (by omega) (by omega) h1).mono ?_); rintro e w' ⟨rfl, hb⟩; replace h1 := h1.below hb; replace hB := hB.trans (hb.mono hB.size); clear hb))
            | (go_at_call 28; first
                | ((with_reducible refine (HRy.out _ h1).mono ?_); rintro e w' ⟨rfl, hb⟩; replace h1 := h1.below hb; replace hB := hB.trans (hb.mono hB.size); clear hb)
                | ((with_reducible refine (HR2.out _ h1).mono ?_); rintro e w' ⟨rfl, hb⟩; replace h1 := h1.below hb; replace hB := hB.trans (hb.mono hB.size); clear hb))
            | (go_at_call 31; (with_reducible refine (HX.out _ h1).mono ?_); rintro e w' ⟨rfl, hb⟩; replace h1 := h1.below hb; replace hB := hB.trans (hb.mono hB.size); clear hb)
            | (go_at_call 32; first
                | ((with_reducible refine (HHy.out _ h1).mono ?_); rintro e w' ⟨rfl, hb⟩; replace h1 := h1.below hb; replace hB := hB.trans (hb.mono hB.size); clear hb)
                | ((with_reducible refine (HH.out _ h1).mono ?_); rintro e w' ⟨rfl, hb⟩; replace h1 := h1.below hb; replace hB := hB.trans (hb.mono hB.size); clear hb)))
        all_goals
          go_ret
          exact ⟨rfl, hB⟩

set_option maxRecDepth 100000 in
theorem lawInverse_lifted (os : Os) (started : os.Started) (H : Type) (enc : TypeId × Value → H) :
    ReturnsInHanded {} Try.checked os 7 .any (Rows.runsInverseSpec.pre6 enc Try.prog Try.f7 Rows.runsInverseRow.domain false) (Rows.runsInverseSpec.post enc Try.prog Try.f7 false true false false) := by
  refine returnsInHanded_of_change (C := Try.checked) Try.own started (by kernel_rfl) Try.func7
    (ChangeSpec.witness6 (enc := enc) (C := Try.checked) false ⟨#[], #[.slice none 0 0, .int .i64 0, .int .i64 0], []⟩ 8 (by kernel_rfl) (by kernel_rfl) (by kernel_rfl) (by kernel_rfl)) ?_
  intro W base args ds gs before hval0 hW hcnd _
  have hval : ∀ (j : Nat) t v, Try.f7.params[j]? = some t → args[j]? = some v → Value.okWide Try.prog W .any base t v := hval0
  have hW' := hW
  obtain ⟨p, q, hA0, hV, rfl, hfz, hnd⟩ := hW
  have hA : DataW.TrodAll enc Try.prog W 0 (fun _ => true) true Try.f7.params.toList args.toList ds p := hA0
  have hA1 := hA0
  rw [Try.params7] at hA hval
  obtain ⟨v0, v1, v2, d0, d1, d2, p0, p1, p2, rfl, rfl, hp, h0, h1, h2⟩ := trodAll_three hA
  obtain ⟨rfl, rfl⟩ := trodVars_none hV
  obtain ⟨a, g0, r0⟩ := open_spans (hval 0 22 v0 rfl rfl) h0
  obtain ⟨x, rfl, rfl, rfl, g1⟩ := open_int Try.underlying3 (hval 1 3 v1 rfl rfl) h1
  obtain ⟨n, rfl, rfl, rfl, g2⟩ := open_int Try.underlying3 (hval 2 3 v2 rfl rfl) h2
  clear hA0 hval0
  have hlt : ∀ x ∈ p, x.block < W.heap.size := fun x hx => hW'.lt x (by simp [hx])
  refine (lawInverse_c v0 a x n W g0 (wf64 g1).1 (wf64 g1).2 (wf64 g2).1 (wf64 g2).2).mono fun e W' ⟨he, hg⟩ => ?_
  subst he
  exact ⟨_, rfl, post_of_below (pa := p) (pv := []) hW' (fun _ _ _ => trodAll_mk1 (shut_bool Try.underlying4 _))
    (fun sp hsp => trodAll_keep Try.laidOut hg (by kernel_rfl) hA1 hlt (fun x hx => hsp x (by simp [hx])))
    (fun _ _ => rfl) rfl hg (ok_one (by kernel_rfl) rfl (okWide_bool_mk Try.underlying4 _))⟩

theorem lawInverse_holds : Rows.RunsInverseSaid :=
  OpenClaim.holds_of_wide 7 Try.f7 rfl rfl rfl rfl rfl rfl rfl ⟨rfl, rfl, rfl, rfl, rfl⟩ rfl rfl rfl rfl rfl (by kernel_rfl) Try.func7 (by kernel_rfl)
    (of_decide_eq_true (by kernel_rfl)) (by unfold Func.isWrapper; first | (rw [if_pos (by decide +kernel)]; kernel_rfl) | (rw [if_neg (by decide +kernel)]; exact ⟨rfl, rfl⟩))
    (fun os started H enc _ => lawInverse_lifted os started H enc)
#print axioms lawInverse_holds
end Go.Proofs.Ythnikjmdnhlneaa
