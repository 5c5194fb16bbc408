/- RunsFull: lists with many spans are accepted up to the limit, and refused above it; whatever the two sizes and the place. No condition. -/
import Derived.Test.YthnikjmdnhlneaaAwake
import Derived.Test.YthnikjmdnhlneaaFullP
import Derived.Test.YthnikjmdnhlneaaRunsR
import Derived.Test.YthnikjmdnhlneaaRunsZ
import Derived.Test.YthnikjmdnhlneaaOpen
namespace Go.Proofs.Ythnikjmdnhlneaa
open Go.RowKit Go.ChangeShapes Go.WideShapes Go.ChangeAt

set_option maxRecDepth 100000 in
set_option maxHeartbeats 3200000 in
theorem lawFull_c (m m' n : Int) (w : World) (hm0 : 0 ≤ m) (hm1 : m ≤ 65535) (hm2 : 0 ≤ m') (hm3 : m' ≤ 65535) (hn0 : -9223372036854775808 ≤ n) (hn1 : n ≤ 9223372036854775807) :
    Calls Try.prog 12 #[.int .u16 m, .int .u16 m', .int .i64 n] w (Ret w (.bool true)) := by
  obtain ⟨p, hp, hpe⟩ : ∃ p : Nat, p < 1100 ∧ m % 1100 = (p : Int) := ⟨(m % 1100).toNat, by omega, by omega⟩
  obtain ⟨q, hq, hqe⟩ : ∃ q : Nat, q < 1100 ∧ m' % 1100 = (q : Int) := ⟨(m' % 1100).toNat, by omega, by omega⟩
  by_cases hn : -2199023255552 ≤ n ∧ n ≤ 2199023255552
  · obtain ⟨hn2, hn3⟩ := hn
    clear hn0 hn1
    go_enter Try.func12, Try.ntmps12
    go_wp2_with fail
    refine (awake12_c _).mono ?_
    rintro e w1 ⟨rfl, hB⟩
    go_wp2_with fail
    go_loopw [9, 32] (fun v i wr => ∃ k : Nat, i = .int .i64 k ∧ k ≤ p ∧ wr.ownsRow w1.heap.size 27 2 v (combA n k).length (flat (combA n k)) ∧ Below w1.heap.size w1 wr) (fun _ i _ => p - (intOf i).toNat)
    case atStart => exact ⟨0, rfl, Nat.zero_le _, own_nil _ _ _ _, Below.refl _ _⟩
    case round =>
      obtain ⟨k, rfl, hk, hown, hbw⟩ := hrel
      by_cases hlt : k < p
      · have hlen : (combA n k).length < 1000000000 := by rw [combA_len]; omega
        have Hs := Lib.hid (combA_snoc n k)
        go_wp2_with (at_builtin; refine append_span tSpans tSpanInfo (by rfl) (.tmp 35) (.tmp 46) (by rfl) w1.heap.size _ (combA n k) _ _ (by rfl) hown (by rfl) hlen hbw.size ?_; intro v2 w2 hown2 hb2; rw [Hs.out] at hown2)
        go_roundw
        case rel => exact ⟨k + 1, by go_num, by omega, hown2, hbw.trans hb2⟩
        case measure => simp [intOf]; omega
      · obtain rfl : p = k := by omega
        have hA := spans_of_own hown
        obtain ⟨A, ca, rfl, hca, hca2⟩ := hA.form
        have hB := hB.trans (hbw.mono hB.size)
        have nA : A = none → (combA n p).length = 0 := fun h => by
          rcases Nat.eq_zero_or_pos (combA n p).length with h3 | h3
          · exact h3
          · obtain ⟨b', off, h4, _⟩ := hA.addr h3; rw [h] at h4; cases h4
        have HnA := Lib.hid nA; clear nA
        clear hown hbw
        obtain ⟨wo, rfl⟩ : ∃ wo : World, wo = wr := ⟨_, rfl⟩
        go_wp2_with fail
        go_loopw [10, 50] (fun v i w3 => ∃ k : Nat, i = .int .i64 k ∧ k ≤ q ∧ w3.ownsRow wo.heap.size 27 2 v (combB n k).length (flat (combB n k)) ∧ Below wo.heap.size wo w3) (fun _ i _ => q - (intOf i).toNat)
        case atStart => exact ⟨0, rfl, Nat.zero_le _, own_nil _ _ _ _, Below.refl _ _⟩
        case round =>
          obtain ⟨k, rfl, hk, hown, hbw⟩ := hrel
          by_cases hlt : k < q
          · have hlen : (combB n k).length < 1000000000 := by rw [combB_len]; omega
            have Hs := Lib.hid (combB_snoc n k)
            go_wp2_with (at_builtin; refine append_span tSpans tSpanInfo (by rfl) (.tmp 53) (.tmp 65) (by rfl) wo.heap.size _ (combB n k) _ _ (by rfl) hown (by rfl) hlen hbw.size ?_; intro v2 w2 hown2 hb2; rw [Hs.out] at hown2)
            go_roundw
            case rel => exact ⟨k + 1, by go_num, by omega, hown2, hbw.trans hb2⟩
            case measure => simp [intOf]; omega
          · obtain rfl : q = k := by omega
            have hb := spans_of_own hown
            obtain ⟨B, cb, rfl, hcb, hcb2⟩ := hb.form
            have hA := hA.below hbw
            have hB := hB.trans (hbw.mono hB.size)
            clear hown hbw
            have hla : (combA n p).length ≤ 1100 := by rw [combA_len]; omega
            have hlb : (combB n q).length ≤ 1100 := by rw [combB_len]; omega
            go_wp2_with fail
            refine (rUnion_c _ _ (combA n p) (combB n q) _ hA hb).mono ?_
            rintro e w5 ⟨r, hr, vu, rfl, hvu, hb5⟩
            have hA := hA.below hb5
            have hb := hb.below hb5
            have hB := hB.trans (hb5.mono hB.size)
            have Hr := Lib.hid (full_union hn2 hn3 (by omega) (by omega) hr)
            clear hr hb5
            go_wp2_with fail
            refine (slCloneSpan_c _ (combB n q) w5 w5.heap.size hb (Nat.le_refl _) (by omega)).mono ?_
            rintro e w6 ⟨v6, rfl, hown6, hb6⟩
            have hA := hA.below hb6
            go_wp2_with (at_builtin; refine append_rows tSpans tSpanInfo rfl (by omega) (by omega) rfl (.tmp 76) (.tmp 77) rfl w5.heap.size _ _ _ rfl hown6 _ (combA n p).length _ rfl (flat (combA n p)) (flat_length _) HnA.out (fun ad had => flat_cells hA ad had) (flat_one _) (by omega) hb6.size ?_; intro v7 w7 hown7 hb7)
            have hcat : w7.ownsRow w5.heap.size 27 2 v7 (combB n q ++ combA n p).length (flat (combB n q ++ combA n p)) := own_cat (by simpa using hown7) (by simp)
            have hb7 := hb6.trans hb7
            have hvu := hvu.below hb7
            have hB := hB.trans (hb7.mono hB.size)
            refine (rOf_c v7 (combB n q ++ combA n p) w7 (spans_of_own hcat) (by simp; omega)).mono ?_
            rintro e w8 ⟨r', hr', vl, rfl, hvl, hb8⟩
            have hvu := hvu.below hb8
            have hB := hB.trans (hb8.mono hB.size)
            have Hr' := Lib.hid (full_of hn2 hn3 (by omega) (by omega) hr')
            clear hr' hb8 hb7 hb6 hcat hown7 hown6 hA hb
            obtain ⟨M, hM⟩ : ∃ M, M = mixL n p q := ⟨_, rfl⟩
            have hml := mix_len n p q
            have hmm := mix_meas n p q
            have hmc := mix_canon (p := p) (q := q) hn2 hn3 (by omega) (by omega)
            have hr := Hr.out
            have hr' := Hr'.out
            rw [← hM] at hml hmm hmc hr hr'
            clear Hr Hr' hM
            by_cases hf : p + q ≤ 2000
            · rw [opR, if_pos (by omega)] at hr hr'
              subst hr hr'
              have hv : validB M = true := (validB_iff M).2 ⟨by omega, hmc⟩
              obtain ⟨U, cu, rfl, hcu, hcu2⟩ := hvu.form
              obtain ⟨V, cv, rfl, hcv, hcv2⟩ := hvl.form
              have ht : ((M.length : Int) == (p : Int) + (q : Int)) = true := by rw [hml]; simp
              have kE := fun w' (h : IsSpans w' (.slice U M.length cu) M) (h' : IsSpans w' (.slice V M.length cv) M) => rEqual_c (.slice U M.length cu) (.slice V M.length cv) M M w' h h'
              have kM := fun w' (h : IsSpans w' (.slice U M.length cu) M) => rMeasure_c (.slice U M.length cu) M w' h
              rw [hv, (sameL_iff M M).2 rfl] at kE
              rw [if_pos hv, hmm] at kM
              have HE := Lib.hid kE; have HM := Lib.hid kM
              have hfi : (p : Int) + (q : Int) ≤ 2000 := by omega
              clear kE kM hml hmm hmc hv
              go_wp2_with (first
                | (go_at_call 16; (with_reducible refine (HE.out _ hvu hvl).mono ?_); rintro e w' ⟨rfl, hb⟩; replace hvu := hvu.below hb; replace hB := hB.trans (hb.mono hB.size); clear hb)
                | (go_at_call 26; (with_reducible refine (HM.out _ hvu).mono ?_); rintro e w' ⟨rfl, hb⟩; replace hB := hB.trans (hb.mono hB.size); clear hb))
              go_ret
              exact ⟨rfl, hB⟩
            · rw [opR, if_neg (by omega)] at hr hr'
              subst hr hr'
              obtain ⟨U, cu, rfl, hcu, hcu2⟩ := hvu.form
              obtain ⟨V, cv, rfl, hcv, hcv2⟩ := hvl.form
              have hfi : 2000 < (p : Int) + (q : Int) := by omega
              clear hml hmm hmc
              go_wp2
              go_ret
              exact ⟨rfl, hB⟩
  · go_enter Try.func12, Try.ntmps12
    have hn' : n < -2199023255552 ∨ 2199023255552 < n := by omega
    go_wp2_with fail
    refine (awake12_c _).mono ?_
    rintro e w1 ⟨rfl, hB⟩
    rcases hn' with hn' | hn'
    all_goals
      go_wp2
      go_ret
      exact ⟨rfl, hB⟩
theorem wfu16 {x : Int} (h : (Lit.int .u16 x).wf = true) : 0 ≤ x ∧ x ≤ 65535 := by
  simp [Lit.wf, IntKind.min, IntKind.max, IntKind.signed, IntKind.bits] at h
  omega

set_option maxRecDepth 100000 in
theorem lawFull_lifted (os : Os) (started : os.Started) (H : Type) (enc : TypeId × Value → H) :
    ReturnsInHanded {} Try.checked os 12 .any (Rows.runsFullSpec.pre6 enc Try.prog Try.f12 Rows.runsFullRow.domain false) (Rows.runsFullSpec.post enc Try.prog Try.f12 false true false false) := by
  refine returnsInHanded_of_change (C := Try.checked) Try.own started (by kernel_rfl) Try.func12
    (ChangeSpec.witness6 (enc := enc) (C := Try.checked) false ⟨#[], #[.int .u16 0, .int .u16 0, .int .i64 0], []⟩ 8 (by kernel_rfl) (by kernel_rfl) (by kernel_rfl) (by kernel_rfl)) ?_
  intro W base args ds gs before hval0 hW hcnd _
  have hval : ∀ (j : Nat) t v, Try.f12.params[j]? = some t → args[j]? = some v → Value.okWide Try.prog W .any base t v := hval0
  have hW' := hW
  obtain ⟨p, q, hA0, hV, rfl, hfz, hnd⟩ := hW
  have hA : DataW.TrodAll enc Try.prog W 0 (fun _ => true) true Try.f12.params.toList args.toList ds p := hA0
  have hA1 := hA0
  rw [Try.params12] at hA hval
  obtain ⟨v0, v1, v2, d0, d1, d2, p0, p1, p2, rfl, rfl, hp, h0, h1, h2⟩ := trodAll_three hA
  obtain ⟨rfl, rfl⟩ := trodVars_none hV
  obtain ⟨m, rfl, rfl, rfl, g0⟩ := open_int Try.underlying59 (hval 0 59 v0 rfl rfl) h0
  obtain ⟨k, rfl, rfl, rfl, g1⟩ := open_int Try.underlying59 (hval 1 59 v1 rfl rfl) h1
  obtain ⟨n, rfl, rfl, rfl, g2⟩ := open_int Try.underlying3 (hval 2 3 v2 rfl rfl) h2
  clear hA0 hval0
  have hlt : ∀ x ∈ p, x.block < W.heap.size := fun x hx => hW'.lt x (by simp [hx])
  refine (lawFull_c m k n W (wfu16 g0).1 (wfu16 g0).2 (wfu16 g1).1 (wfu16 g1).2 (wf64 g2).1 (wf64 g2).2).mono fun e W' ⟨he, hg⟩ => ?_
  subst he
  exact ⟨_, rfl, post_of_below (pa := p) (pv := []) hW' (fun _ _ _ => trodAll_mk1 (shut_bool Try.underlying4 _))
    (fun sp hsp => trodAll_keep Try.laidOut hg (by kernel_rfl) hA1 hlt (fun x hx => hsp x (by simp [hx])))
    (fun _ _ => rfl) rfl hg (ok_one (by kernel_rfl) rfl (okWide_bool_mk Try.underlying4 _))⟩

theorem lawFull_holds : Rows.RunsFullSaid :=
  OpenClaim.holds_of_wide 12 Try.f12 rfl rfl rfl rfl rfl rfl rfl ⟨rfl, rfl, rfl, rfl, rfl⟩ rfl rfl rfl rfl rfl (by kernel_rfl) Try.func12 (by kernel_rfl)
    (of_decide_eq_true (by kernel_rfl)) (by unfold Func.isWrapper; first | (rw [if_pos (by decide +kernel)]; kernel_rfl) | (rw [if_neg (by decide +kernel)]; exact ⟨rfl, rfl⟩))
    (fun os started H enc _ => lawFull_lifted os started H enc)
#print axioms lawFull_holds
end Go.Proofs.Ythnikjmdnhlneaa
