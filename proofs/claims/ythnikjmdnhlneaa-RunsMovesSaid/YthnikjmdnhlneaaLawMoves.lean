/- RunsMoves: whatever the two lists and the two numbers, the law answers true. No condition. -/
import Derived.Test.YthnikjmdnhlneaaAwake
import Derived.Test.YthnikjmdnhlneaaGreat
import Derived.Test.YthnikjmdnhlneaaRunsE
import Derived.Test.YthnikjmdnhlneaaRunsM
import Derived.Test.YthnikjmdnhlneaaOpen
namespace Go.Proofs.Ythnikjmdnhlneaa
open Go.RowKit Go.ChangeShapes Go.WideShapes Go.ChangeAt

theorem union_moved {a b u : List Sp} {n : Int} {r : List Sp × Int} (hva : validB (shiftL n a) = true) (hvb : validB (shiftL n b) = true) (hu : IsOp gUnion (shiftL n a) (shiftL n b) (shiftL n u)) (hl : u.length ≤ 2000) (h : OpSpec gUnion (shiftL n a) (shiftL n b) r) : r = (shiftL n u, 0) := by
  rcases op_cases h hva hvb with ⟨l, rfl, h1, _⟩ | ⟨_, l, h1, h2, _⟩
  · rw [isOp_unique h1 hu]
  · rw [isOp_unique h1 hu, shift_len] at h2
    omega
/-- What the second half of the law meets. -/
theorem moves_last {a b : List Sp} {n : Int} {r : List Sp × Int} (hr : OpSpec gUnion a b r) (hva : validB a = true) (hvb : validB b = true) (h1 : -8796093022208 ≤ n) (h2 : n ≤ 8796093022208) (oa : (shiftL n a).all okSpan = true) (ob : (shiftL n b).all okSpan = true) :
    r.2 ≠ 0 ∨ ∃ u, r = (u, 0) ∧ moveR u n = (shiftL n u, 0) ∧ validB (shiftL n u) = true ∧ ∀ s, OpSpec gUnion (shiftL n a) (shiftL n b) s → s = (shiftL n u, 0) := by
  rcases op_cases hr hva hvb with ⟨u, rfl, h3, hvu⟩ | ⟨rfl, _⟩
  · obtain ⟨h4, h5⟩ := shift_op rfl h3 oa ob
    exact .inr ⟨u, rfl, move_ok hvu h1 h2 h4, shift_valid hvu h4, fun s hs => union_moved (shift_valid hva oa) (shift_valid hvb ob) h5 (validB_len hvu) hs⟩
  · exact .inl (by simp)

set_option maxRecDepth 100000 in
set_option maxHeartbeats 4000000 in
theorem lawMoves_c (v1 v2 : Value) (a b : List Sp) (n x : Int) (w : World) (h1 : IsSpans w v1 a) (h2 : IsSpans w v2 b) (hn0 : -9223372036854775808 ≤ n) (hn1 : n ≤ 9223372036854775807) (hx0 : -9223372036854775808 ≤ x) (hx1 : x ≤ 9223372036854775807) :
    Calls Try.prog 10 #[v1, v2, .int .i64 n, .int .i64 x] w (Ret w (.bool true)) := by
  obtain ⟨A, c, rfl, hnc, hc⟩ := h1.form
  obtain ⟨B, d, rfl, hnd, hd⟩ := h2.form
  have hla : a.length ≤ 9223372036854775807 := by omega
  have hlb : b.length ≤ 9223372036854775807 := by omega
  have kM := fun w' (h : IsSpans w' (.slice A a.length c) a) => rMove_c (.slice A a.length c) a n w' hn0 hn1 h
  have kR := fun w' (h : IsSpans w' (.slice A a.length c) a) => r12Move_c (.slice A a.length c) a n w' hn0 hn1 h
  rcases move_cases a n with ⟨f, hm, hf⟩ | ⟨hm, hva, hm0, hm1, hok⟩
  · rw [hm] at kM kR
    have HM := Lib.hid kM; have HR := Lib.hid kR
    clear kM kR hm
    have hf0 : f ≠ 0 := by omega
    clear hf
    go_enter Try.func10, Try.ntmps10
    go_wp2_with fail
    refine (awake12_c _).mono ?_
    rintro e w1 ⟨rfl, hB⟩
    replace h1 := h1.below hB
    replace h2 := h2.below hB
    go_wp2_with fail
    refine (great12_c _ [a.length, b.length] _ (by exact slices_two w1.heap.size rfl hla hlb)).mono ?_
    rintro e w2 ⟨rfl, rfl⟩
    replace hB := hB.alloc hB.size (.cells #[.slice A a.length c, .slice B b.length d] 22)
    replace h1 := h1.alloc (.cells #[.slice A a.length c, .slice B b.length d] 22)
    replace h2 := h2.alloc (.cells #[.slice A a.length c, .slice B b.length d] 22)
    generalize w1.alloc (.cells #[.slice A a.length c, .slice B b.length d] 22) = w2 at *
    cases hg : anyLong [a.length, b.length]
    · go_wp2_with (first
        | (go_at_call 41; (with_reducible refine (HM.out _ h1).mono ?_); rintro e w' ⟨v3, rfl, h3, hb⟩; replace h1 := h1.below hb; replace h2 := h2.below hb; replace hB := hB.trans (hb.mono hB.size); clear hb)
        | (go_at_call 42; (with_reducible refine (HR.out _ h1).mono ?_); rintro e w' ⟨v4, rfl, h4, hb⟩; replace h3 := h3.below hb; replace h1 := h1.below hb; replace h2 := h2.below hb; replace hB := hB.trans (hb.mono hB.size); clear hb)
        | (go_at_call 17; refine (r12Same_c _ _ [] [] _ h3 h4).mono ?_; rintro e w' ⟨rfl, hb⟩; replace h1 := h1.below hb; replace h2 := h2.below hb; replace hB := hB.trans (hb.mono hB.size); clear hb)
        | fail)
      go_ret
      exact ⟨rfl, hB⟩
    · go_wp2
      go_ret
      exact ⟨rfl, hB⟩
  · have hvm := shift_valid hva hok
    have kB := fun v3 w' (h : IsSpans w' v3 (shiftL n a)) => rMove_c v3 (shiftL n a) (-n) w' (by omega) (by omega) h
    have kS := fun v3 v4 w' (h : IsSpans w' v3 (shiftL n a)) (h' : IsSpans w' v4 (shiftL n a)) => r12Same_c v3 v4 (shiftL n a) (shiftL n a) w' h h'
    have kE := fun v5 w' (h : IsSpans w' v5 a) (h' : IsSpans w' (.slice A a.length c) a) => rEqual_c v5 (.slice A a.length c) a a w' h h'
    have kQ := fun w' (h : IsSpans w' (.slice A a.length c) a) => rMeasure_c (.slice A a.length c) a w' h
    have kQ2 := fun v3 w' (h : IsSpans w' v3 (shiftL n a)) => rMeasure_c v3 (shiftL n a) w' h
    have kH := fun w' (h : IsSpans w' (.slice A a.length c) a) => rHas_c (.slice A a.length c) a x w' h
    have kH2 := fun v3 w' (h : IsSpans w' v3 (shiftL n a)) => rHas_c v3 (shiftL n a) (x + n) w' h
    have ku := fun w' (h : IsSpans w' (.slice A a.length c) a) (h' : IsSpans w' (.slice B b.length d) b) => rUnion_c (.slice A a.length c) (.slice B b.length d) a b w' h h'
    have kv := fun w' (h : IsSpans w' (.slice B b.length d) b) => rMove_c (.slice B b.length d) b n w' hn0 hn1 h
    rw [hm] at kM kR
    rw [move_back hva hm0 hm1 hok] at kB
    rw [(sameL_iff _ _).2 rfl] at kS
    rw [(sameL_iff _ _).2 rfl, hva] at kE
    rw [if_pos hva] at kQ
    rw [if_pos hvm, shift_meas] at kQ2
    rw [hva, Bool.true_and] at kH
    rw [hvm, Bool.true_and, shift_mem, show x + n - n = x from by omega] at kH2
    generalize measL a = Q at kQ kQ2
    cases hmx : mem a x
    all_goals
      rw [hmx] at kH kH2
      clear hmx
      have HM := Lib.hid kM; have HR := Lib.hid kR; have HB := Lib.hid kB; have HS := Lib.hid kS; have HE := Lib.hid kE; have HQ := Lib.hid kQ; have HQ2 := Lib.hid kQ2; have HH := Lib.hid kH; have HH2 := Lib.hid kH2; have Hu := Lib.hid ku; have Hv := Lib.hid kv
      clear kM kR kB kS kE kQ kQ2 kH kH2 ku kv
      rcases (show x < -4398046511104 ∨ 4398046511104 < x ∨ (-4398046511104 ≤ x ∧ x ≤ 4398046511104) by omega) with hx | hx | hx
    all_goals
      go_enter Try.func10, Try.ntmps10
      go_wp2_with fail
      refine (awake12_c _).mono ?_
      rintro e w1 ⟨rfl, hB⟩
      replace h1 := h1.below hB
      replace h2 := h2.below hB
      go_wp2_with fail
      refine (great12_c _ [a.length, b.length] _ (by exact slices_two w1.heap.size rfl hla hlb)).mono ?_
      rintro e w2 ⟨rfl, rfl⟩
      replace hB := hB.alloc hB.size (.cells #[.slice A a.length c, .slice B b.length d] 22)
      replace h1 := h1.alloc (.cells #[.slice A a.length c, .slice B b.length d] 22)
      replace h2 := h2.alloc (.cells #[.slice A a.length c, .slice B b.length d] 22)
      generalize w1.alloc (.cells #[.slice A a.length c, .slice B b.length d] 22) = w2 at *
      cases hg : anyLong [a.length, b.length]
    all_goals
      go_wp2_with (first
        | (go_at_call 41; first
            | ((with_reducible refine (HM.out _ h1).mono ?_); rintro e w' ⟨v3, rfl, h3, hb⟩; replace h1 := h1.below hb; replace h2 := h2.below hb; replace hB := hB.trans (hb.mono hB.size); clear hb)
            | ((with_reducible refine (HB.out _ _ h3).mono ?_); rintro e w' ⟨v5, rfl, h5, hb⟩; replace h3 := h3.below hb; replace h1 := h1.below hb; replace h2 := h2.below hb; replace hB := hB.trans (hb.mono hB.size); clear hb))
        | (go_at_call 42; (with_reducible refine (HR.out _ h1).mono ?_); rintro e w' ⟨v4, rfl, h4, hb⟩; replace h3 := h3.below hb; replace h1 := h1.below hb; replace h2 := h2.below hb; replace hB := hB.trans (hb.mono hB.size); clear hb)
        | (go_at_call 17; (with_reducible refine (HS.out _ _ _ h3 h4).mono ?_); rintro e w' ⟨rfl, hb⟩; replace h3 := h3.below hb; replace h1 := h1.below hb; replace h2 := h2.below hb; replace hB := hB.trans (hb.mono hB.size); clear hb h4)
        | (go_at_call 16; (with_reducible refine (HE.out _ _ h5 h1).mono ?_); rintro e w' ⟨rfl, hb⟩; replace h3 := h3.below hb; replace h1 := h1.below hb; replace h2 := h2.below hb; replace hB := hB.trans (hb.mono hB.size); clear hb h5)
        | (go_at_call 26; first
            | ((with_reducible refine (HQ.out _ h1).mono ?_); rintro e w' ⟨rfl, hb⟩; replace h3 := h3.below hb; replace h1 := h1.below hb; replace h2 := h2.below hb; replace hB := hB.trans (hb.mono hB.size); clear hb)
            | ((with_reducible refine (HQ2.out _ _ h3).mono ?_); rintro e w' ⟨rfl, hb⟩; replace h3 := h3.below hb; replace h1 := h1.below hb; replace h2 := h2.below hb; replace hB := hB.trans (hb.mono hB.size); clear hb))
        | (go_at_call 32; first
            | ((with_reducible refine (HH.out _ h1).mono ?_); rintro e w' ⟨rfl, hb⟩; replace h3 := h3.below hb; replace h1 := h1.below hb; replace h2 := h2.below hb; replace hB := hB.trans (hb.mono hB.size); clear hb)
            | ((with_reducible refine (HH2.out _ _ h3).mono ?_); rintro e w' ⟨rfl, hb⟩; replace h3 := h3.below hb; replace h1 := h1.below hb; replace h2 := h2.below hb; replace hB := hB.trans (hb.mono hB.size); clear hb))
        | fail)
    all_goals first
      | (go_ret
         exact ⟨rfl, hB⟩)
      | skip
    all_goals
      refine (Hu.out _ h1 h2).mono ?_
      rintro e w' ⟨r, hr, v6, rfl, h6, hb⟩
      replace h3 := h3.below hb
      replace h1 := h1.below hb
      replace h2 := h2.below hb
      replace hB := hB.trans (hb.mono hB.size)
      clear hb
      go_wp2_with fail
      refine (Hv.out _ h2).mono ?_
      rcases move_cases b n with ⟨f, hmb, hf⟩ | ⟨hmb, hvb, _, _, okb⟩
      · rw [hmb]
        clear hmb
        rintro e w' ⟨v7, rfl, h7, hb⟩
        replace h3 := h3.below hb
        replace h6 := h6.below hb
        replace h1 := h1.below hb
        replace h2 := h2.below hb
        replace hB := hB.trans (hb.mono hB.size)
        clear hb
        obtain ⟨rl, re⟩ := r
        have hf1 : (f == 0) = false := by rcases hf with rfl | rfl <;> rfl
        have hf2 : (f != 0) = true := by rw [bne, hf1]; rfl
        clear hf hr h6 h7
        cases hre : (re == 0)
        · have hre2 : (re != 0) = true := by rw [bne, hre]; rfl
          go_wp2
          go_ret
          exact ⟨rfl, hB⟩
        · have hre2 : (re != 0) = false := by rw [bne, hre]; rfl
          go_wp2
          go_ret
          exact ⟨rfl, hB⟩
      · rw [hmb]
        clear hmb
        rintro e w' ⟨v7, rfl, h7, hb⟩
        replace h3 := h3.below hb
        replace h6 := h6.below hb
        replace h1 := h1.below hb
        replace h2 := h2.below hb
        replace hB := hB.trans (hb.mono hB.size)
        clear hb
        obtain ⟨rl, re⟩ := r
        rcases moves_last hr hva hvb hm0 hm1 hok okb with hne | ⟨u, hru, hmu, hvs, huniq⟩
        · have hre : (re == 0) = false := by simpa using hne
          have hre2 : (re != 0) = true := by rw [bne, hre]; rfl
          clear hne hr h6 h7
          go_wp2
          go_ret
          exact ⟨rfl, hB⟩
        · injection hru with hr1 hr2
          subst hr1 hr2
          have kU := fun w' (h : IsSpans w' v6 rl) => rMove_c v6 rl n w' hn0 hn1 h
          have kF := fun v9 v8 w' (h : IsSpans w' v9 (shiftL n rl)) (h' : IsSpans w' v8 (shiftL n rl)) => rEqual_c v9 v8 (shiftL n rl) (shiftL n rl) w' h h'
          rw [hmu] at kU
          rw [(sameL_iff _ _).2 rfl, hvs] at kF
          have HU := Lib.hid kU; have HF := Lib.hid kF; have HQ3 := Lib.hid huniq
          clear kU kF huniq hmu hvs hr
          go_wp2_with (first
            | (go_at_call 41; (with_reducible refine (HU.out _ h6).mono ?_); rintro e w' ⟨v9, rfl, h9, hb⟩; replace h3 := h3.below hb; replace h7 := h7.below hb; replace h1 := h1.below hb; replace h2 := h2.below hb; replace hB := hB.trans (hb.mono hB.size); clear hb)
            | (go_at_call 21; refine (rUnion_c v3 v7 _ _ _ h3 h7).mono ?_; rintro e w' ⟨s, hs, v8, rfl, h8, hb⟩; obtain rfl := HQ3.out s hs; clear hs; replace h9 := h9.below hb; replace h1 := h1.below hb; replace h2 := h2.below hb; replace hB := hB.trans (hb.mono hB.size); clear hb)
            | (go_at_call 16; (with_reducible refine (HF.out _ _ _ h9 h8).mono ?_); rintro e w' ⟨rfl, hb⟩; replace h1 := h1.below hb; replace h2 := h2.below hb; replace hB := hB.trans (hb.mono hB.size); clear hb)
            | fail)
          go_ret
          exact ⟨rfl, hB⟩

set_option maxRecDepth 100000 in
theorem lawMoves_lifted (os : Os) (started : os.Started) (H : Type) (enc : TypeId × Value → H) :
    ReturnsInHanded {} Try.checked os 10 .any (Rows.runsMovesSpec.pre6 enc Try.prog Try.f10 Rows.runsMovesRow.domain false) (Rows.runsMovesSpec.post enc Try.prog Try.f10 false true false false) := by
  refine returnsInHanded_of_change (C := Try.checked) Try.own started (by kernel_rfl) Try.func10
    (ChangeSpec.witness6 (enc := enc) (C := Try.checked) false ⟨#[], #[.slice none 0 0, .slice none 0 0, .int .i64 0, .int .i64 0], []⟩ 8 (by kernel_rfl) (by kernel_rfl) (by kernel_rfl) (by kernel_rfl)) ?_
  intro W base args ds gs before hval0 hW hcnd _
  have hval : ∀ (j : Nat) t v, Try.f10.params[j]? = some t → args[j]? = some v → Value.okWide Try.prog W .any base t v := hval0
  have hW' := hW
  obtain ⟨p, q, hA0, hV, rfl, hfz, hnd⟩ := hW
  have hA : DataW.TrodAll enc Try.prog W 0 (fun _ => true) true Try.f10.params.toList args.toList ds p := hA0
  have hA1 := hA0
  rw [Try.params10] at hA hval
  obtain ⟨v0, v1, v2, v3, d0, d1, d2, d3, p0, p1, p2, p3, rfl, rfl, hp, h0, h1, h2, h3⟩ := trodAll_four hA
  obtain ⟨rfl, rfl⟩ := trodVars_none hV
  obtain ⟨a, g0, r0⟩ := open_spans (hval 0 22 v0 rfl rfl) h0
  obtain ⟨b, g1, r1⟩ := open_spans (hval 1 22 v1 rfl rfl) h1
  obtain ⟨n, rfl, rfl, rfl, g2⟩ := open_int Try.underlying3 (hval 2 3 v2 rfl rfl) h2
  obtain ⟨x, rfl, rfl, rfl, g3⟩ := open_int Try.underlying3 (hval 3 3 v3 rfl rfl) h3
  clear hA0 hval0
  have hlt : ∀ x ∈ p, x.block < W.heap.size := fun x hx => hW'.lt x (by simp [hx])
  refine (lawMoves_c v0 v1 a b n x W g0 g1 (wf64 g2).1 (wf64 g2).2 (wf64 g3).1 (wf64 g3).2).mono fun e W' ⟨he, hg⟩ => ?_
  subst he
  exact ⟨_, rfl, post_of_below (pa := p) (pv := []) hW' (fun _ _ _ => trodAll_mk1 (shut_bool Try.underlying4 _))
    (fun sp hsp => trodAll_keep Try.laidOut hg (by kernel_rfl) hA1 hlt (fun x hx => hsp x (by simp [hx])))
    (fun _ _ => rfl) rfl hg (ok_one (by kernel_rfl) rfl (okWide_bool_mk Try.underlying4 _))⟩

theorem lawMoves_holds : Rows.RunsMovesSaid :=
  OpenClaim.holds_of_wide 10 Try.f10 rfl rfl rfl rfl rfl rfl rfl ⟨rfl, rfl, rfl, rfl, rfl⟩ rfl rfl rfl rfl rfl (by kernel_rfl) Try.func10 (by kernel_rfl)
    (of_decide_eq_true (by kernel_rfl)) (by unfold Func.isWrapper; first | (rw [if_pos (by decide +kernel)]; kernel_rfl) | (rw [if_neg (by decide +kernel)]; exact ⟨rfl, rfl⟩))
    (fun os started H enc _ => lawMoves_lifted os started H enc)
#print axioms lawMoves_holds
end Go.Proofs.Ythnikjmdnhlneaa
