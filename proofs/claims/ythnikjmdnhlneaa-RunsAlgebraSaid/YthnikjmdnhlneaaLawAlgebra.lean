/- RunsAlgebra: the laws of a Boolean algebra: whatever the three lists and the span, the law answers true. No condition. -/
import Derived.Test.YthnikjmdnhlneaaAlgebraA
namespace Go.Proofs.Ythnikjmdnhlneaa
open Go.RowKit Go.ChangeShapes Go.WideShapes Go.ChangeAt

set_option maxRecDepth 100000 in
set_option maxHeartbeats 8000000 in
theorem lawAlgebra_c (v1 v2 v3 : Value) (a b c : List Sp) (i1 i2 : Int) (w : World) (h1 : IsSpans w v1 a) (h2 : IsSpans w v2 b) (h3 : IsSpans w v3 c) :
    Calls Try.prog 4 #[v1, v2, v3, .agg #[.int .i64 i1, .int .i64 i2]] w (Ret w (.bool true)) := by
  obtain ⟨A1, c1, rfl, hn1, hc1⟩ := h1.form
  obtain ⟨A2, c2, rfl, hn2, hc2⟩ := h2.form
  obtain ⟨A3, c3, rfl, hn3, hc3⟩ := h3.form
  have hal := Below.alloc (Below.refl w.heap.size w) (Nat.le_refl _) (.cells #[.int .i64 i1, .int .i64 i2] 27)
  have hI0 : InCell (w.alloc (.cells #[.int .i64 i1, .int .i64 i2] 27)) w.heap.size i1 i2 := ⟨by simp, by simp, by simp⟩
  have hz0 : (w.alloc (.cells #[.int .i64 i1, .int .i64 i2] 27)).heap.size = w.heap.size + 1 := by simp
  go_enter Try.func4, Try.ntmps4
  go_wp2_with fail
  have h1 := h1.below hal
  have h2 := h2.below hal
  have h3 := h3.below hal
  generalize w.alloc (.cells #[.int .i64 i1, .int .i64 i2] 27) = w0 at *
  refine (awake12_c _).mono ?_
  rintro e w1 ⟨rfl, hB⟩
  have hI := keepI' hI0 hB
  have hsz1 := hB.size
  have h1 := h1.below hB
  have h2 := h2.below hB
  have h3 := h3.below hB
  have hB1 := hal.trans (hB.mono hal.size)
  clear hB hal
  by_cases hsz : a.length ≤ 40 ∧ b.length ≤ 40 ∧ c.length ≤ 40
  · obtain ⟨z1, z2, z3⟩ := hsz
    have hmf : ∀ (fn : Fn) (first cap : Array Value) (w : World), (Instr.makeFunc fn first cap).run Try.prog w = .ok (.func fn first cap) w := fun _ _ _ _ => rfl
    obtain ⟨o3, ho3, hS3⟩ := alg_start (g := w.heap.size) (o := true) h1 h2 h3 hI (by omega)
    have E2 : Hid _ := ho3; clear ho3
    clear hI0 hI hz0 h1 h2 h3
    go_wp2_with fail
    refine (lawAlgebra1_s 21 ent_rUnion gUnion rUnion_c _ _ a b _ (hS3.A.get 2 rfl) (hS3.A.get 1 rfl) hS3).mono ?_
    rintro e w' ⟨u3, rfl, r3, o4, E3, hS4⟩
    clear hS3
    go_wp2_with fail
    refine (lawAlgebra1_s 21 ent_rUnion gUnion rUnion_c _ _ b a _ (hS4.A.get 2 rfl) (hS4.A.get 3 rfl) hS4).mono ?_
    rintro e w' ⟨u4, rfl, r4, o5, E4, hS5⟩
    clear hS4
    go_wp2_with fail
    refine (lawAlgebra1_s 22 ent_rMeet gMeet rMeet_c _ _ a b _ (hS5.A.get 4 rfl) (hS5.A.get 3 rfl) hS5).mono ?_
    rintro e w' ⟨u5, rfl, r5, o6, E5, hS6⟩
    clear hS5
    go_wp2_with fail
    refine (lawAlgebra1_s 22 ent_rMeet gMeet rMeet_c _ _ b a _ (hS6.A.get 4 rfl) (hS6.A.get 5 rfl) hS6).mono ?_
    rintro e w' ⟨u6, rfl, r6, o7, E6, hS7⟩
    clear hS6
    go_wp2_with fail
    refine (lawAlgebra1_s 21 ent_rUnion gUnion rUnion_c _ _ b c _ (hS7.A.get 5 rfl) (hS7.A.get 4 rfl) hS7).mono ?_
    rintro e w' ⟨u7, rfl, r7, o8, E7, hS8⟩
    clear hS7
    go_wp2_with fail
    refine (lawAlgebra1_s 22 ent_rMeet gMeet rMeet_c _ _ a r7.1 _ (hS8.A.get 7 rfl) (hS8.A.get 0 rfl) hS8).mono ?_
    rintro e w' ⟨u8, rfl, r8, o9, E8, hS9⟩
    clear hS8
    go_wp2_with fail
    refine (lawAlgebra1_s 22 ent_rMeet gMeet rMeet_c _ _ a c _ (hS9.A.get 8 rfl) (hS9.A.get 6 rfl) hS9).mono ?_
    rintro e w' ⟨u9, rfl, r9, o10, E9, hS10⟩
    clear hS9
    go_wp2_with fail
    refine (lawAlgebra1_s 21 ent_rUnion gUnion rUnion_c _ _ r5.1 r9.1 _ (hS10.A.get 4 rfl) (hS10.A.get 0 rfl) hS10).mono ?_
    rintro e w' ⟨u10, rfl, r10, o11, E10, hS11⟩
    clear hS10
    go_wp2_with fail
    refine (lawAlgebra1_s 21 ent_rUnion gUnion rUnion_c _ _ r3.1 c _ (hS11.A.get 7 rfl) (hS11.A.get 8 rfl) hS11).mono ?_
    rintro e w' ⟨u11, rfl, r11, o12, E11, hS12⟩
    clear hS11
    go_wp2_with fail
    refine (lawAlgebra1_s 21 ent_rUnion gUnion rUnion_c _ _ b c _ (hS12.A.get 10 rfl) (hS12.A.get 9 rfl) hS12).mono ?_
    rintro e w' ⟨u12, rfl, r12, o13, E12, hS13⟩
    clear hS12
    go_wp2_with fail
    refine (lawAlgebra1_s 21 ent_rUnion gUnion rUnion_c _ _ a r12.1 _ (hS13.A.get 12 rfl) (hS13.A.get 0 rfl) hS13).mono ?_
    rintro e w' ⟨u13, rfl, r13, o14, E13, hS14⟩
    clear hS13
    go_wp2_with fail
    refine (lawAlgebra1_s 22 ent_rMeet gMeet rMeet_c _ _ r5.1 c _ (hS14.A.get 8 rfl) (hS14.A.get 11 rfl) hS14).mono ?_
    rintro e w' ⟨u14, rfl, r14, o15, E14, hS15⟩
    clear hS14
    go_wp2_with fail
    refine (lawAlgebra1_s 22 ent_rMeet gMeet rMeet_c _ _ b c _ (hS15.A.get 13 rfl) (hS15.A.get 12 rfl) hS15).mono ?_
    rintro e w' ⟨u15, rfl, r15, o16, E15, hS16⟩
    clear hS15
    go_wp2_with fail
    refine (lawAlgebra1_s 22 ent_rMeet gMeet rMeet_c _ _ a r15.1 _ (hS16.A.get 15 rfl) (hS16.A.get 0 rfl) hS16).mono ?_
    rintro e w' ⟨u16, rfl, r16, o17, E16, hS17⟩
    clear hS16
    go_wp2_with fail
    refine (lawAlgebra1_s 24 ent_rEither gEither rEither_c _ _ a b _ (hS17.A.get 16 rfl) (hS17.A.get 15 rfl) hS17).mono ?_
    rintro e w' ⟨u17, rfl, r17, o18, E17, hS18⟩
    clear hS17
    go_wp2_with fail
    refine (lawAlgebra1_s 23 ent_rMinus gMinus rMinus_c _ _ a b _ (hS18.A.get 17 rfl) (hS18.A.get 16 rfl) hS18).mono ?_
    rintro e w' ⟨u18, rfl, r18, o19, E18, hS19⟩
    clear hS18
    go_wp2_with fail
    refine (lawAlgebra1_s 23 ent_rMinus gMinus rMinus_c _ _ b a _ (hS19.A.get 17 rfl) (hS19.A.get 18 rfl) hS19).mono ?_
    rintro e w' ⟨u19, rfl, r19, o20, E19, hS20⟩
    clear hS19
    go_wp2_with fail
    refine (lawAlgebra1_s 21 ent_rUnion gUnion rUnion_c _ _ r18.1 r19.1 _ (hS20.A.get 1 rfl) (hS20.A.get 0 rfl) hS20).mono ?_
    rintro e w' ⟨u20, rfl, r20, o21, E20, hS21⟩
    clear hS20
    go_wp2_with fail
    refine (lawAlgebra2_s _ r3.1 _ (hS21.A.get 17 rfl) hS21).mono ?_
    rintro e w' ⟨u21, rfl, r21, o22, E21, hS22⟩
    clear hS21
    go_wp2_with fail
    refine (lawAlgebra2_s _ a _ (hS22.A.get 21 rfl) hS22).mono ?_
    rintro e w' ⟨u22, rfl, r22, o23, E22, hS23⟩
    clear hS22
    go_wp2_with fail
    refine (lawAlgebra2_s _ b _ (hS23.A.get 21 rfl) hS23).mono ?_
    rintro e w' ⟨u23, rfl, r23, o24, E23, hS24⟩
    clear hS23
    go_wp2_with fail
    refine (lawAlgebra1_s 22 ent_rMeet gMeet rMeet_c _ _ r22.1 r23.1 _ (hS24.A.get 1 rfl) (hS24.A.get 0 rfl) hS24).mono ?_
    rintro e w' ⟨u24, rfl, r24, o25, E24, hS25⟩
    clear hS24
    have x0 := hS25.I.1
    have x1 := hS25.I.2.1
    go_wp2_with fail
    clear x0 x1
    have hS25 := hS25.alloc (.cells #[.int .i64 i1, .int .i64 i2] 27)
    refine (lawAlgebra1_s 22 ent_rMeet gMeet rMeet_c _ _ a [(i1, i2)] _ (hS25.A.get 24 rfl) (by exact spans_one i1 i2 _) hS25).mono ?_
    rintro e w' ⟨u25, rfl, r25, o26, E25, hS26⟩
    clear hS25
    go_wp2_with fail
    refine (lawAlgebra2_s _ r25.1 _ (hS26.A.get 0 rfl) hS26).mono ?_
    rintro e w' ⟨u26, rfl, r26, o27, E26, hS27⟩
    clear hS26
    go_wp2_with fail
    refine (lawAlgebra2_s _ r26.1 _ (hS27.A.get 0 rfl) hS27).mono ?_
    rintro e w' ⟨u27, rfl, r27, o28, E27, hS28⟩
    clear hS27
    have x0 := hS28.I.1
    have x1 := hS28.I.2.1
    go_wp2_with fail
    clear x0 x1
    have hS28 := hS28.alloc (.cells #[.int .i64 i1, .int .i64 i2] 27)
    refine (lawAlgebra1_s 22 ent_rMeet gMeet rMeet_c _ _ a [(i1, i2)] _ (hS28.A.get 27 rfl) (by exact spans_one i1 i2 _) hS28).mono ?_
    rintro e w' ⟨u28, rfl, r28, o29, E28, hS29⟩
    clear hS28
    have c0 := hS29.O.cell
    cases o29
    · go_wp2
      go_ret
      exact ⟨rfl, (hB1.alloc hB1.size _).trans (hS29.G.below hB1.size (by simp; have := hB1.size; omega))⟩
    · obtain ⟨Q0, Q1, Q2, Q3, Q4, Q5, Q6, Q7⟩ := algebra_law E3 E4 E5 E6 E7 E8 E9 E10 E11 E12 E13 E14 E15 E16 E17 E18 E19 E20 E21 E22 E23 E24 E25 E26 E27 E28
      clear E3 E4 E5 E6 E7 E8 E9 E10 E11 E12 E13 E14 E15 E16 E17 E18 E19 E20 E21 E22 E23 E24 E25 E26 E27 E28
      have hA := hS29.A
      have hG := hS29.G
      clear hS29
      have P0 := Lib.hid Q0
      clear Q0
      have P1 := Lib.hid Q1
      clear Q1
      have P2 := Lib.hid Q2
      clear Q2
      have P3 := Lib.hid Q3
      clear Q3
      have P4 := Lib.hid Q4
      clear Q4
      have P5 := Lib.hid Q5
      clear Q5
      have P6 := Lib.hid Q6
      clear Q6
      have P7 := Lib.hid Q7
      clear Q7
      go_wp2_with fail
      clear c0
      refine (rEqual_c _ _ r3.1 r4.1 _ (hA.get 25 rfl) (hA.get 24 rfl)).mono ?_
      rw [P0.out]
      rintro e w'' ⟨rfl, hb⟩
      have hA := hA.below hb
      have hG := hG.trans (Only.of_below hb)
      clear hb
      go_wp2_with fail
      refine (rEqual_c _ _ r5.1 r6.1 _ (hA.get 23 rfl) (hA.get 22 rfl)).mono ?_
      rw [P1.out]
      rintro e w'' ⟨rfl, hb⟩
      have hA := hA.below hb
      have hG := hG.trans (Only.of_below hb)
      clear hb
      go_wp2_with fail
      refine (rEqual_c _ _ r8.1 r10.1 _ (hA.get 20 rfl) (hA.get 18 rfl)).mono ?_
      rw [P2.out]
      rintro e w'' ⟨rfl, hb⟩
      have hA := hA.below hb
      have hG := hG.trans (Only.of_below hb)
      clear hb
      go_wp2_with fail
      refine (rEqual_c _ _ r11.1 r13.1 _ (hA.get 17 rfl) (hA.get 15 rfl)).mono ?_
      rw [P3.out]
      rintro e w'' ⟨rfl, hb⟩
      have hA := hA.below hb
      have hG := hG.trans (Only.of_below hb)
      clear hb
      go_wp2_with fail
      refine (rEqual_c _ _ r14.1 r16.1 _ (hA.get 14 rfl) (hA.get 12 rfl)).mono ?_
      rw [P4.out]
      rintro e w'' ⟨rfl, hb⟩
      have hA := hA.below hb
      have hG := hG.trans (Only.of_below hb)
      clear hb
      go_wp2_with fail
      refine (rEqual_c _ _ r17.1 r20.1 _ (hA.get 11 rfl) (hA.get 8 rfl)).mono ?_
      rw [P5.out]
      rintro e w'' ⟨rfl, hb⟩
      have hA := hA.below hb
      have hG := hG.trans (Only.of_below hb)
      clear hb
      go_wp2_with fail
      refine (rEqual_c _ _ r21.1 r24.1 _ (hA.get 7 rfl) (hA.get 4 rfl)).mono ?_
      rw [P6.out]
      rintro e w'' ⟨rfl, hb⟩
      have hA := hA.below hb
      have hG := hG.trans (Only.of_below hb)
      clear hb
      go_wp2_with fail
      refine (rEqual_c _ _ r27.1 r28.1 _ (hA.get 1 rfl) (hA.get 0 rfl)).mono ?_
      rw [P7.out]
      rintro e w'' ⟨rfl, hb⟩
      have hA := hA.below hb
      have hG := hG.trans (Only.of_below hb)
      clear hb
      go_wp2
      go_ret
      exact ⟨rfl, (hB1.alloc hB1.size _).trans (hG.below hB1.size (by simp; have := hB1.size; omega))⟩
  · go_wp2
    all_goals
      go_ret
      exact ⟨rfl, hB1⟩
end Go.Proofs.Ythnikjmdnhlneaa
