/- RunsAlgebra: the laws of a Boolean algebra: whatever the three lists and the span, the law answers true. No condition. -/
import Derived.Test.YthnikjmdnhlneaaAwake
import Derived.Test.YthnikjmdnhlneaaOnly
import Derived.Test.YthnikjmdnhlneaaOpen
namespace Go.Proofs.Ythnikjmdnhlneaa
open Go.RowKit Go.ChangeShapes Go.WideShapes Go.ChangeAt

theorem ent_rUnion : ∀ (args : Array Value) (w : World), Sem.run Try.prog (callFunc 21 args) w = .ok (.enter 21 args) w := fun _ _ => by kernel_rfl
theorem ent_rMeet : ∀ (args : Array Value) (w : World), Sem.run Try.prog (callFunc 22 args) w = .ok (.enter 22 args) w := fun _ _ => by kernel_rfl
theorem ent_rMinus : ∀ (args : Array Value) (w : World), Sem.run Try.prog (callFunc 23 args) w = .ok (.enter 23 args) w := fun _ _ => by kernel_rfl
theorem ent_rEither : ∀ (args : Array Value) (w : World), Sem.run Try.prog (callFunc 24 args) w = .ok (.enter 24 args) w := fun _ _ => by kernel_rfl
theorem ent_lawAlgebra1 : ∀ (args : Array Value) (w : World), Sem.run Try.prog (callFunc 18 args) w = .ok (.enter 18 args) w := fun _ _ => by kernel_rfl
theorem ent_lawAlgebra2 : ∀ (args : Array Value) (w : World), Sem.run Try.prog (callFunc 19 args) w = .ok (.enter 19 args) w := fun _ _ => by kernel_rfl

/-- The captured span. -/
def InCell (w : World) (g : Nat) (p q : Int) : Prop := w.cell? ⟨g, 0, none⟩ = some (.int .i64 p) ∧ w.cell? ⟨g, 1, none⟩ = some (.int .i64 q) ∧ g < w.heap.size
theorem keepI' {w w' : World} {g : Nat} {p q : Int} (h : InCell w g p q) (hb : Below w.heap.size w w') : InCell w' g p q :=
  ⟨(hb.cell (p := ⟨g, 0, none⟩) h.2.2).trans h.1, (hb.cell (p := ⟨g, 1, none⟩) h.2.2).trans h.2.1, Nat.lt_of_lt_of_le h.2.2 hb.size⟩
theorem keepI {w w' : World} {g g' : Nat} {p q : Int} (h : InCell w g p q) (hne : g ≠ g') (ho : Only g' w w') : InCell w' g p q :=
  ⟨(World.cell?_of_block (a := ⟨g, 0, none⟩) (ho.block g h.2.2 hne)).trans h.1, (World.cell?_of_block (a := ⟨g, 1, none⟩) (ho.block g h.2.2 hne)).trans h.2.1, Nat.lt_of_lt_of_le h.2.2 ho.size⟩

/-- What one step of the law hands back: a list, and the flag anew. -/
def StepRet (S : List Sp × Int → Prop) (g : Nat) (ok : Bool) (w : World) (v : Value) (w' : World) : Prop :=
  ∃ r : List Sp × Int, S r ∧ IsSpans w' v r.1 ∧ ∃ ok', ok' = (ok && (r.2 == 0)) ∧ OkB w' g 4 ok' ∧ Only g w w'

set_option maxRecDepth 100000 in
theorem lawAlgebra1_c (f : FuncId) (hf : ∀ (args : Array Value) (w : World), Sem.run Try.prog (callFunc f args) w = .ok (.enter f args) w) (G : Bool → Bool → Bool)
    (hc : ∀ (v1 v2 : Value) (a b : List Sp) (w : World), IsSpans w v1 a → IsSpans w v2 b → Calls Try.prog f #[v1, v2] w (OpRet G a b w))
    (v1 v2 : Value) (a b : List Sp) (g : Nat) (ok : Bool) (w : World) (h1 : IsSpans w v1 a) (h2 : IsSpans w v2 b) (hO : OkB w g 4 ok) :
    Calls Try.prog 18 #[.func (.func f) #[] #[], v1, v2, .pointer (some ⟨g, 0, none⟩)] w fun e w' => ∃ v, e = .returned v ∧ StepRet (OpSpec G a b) g ok w v w' := by
  have hk := hc v1 v2 a b w h1 h2
  have Hk := Lib.hid hk; clear hk hc
  have Hf := Lib.hid hf; clear hf
  go_enter Try.func18, Try.ntmps18
  have hff := Hf.out
  go_wp2_with fail
  refine Hk.out.mono ?_
  rintro e w1 ⟨r, hr, v, rfl, hv, hb⟩
  clear hff
  have hO1 := hO.below hb
  have c0 := hO1.cell
  have f0 := hO1.frozen
  have hon := Only.of_below (g := g) hb
  obtain ⟨rl, re⟩ := r
  simp only at hv
  cases ok
  · go_wp2
    go_ret
    exact ⟨v, rfl, (rl, re), hr, hv.only hO1 (Only.set _ _ _), false, rfl, hO1.set _, hon.trans (Only.set _ _ _)⟩
  · cases he : (re == 0)
    all_goals
      go_wp2
      go_ret
    · exact ⟨v, rfl, (rl, re), hr, hv.only hO1 (Only.set _ _ _), false, by simp [he], hO1.set _, hon.trans (Only.set _ _ _)⟩
    · exact ⟨v, rfl, (rl, re), hr, hv.only hO1 (Only.set _ _ _), true, by simp [he], hO1.set _, hon.trans (Only.set _ _ _)⟩

set_option maxRecDepth 100000 in
theorem lawAlgebra2_c (v1 : Value) (a : List Sp) (i1 i2 : Int) (gi g : Nat) (ok : Bool) (w : World) (h1 : IsSpans w v1 a) (hI : InCell w gi i1 i2) (hO : OkB w g 4 ok) :
    Calls Try.prog 19 #[v1, .pointer (some ⟨gi, 0, none⟩), .pointer (some ⟨g, 0, none⟩)] w fun e w' => ∃ v, e = .returned v ∧ StepRet (NotSpec a (i1, i2)) g ok w v w' := by
  have x0 := hI.1
  have x1 := hI.2.1
  go_enter Try.func19, Try.ntmps19
  go_wp2_with fail
  refine (rNot_c _ a i1 i2 _ h1).mono ?_
  rintro e w1 ⟨r, hr, v, rfl, hv, hb⟩
  clear x0 x1
  have hO1 := hO.below hb
  have c0 := hO1.cell
  have f0 := hO1.frozen
  have hon := Only.of_below (g := g) hb
  obtain ⟨rl, re⟩ := r
  simp only at hv
  cases ok
  · go_wp2
    go_ret
    exact ⟨v, rfl, (rl, re), hr, hv.only hO1 (Only.set _ _ _), false, rfl, hO1.set _, hon.trans (Only.set _ _ _)⟩
  · cases he : (re == 0)
    all_goals
      go_wp2
      go_ret
    · exact ⟨v, rfl, (rl, re), hr, hv.only hO1 (Only.set _ _ _), false, by simp [he], hO1.set _, hon.trans (Only.set _ _ _)⟩
    · exact ⟨v, rfl, (rl, re), hr, hv.only hO1 (Only.set _ _ _), true, by simp [he], hO1.set _, hon.trans (Only.set _ _ _)⟩

/-! ### the state of the law's walk -/
def StepF (S : List Sp × Int → Prop) (r : List Sp × Int) (o o' : Bool) : Prop := S r ∧ o' = (o && (r.2 == 0))
structure AlgSt (g gi : Nat) (i1 i2 : Int) (o : Bool) (w0 w : World) (L : List (Value × List Sp)) : Prop where
  A : AllSp w L
  O : OkB w g 4 o
  I : InCell w gi i1 i2
  G : Only g w0 w
  ne : gi ≠ g
theorem AlgSt.alloc {g gi : Nat} {i1 i2 : Int} {o : Bool} {w0 w : World} {L : List (Value × List Sp)} (h : AlgSt g gi i1 i2 o w0 w L) (ob : Obj) : AlgSt g gi i1 i2 o w0 (w.alloc ob) L := by
  have hb := Below.alloc (Below.refl w.heap.size w) (Nat.le_refl _) ob
  exact ⟨h.A.below hb, h.O.below hb, keepI' h.I hb, h.G.trans (Only.of_below hb), h.ne⟩
theorem AlgSt.step {g gi : Nat} {i1 i2 : Int} {o o' : Bool} {w0 w w' : World} {L : List (Value × List Sp)} (h : AlgSt g gi i1 i2 o w0 w L) {v : Value} {l : List Sp} (hv : IsSpans w' v l) (hO : OkB w' g 4 o') (hon : Only g w w') :
    AlgSt g gi i1 i2 o' w0 w' ((v, l) :: L) := by
  refine ⟨fun p hp => ?_, hO, keepI h.I h.ne hon, h.G.trans hon, h.ne⟩
  rcases List.mem_cons.1 hp with rfl | hp
  · exact hv
  · exact h.A.only h.O hon p hp
theorem alg_start {g : Nat} {i1 i2 : Int} {o : Bool} {w1 : World} {v1 v2 v3 : Value} {a b c : List Sp} (h1 : IsSpans w1 v1 a) (h2 : IsSpans w1 v2 b) (h3 : IsSpans w1 v3 c) (hI : InCell w1 g i1 i2) (hne : g < w1.heap.size) :
    ∃ o', o' = o ∧ AlgSt w1.heap.size g i1 i2 o' (w1.alloc (.cells #[.bool o] 4)) (w1.alloc (.cells #[.bool o] 4)) [(v3, c), (v2, b), (v1, a)] := by
  have hb := Below.alloc (Below.refl w1.heap.size w1) (Nat.le_refl _) (.cells #[.bool o] 4)
  refine ⟨o, rfl, fun p hp => ?_, heap_alloc_new w1 _, keepI' hI hb, Only.refl _ _, by omega⟩
  simp only [List.mem_cons, List.not_mem_nil, or_false] at hp
  rcases hp with rfl | rfl | rfl
  · exact h3.below hb
  · exact h2.below hb
  · exact h1.below hb
theorem lawAlgebra1_s (f : FuncId) (hf : ∀ (args : Array Value) (w : World), Sem.run Try.prog (callFunc f args) w = .ok (.enter f args) w) (G : Bool → Bool → Bool)
    (hc : ∀ (v1 v2 : Value) (a b : List Sp) (w : World), IsSpans w v1 a → IsSpans w v2 b → Calls Try.prog f #[v1, v2] w (OpRet G a b w))
    (v1 v2 : Value) (a b : List Sp) (w : World) (h1 : IsSpans w v1 a) (h2 : IsSpans w v2 b) {g gi : Nat} {i1 i2 : Int} {o : Bool} {w0 : World} {L : List (Value × List Sp)} (hS : AlgSt g gi i1 i2 o w0 w L) :
    Calls Try.prog 18 #[.func (.func f) #[] #[], v1, v2, .pointer (some ⟨g, 0, none⟩)] w fun e w' => ∃ v, e = .returned v ∧ ∃ r o', StepF (OpSpec G a b) r o o' ∧ AlgSt g gi i1 i2 o' w0 w' ((v, r.1) :: L) := by
  refine (lawAlgebra1_c f hf G hc v1 v2 a b g o w h1 h2 hS.O).mono ?_
  rintro e w' ⟨v, rfl, r, hr, hv, o', ho, hO, hon⟩
  exact ⟨v, rfl, r, o', ⟨hr, ho⟩, hS.step hv hO hon⟩
theorem lawAlgebra2_s (v1 : Value) (a : List Sp) (w : World) (h1 : IsSpans w v1 a) {g gi : Nat} {i1 i2 : Int} {o : Bool} {w0 : World} {L : List (Value × List Sp)} (hS : AlgSt g gi i1 i2 o w0 w L) :
    Calls Try.prog 19 #[v1, .pointer (some ⟨gi, 0, none⟩), .pointer (some ⟨g, 0, none⟩)] w fun e w' => ∃ v, e = .returned v ∧ ∃ r o', StepF (NotSpec a (i1, i2)) r o o' ∧ AlgSt g gi i1 i2 o' w0 w' ((v, r.1) :: L) := by
  refine (lawAlgebra2_c v1 a i1 i2 gi g o w h1 hS.I hS.O).mono ?_
  rintro e w' ⟨v, rfl, r, hr, hv, o', ho, hO, hon⟩
  exact ⟨v, rfl, r, o', ⟨hr, ho⟩, hS.step hv hO hon⟩

/-! ### the plain law -/
theorem StepF.on {S : List Sp × Int → Prop} {r : List Sp × Int} {o : Bool} (h : StepF S r o true) : o = true ∧ S r ∧ r.2 = 0 := by
  obtain ⟨h1, h2⟩ := h
  have h2 := h2.symm
  rw [Bool.and_eq_true] at h2
  exact ⟨h2.1, h1, by simpa using h2.2⟩
structure Good (f : Int → Bool) (l : List Sp) : Prop where
  v : validB l = true
  m : ∀ x, mem l x = f x
theorem op_good {g : Bool → Bool → Bool} {a b : List Sp} {r : List Sp × Int} (h : OpSpec g a b r) (he : r.2 = 0) : validB a = true ∧ validB b = true ∧ Good (fun x => g (mem a x) (mem b x)) r.1 := by
  cases hv : (validB a && validB b)
  · rw [op_bad h hv] at he; simp at he
  · rw [Bool.and_eq_true] at hv
    rcases op_cases h hv.1 hv.2 with ⟨l, rfl, h1, h2⟩ | ⟨rfl, _⟩
    · exact ⟨hv.1, hv.2, h2, h1.2⟩
    · simp at he
theorem not_good {a : List Sp} {s : Sp} {r : List Sp × Int} (h : NotSpec a s r) (he : r.2 = 0) : Good (fun x => mem [s] x && !mem a x) r.1 := by
  unfold NotSpec at h
  cases ho : okSpan s
  · rw [if_neg (by rw [ho]; exact Bool.false_ne_true)] at h
    rw [h] at he; simp at he
  · rw [if_pos ho] at h
    exact (op_good h he).2.2
theorem good_eq {f g : Int → Bool} {l m : List Sp} (h : Good f l) (k : Good g m) (hx : ∀ x, f x = g x) : (validB l && validB m && sameL l m) = true := by
  have : l = m := canon_ext ((validB_iff l).1 h.v).2 ((validB_iff m).1 k.v).2 fun x => by rw [h.m, k.m, hx]
  subst this
  rw [h.v, (sameL_iff l l).2 rfl]; rfl
set_option maxHeartbeats 1000000 in
theorem algebra_law {a b c : List Sp} {s : Sp} {r3 r4 r5 r6 r7 r8 r9 r10 r11 r12 r13 r14 r15 r16 r17 r18 r19 r20 r21 r22 r23 r24 r25 r26 r27 r28 : List Sp × Int} {o3 o4 o5 o6 o7 o8 o9 o10 o11 o12 o13 o14 o15 o16 o17 o18 o19 o20 o21 o22 o23 o24 o25 o26 o27 o28 : Bool}
    (E3 : StepF (OpSpec gUnion a b) r3 o3 o4) (E4 : StepF (OpSpec gUnion b a) r4 o4 o5) (E5 : StepF (OpSpec gMeet a b) r5 o5 o6) (E6 : StepF (OpSpec gMeet b a) r6 o6 o7) (E7 : StepF (OpSpec gUnion b c) r7 o7 o8)
    (E8 : StepF (OpSpec gMeet a r7.1) r8 o8 o9) (E9 : StepF (OpSpec gMeet a c) r9 o9 o10) (E10 : StepF (OpSpec gUnion r5.1 r9.1) r10 o10 o11) (E11 : StepF (OpSpec gUnion r3.1 c) r11 o11 o12) (E12 : StepF (OpSpec gUnion b c) r12 o12 o13)
    (E13 : StepF (OpSpec gUnion a r12.1) r13 o13 o14) (E14 : StepF (OpSpec gMeet r5.1 c) r14 o14 o15) (E15 : StepF (OpSpec gMeet b c) r15 o15 o16) (E16 : StepF (OpSpec gMeet a r15.1) r16 o16 o17) (E17 : StepF (OpSpec gEither a b) r17 o17 o18)
    (E18 : StepF (OpSpec gMinus a b) r18 o18 o19) (E19 : StepF (OpSpec gMinus b a) r19 o19 o20) (E20 : StepF (OpSpec gUnion r18.1 r19.1) r20 o20 o21) (E21 : StepF (NotSpec r3.1 s) r21 o21 o22) (E22 : StepF (NotSpec a s) r22 o22 o23)
    (E23 : StepF (NotSpec b s) r23 o23 o24) (E24 : StepF (OpSpec gMeet r22.1 r23.1) r24 o24 o25) (E25 : StepF (OpSpec gMeet a [s]) r25 o25 o26) (E26 : StepF (NotSpec r25.1 s) r26 o26 o27) (E27 : StepF (NotSpec r26.1 s) r27 o27 o28)
    (E28 : StepF (OpSpec gMeet a [s]) r28 o28 true) :
    (validB r3.1 && validB r4.1 && sameL r3.1 r4.1) = true ∧ (validB r5.1 && validB r6.1 && sameL r5.1 r6.1) = true ∧ (validB r8.1 && validB r10.1 && sameL r8.1 r10.1) = true ∧ (validB r11.1 && validB r13.1 && sameL r11.1 r13.1) = true ∧
    (validB r14.1 && validB r16.1 && sameL r14.1 r16.1) = true ∧ (validB r17.1 && validB r20.1 && sameL r17.1 r20.1) = true ∧ (validB r21.1 && validB r24.1 && sameL r21.1 r24.1) = true ∧ (validB r27.1 && validB r28.1 && sameL r27.1 r28.1) = true := by
  obtain ⟨rfl, s28, z28⟩ := E28.on; obtain ⟨rfl, s27, z27⟩ := E27.on; obtain ⟨rfl, s26, z26⟩ := E26.on; obtain ⟨rfl, s25, z25⟩ := E25.on; obtain ⟨rfl, s24, z24⟩ := E24.on
  obtain ⟨rfl, s23, z23⟩ := E23.on; obtain ⟨rfl, s22, z22⟩ := E22.on; obtain ⟨rfl, s21, z21⟩ := E21.on; obtain ⟨rfl, s20, z20⟩ := E20.on; obtain ⟨rfl, s19, z19⟩ := E19.on
  obtain ⟨rfl, s18, z18⟩ := E18.on; obtain ⟨rfl, s17, z17⟩ := E17.on; obtain ⟨rfl, s16, z16⟩ := E16.on; obtain ⟨rfl, s15, z15⟩ := E15.on; obtain ⟨rfl, s14, z14⟩ := E14.on
  obtain ⟨rfl, s13, z13⟩ := E13.on; obtain ⟨rfl, s12, z12⟩ := E12.on; obtain ⟨rfl, s11, z11⟩ := E11.on; obtain ⟨rfl, s10, z10⟩ := E10.on; obtain ⟨rfl, s9, z9⟩ := E9.on
  obtain ⟨rfl, s8, z8⟩ := E8.on; obtain ⟨rfl, s7, z7⟩ := E7.on; obtain ⟨rfl, s6, z6⟩ := E6.on; obtain ⟨rfl, s5, z5⟩ := E5.on; obtain ⟨rfl, s4, z4⟩ := E4.on; obtain ⟨rfl, s3, z3⟩ := E3.on
  clear E3 E4 E5 E6 E7 E8 E9 E10 E11 E12 E13 E14 E15 E16 E17 E18 E19 E20 E21 E22 E23 E24 E25 E26 E27 E28
  have g3 := (op_good s3 z3).2.2; have g4 := (op_good s4 z4).2.2; have g5 := (op_good s5 z5).2.2; have g6 := (op_good s6 z6).2.2; have g7 := (op_good s7 z7).2.2; have g8 := (op_good s8 z8).2.2; have g9 := (op_good s9 z9).2.2
  have g10 := (op_good s10 z10).2.2; have g11 := (op_good s11 z11).2.2; have g12 := (op_good s12 z12).2.2; have g13 := (op_good s13 z13).2.2; have g14 := (op_good s14 z14).2.2; have g15 := (op_good s15 z15).2.2
  have g16 := (op_good s16 z16).2.2; have g17 := (op_good s17 z17).2.2; have g18 := (op_good s18 z18).2.2; have g19 := (op_good s19 z19).2.2; have g20 := (op_good s20 z20).2.2
  have g21 := not_good s21 z21; have g22 := not_good s22 z22; have g23 := not_good s23 z23; have g24 := (op_good s24 z24).2.2; have g25 := (op_good s25 z25).2.2; have g26 := not_good s26 z26; have g27 := not_good s27 z27; have g28 := (op_good s28 z28).2.2
  refine ⟨good_eq g3 g4 ?_, good_eq g5 g6 ?_, good_eq g8 g10 ?_, good_eq g11 g13 ?_, good_eq g14 g16 ?_, good_eq g17 g20 ?_, good_eq g21 g24 ?_, good_eq g27 g28 ?_⟩ <;> intro x
  · simp only [gUnion]; cases mem a x <;> cases mem b x <;> rfl
  · simp only [gMeet]; cases mem a x <;> cases mem b x <;> rfl
  · simp only [g7.m, g5.m, g9.m, gUnion, gMeet]; cases mem a x <;> cases mem b x <;> cases mem c x <;> rfl
  · simp only [g3.m, g12.m, gUnion]; cases mem a x <;> cases mem b x <;> cases mem c x <;> rfl
  · simp only [g5.m, g15.m, gMeet]; cases mem a x <;> cases mem b x <;> cases mem c x <;> rfl
  · simp only [g18.m, g19.m, gUnion, gMinus, gEither]; cases mem a x <;> cases mem b x <;> rfl
  · simp only [g3.m, g22.m, g23.m, gUnion, gMeet]; cases mem a x <;> cases mem b x <;> cases mem [s] x <;> rfl
  · simp only [g26.m, g25.m, gMeet]; cases mem a x <;> cases mem [s] x <;> rfl
end Go.Proofs.Ythnikjmdnhlneaa
