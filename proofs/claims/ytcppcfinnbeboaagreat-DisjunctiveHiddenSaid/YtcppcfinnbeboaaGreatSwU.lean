/- runs.Not with a result of its own memory. -/
import Derived.Test.YtcppcfinnbeboaaGreatPre
namespace Go.Proofs.YtcppcfinnbeboaaGreat
open Go.RowKit

theorem own_baseU {w : World} {b base size n : Nat} {e : TypeId} {v : Value} {xs : List Value} (h : w.ownsRow base e size v n xs) (hb : b ≤ base) : w.ownsRow b e size v n xs := by
  obtain ⟨h1, h2⟩ := h
  refine ⟨h1, h2.imp id ?_⟩
  rintro ⟨g, cap, cur, hv, hg, r⟩
  exact ⟨g, cap, cur, hv, Nat.le_trans hb hg, r⟩
/-- An own row of indices handed back. -/
def RetLEO (w : World) (r : List Sp × Int) (e : Ending) (w' : World) : Prop := ∃ v, e = .returned (.tuple #[v, .int .i64 r.2]) ∧ w'.ownsRow w.heap.size 48 2 v r.1.length (flat r.1) ∧ Below w.heap.size w w'
def RetDone (base : Nat) (w : World) (r : List Sp × Int) (e : Ending) (w' : World) : Prop := ∃ v, e = .returned (.tuple #[v, .int .i64 r.2]) ∧ w'.ownsRow base 48 2 v r.1.length (flat r.1) ∧ Below w.heap.size w w'
theorem rdoneO_c (v : Value) (l : List Sp) (w : World) (base : Nat) (hown : w.ownsRow base 48 2 v l.length (flat l)) :
    Calls Tryz.prog 65 #[v] w (RetDone base w (if l.length ≤ 2000 then (l, 0) else ([], 5))) := by
  obtain ⟨A, c, rfl, hnc, hc⟩ := (spans_of_own hown).form
  by_cases h2 : l.length ≤ 2000
  · rw [if_pos h2]
    go_enter Tryz.func65, Tryz.ntmps65
    go_wp2
    go_ret2
    exact ⟨_, rfl, hown, Below.refl _ _⟩
  · rw [if_neg h2]
    go_enter Tryz.func65, Tryz.ntmps65
    go_wp2
    go_ret2
    exact ⟨_, rfl, own_nil _ _ _ _, Below.refl _ _⟩
set_option maxRecDepth 100000 in
set_option maxHeartbeats 1000000 in
theorem rcombineO_ok (f : FuncId) (hf : ∀ (args : Array Value) (w : World), Sem.run Tryz.prog (callFunc f args) w = .ok (.enter f args) w) (g : Bool → Bool → Bool) (hg : ∀ x y w, Calls Tryz.prog f #[.bool x, .bool y] w fun e w' => e = .returned (.bool (g x y)) ∧ w = w')
    (v1 v2 : Value) (a b : List Sp) (w : World) (h1 : IsSpans w v1 a) (h2 : IsSpans w v2 b) (ha : validB a = true) (hb : validB b = true) :
    Calls Tryz.prog 66 #[v1, v2, .func (.func f) #[] #[]] w fun e w' => ∃ m, ¬ cOn a b (cIter g a b m) ∧ CInv a b (cIter g a b m) ∧
      RetLEO w (if (cIter g a b m).out.length ≤ 2000 then ((cIter g a b m).out, 0) else ([], 5)) e w' := by
  have hla := validB_len ha
  have hlb := validB_len hb
  obtain ⟨A, ca, rfl, hna, hca⟩ := h1.form
  obtain ⟨B, cb, rfl, hnb, hcb⟩ := h2.form
  have Hg := Lib.hid hg; clear hg
  have Hf := Lib.hid hf; clear hf
  go_enter Tryz.func66, Tryz.ntmps66
  go_wp2_with fail
  refine (rValid_c _ _ _ h1).mono ?_
  rintro e w1 ⟨rfl, hb1⟩
  go_wp2_with fail
  refine (rValid_c _ _ _ (h2.below hb1)).mono ?_
  rintro e w2 ⟨rfl, hb2⟩
  have h1 := (h1.below hb1).below hb2
  have h2 := (h2.below hb1).below hb2
  have hb0 := hb1.trans (hb2.mono hb1.size)
  clear hb1 hb2
  go_wp2_with fail
  go_loopw [8, 9, 10, 12, 13] (fun o i k ins frm wr => ∃ m s, Hid (s = cIter g a b m) ∧ CInv a b s ∧ i = .int .i64 s.i ∧ k = .int .i64 s.k ∧ ins = .bool s.ins ∧ frm = .int .i64 s.frm ∧
     wr.ownsRow w2.heap.size 48 2 o s.out.length (flat s.out) ∧ Below w2.heap.size w2 wr) (fun _ i k _ _ _ => 2 * a.length + 2 * b.length - ((intOf i).toNat + (intOf k).toNat))
  case atStart => exact ⟨0, cStart, rfl, ⟨by simp [cStart], by simp [cStart], by simp [cStart], by simp [cStart]⟩, rfl, rfl, rfl, rfl, own_nil _ _ _ _, Below.refl _ _⟩
  case round =>
    obtain ⟨m, s, Hm, hinv, rfl, rfl, rfl, rfl, hown, hbw⟩ := hrel
    have hi := hinv.i
    have hk := hinv.k
    by_cases hon : cOn a b s
    · have hstep := cStep_inv (g := g) ha hb hinv hon
      have hbA := endAt_bd ha hi
      have hbB := endAt_bd hb hk
      have h1w := h1.below hbw
      have h2w := h2.below hbw
      obtain ⟨E1, he1⟩ : ∃ E, E = endAt a s.i := ⟨_, rfl⟩
      obtain ⟨E2, he2⟩ : ∃ E, E = endAt b s.k := ⟨_, rfl⟩
      have cA : Calls Tryz.prog 88 #[.slice A a.length ca, .int .i64 s.i] wr fun e w' => e = .returned (.int .i64 E1) ∧ wr = w' := by rw [he1]; exact rcombine1_c _ a _ _ h1w hi hla
      have cB : Calls Tryz.prog 88 #[.slice B b.length cb, .int .i64 s.k] wr fun e w' => e = .returned (.int .i64 E2) ∧ wr = w' := by rw [he2]; exact rcombine1_c _ b _ _ h2w hk hlb
      rw [← he1] at hbA
      rw [← he2] at hbB
      have hat : cAt a b s = min E1 E2 := by rw [he1, he2]; rfl
      have hnI : nI a b s = if E1 = min E1 E2 then s.i + 1 else s.i := by rw [← hat, he1]; rfl
      have hnK : nK a b s = if E2 = min E1 E2 then s.k + 1 else s.k := by rw [← hat, he2]; rfl
      clear he1 he2
      have Hat := Lib.hid hat; clear hat
      have HnI := Lib.hid hnI; clear hnI
      have HnK := Lib.hid hnK; clear hnK
      have CA := Lib.hid cA; clear cA
      have CB := Lib.hid cB; clear cB
      have Hon : s.i < 2 * a.length ∨ s.k < 2 * b.length := hon
      rcases Int.lt_trichotomy E1 E2 with hlt | hlt | hlt
      · skip
        have H1 : Hid (nI a b s = s.i + 1) := HnI.out.trans (if_pos (by omega))
        have H2 : Hid (nK a b s = s.k) := HnK.out.trans (if_neg (by omega))
        have H3 : Hid (cAt a b s = E1) := by rw [Hat.out]; show _ = _; omega
        have H4 : Hid (nW g a b s = g ((s.i + 1 : Int) % 2 == 1) ((s.k : Int) % 2 == 1)) := by unfold nW; rw [H1.out, H2.out]; rfl
        have cR : Calls Tryz.prog f #[.bool ((s.i + 1 : Int) % 2 == 1), .bool ((s.k : Int) % 2 == 1)] wr fun e w' => e = .returned (.bool (nW g a b s)) ∧ wr = w' := by rw [H4.out]; exact Hg.out _ _ _
        have CR := Lib.hid cR; clear cR
        have hi1 : s.i + 1 ≤ 2 * a.length := by have h : nI a b s ≤ 2 * a.length := hstep.1.i; rw [H1.out] at h; exact h
        have hk1 : s.k ≤ 2 * b.length := by have h : nK a b s ≤ 2 * b.length := hstep.1.k; rw [H2.out] at h; exact h
        have R0 : Hid (cStep g a b s = cIter g a b (m + 1)) := congrArg (cStep g a b) Hm.out
        have R1 : Hid (Value.int .i64 (s.i + 1 : Int) = Value.int .i64 ((cStep g a b s).i : Int)) := congrArg (fun n : Nat => Value.int .i64 (n : Int)) H1.out.symm
        have R2 : Hid (Value.int .i64 (s.k : Int) = Value.int .i64 ((cStep g a b s).k : Int)) := congrArg (fun n : Nat => Value.int .i64 (n : Int)) H2.out.symm
        have hout : (cStep g a b s).out = if nW g a b s = s.ins then s.out else if s.ins then s.out ++ [(s.frm, E1)] else s.out := by rw [← H3.out]; rfl
        have hfrm : (cStep g a b s).frm = if nW g a b s = s.ins then s.frm else E1 := by rw [← H3.out]; rfl
        have hins' : (cStep g a b s).ins = nW g a b s := rfl
        have hol := hinv.out
        have hmn : (min E1 E2 : Int) = E1 := by omega
        have hq2 : (E2 == E1) = false := by rw [beq_eq_false_iff_ne]; omega
        cases hw : nW g a b s <;> cases hins : s.ins <;> rw [hw] at CR hins' <;> simp only [hw, hins, if_true, if_false, reduceCtorEq, Bool.false_eq_true] at hout hfrm
        all_goals
          have Hout := Lib.hid hout; clear hout
          have Hfrm := Lib.hid hfrm; clear hfrm
          have Hins := Lib.hid hins'; clear hins' hw
          by_cases hon1 : s.i < 2 * a.length
        all_goals
          go_wp2_with (first
            | ((with_reducible refine wpList_call_fn 36 88 ?_ ?_ ent_rcombine1 CA.out ?_); exact rfl; exact rfl; rintro _ rfl)
            | ((with_reducible refine wpList_call_fn 40 88 ?_ ?_ ent_rcombine1 CB.out ?_); exact rfl; exact rfl; rintro _ rfl)
            | ((with_reducible refine wpList_call_fn 45 88 ?_ ?_ ent_rcombine1 CA.out ?_); exact rfl; exact rfl; rintro _ rfl)
            | ((with_reducible refine wpList_call_fn 53 88 ?_ ?_ ent_rcombine1 CB.out ?_); exact rfl; exact rfl; rintro _ rfl)
            | ((with_reducible refine wpList_call_fn 61 f ?_ ?_ Hf.out CR.out ?_); exact rfl; exact rfl; rintro _ rfl)
            | (at_builtin; refine append_span tSpans tSpanInfo (by rfl) (.tmp 73) (.tmp 77) (by rfl) w2.heap.size _ s.out _ _ (by rfl) hown (by rfl) (by omega) hbw.size ?_; intro v3 w3 hown3 hb3))
        all_goals go_roundw
        all_goals first
          | (case' measure => skip; simp [intOf]; omega)
          | exact ⟨m + 1, cStep g a b s, R0, hstep.1, R1.out, R2.out, by rw [Hins.out], by first | (rw [Hfrm.out]; done) | (rw [Hfrm.out, if_neg (by omega)]), by rw [Hout.out]; first | exact hown3 | exact hown, by first | exact hbw.trans hb3 | exact hbw⟩
      · subst hlt
        have H1 : Hid (nI a b s = s.i + 1) := HnI.out.trans (if_pos (by omega))
        have H2 : Hid (nK a b s = s.k + 1) := HnK.out.trans (if_pos (by omega))
        have H3 : Hid (cAt a b s = E1) := by rw [Hat.out]; show _ = _; omega
        have H4 : Hid (nW g a b s = g ((s.i + 1 : Int) % 2 == 1) ((s.k + 1 : Int) % 2 == 1)) := by unfold nW; rw [H1.out, H2.out]; rfl
        have cR : Calls Tryz.prog f #[.bool ((s.i + 1 : Int) % 2 == 1), .bool ((s.k + 1 : Int) % 2 == 1)] wr fun e w' => e = .returned (.bool (nW g a b s)) ∧ wr = w' := by rw [H4.out]; exact Hg.out _ _ _
        have CR := Lib.hid cR; clear cR
        have hi1 : s.i + 1 ≤ 2 * a.length := by have h : nI a b s ≤ 2 * a.length := hstep.1.i; rw [H1.out] at h; exact h
        have hk1 : s.k + 1 ≤ 2 * b.length := by have h : nK a b s ≤ 2 * b.length := hstep.1.k; rw [H2.out] at h; exact h
        have R0 : Hid (cStep g a b s = cIter g a b (m + 1)) := congrArg (cStep g a b) Hm.out
        have R1 : Hid (Value.int .i64 (s.i + 1 : Int) = Value.int .i64 ((cStep g a b s).i : Int)) := congrArg (fun n : Nat => Value.int .i64 (n : Int)) H1.out.symm
        have R2 : Hid (Value.int .i64 (s.k + 1 : Int) = Value.int .i64 ((cStep g a b s).k : Int)) := congrArg (fun n : Nat => Value.int .i64 (n : Int)) H2.out.symm
        have hout : (cStep g a b s).out = if nW g a b s = s.ins then s.out else if s.ins then s.out ++ [(s.frm, E1)] else s.out := by rw [← H3.out]; rfl
        have hfrm : (cStep g a b s).frm = if nW g a b s = s.ins then s.frm else E1 := by rw [← H3.out]; rfl
        have hins' : (cStep g a b s).ins = nW g a b s := rfl
        have hol := hinv.out
        cases hw : nW g a b s <;> cases hins : s.ins <;> rw [hw] at CR hins' <;> simp only [hw, hins, if_true, if_false, reduceCtorEq, Bool.false_eq_true] at hout hfrm
        all_goals
          have Hout := Lib.hid hout; clear hout
          have Hfrm := Lib.hid hfrm; clear hfrm
          have Hins := Lib.hid hins'; clear hins' hw
          by_cases hon1 : s.i < 2 * a.length
        all_goals
          go_wp2_with (first
            | ((with_reducible refine wpList_call_fn 36 88 ?_ ?_ ent_rcombine1 CA.out ?_); exact rfl; exact rfl; rintro _ rfl)
            | ((with_reducible refine wpList_call_fn 40 88 ?_ ?_ ent_rcombine1 CB.out ?_); exact rfl; exact rfl; rintro _ rfl)
            | ((with_reducible refine wpList_call_fn 45 88 ?_ ?_ ent_rcombine1 CA.out ?_); exact rfl; exact rfl; rintro _ rfl)
            | ((with_reducible refine wpList_call_fn 53 88 ?_ ?_ ent_rcombine1 CB.out ?_); exact rfl; exact rfl; rintro _ rfl)
            | ((with_reducible refine wpList_call_fn 61 f ?_ ?_ Hf.out CR.out ?_); exact rfl; exact rfl; rintro _ rfl)
            | (at_builtin; refine append_span tSpans tSpanInfo (by rfl) (.tmp 73) (.tmp 77) (by rfl) w2.heap.size _ s.out _ _ (by rfl) hown (by rfl) (by omega) hbw.size ?_; intro v3 w3 hown3 hb3))
        all_goals go_roundw
        all_goals first
          | (case' measure => skip; simp [intOf]; omega)
          | exact ⟨m + 1, cStep g a b s, R0, hstep.1, R1.out, R2.out, by rw [Hins.out], by first | (rw [Hfrm.out]; done) | (rw [Hfrm.out, if_neg (by omega)]), by rw [Hout.out]; first | exact hown3 | exact hown, by first | exact hbw.trans hb3 | exact hbw⟩
      · skip
        have H1 : Hid (nI a b s = s.i) := HnI.out.trans (if_neg (by omega))
        have H2 : Hid (nK a b s = s.k + 1) := HnK.out.trans (if_pos (by omega))
        have H3 : Hid (cAt a b s = E2) := by rw [Hat.out]; show _ = _; omega
        have H4 : Hid (nW g a b s = g ((s.i : Int) % 2 == 1) ((s.k + 1 : Int) % 2 == 1)) := by unfold nW; rw [H1.out, H2.out]; rfl
        have cR : Calls Tryz.prog f #[.bool ((s.i : Int) % 2 == 1), .bool ((s.k + 1 : Int) % 2 == 1)] wr fun e w' => e = .returned (.bool (nW g a b s)) ∧ wr = w' := by rw [H4.out]; exact Hg.out _ _ _
        have CR := Lib.hid cR; clear cR
        have hi1 : s.i ≤ 2 * a.length := by have h : nI a b s ≤ 2 * a.length := hstep.1.i; rw [H1.out] at h; exact h
        have hk1 : s.k + 1 ≤ 2 * b.length := by have h : nK a b s ≤ 2 * b.length := hstep.1.k; rw [H2.out] at h; exact h
        have R0 : Hid (cStep g a b s = cIter g a b (m + 1)) := congrArg (cStep g a b) Hm.out
        have R1 : Hid (Value.int .i64 (s.i : Int) = Value.int .i64 ((cStep g a b s).i : Int)) := congrArg (fun n : Nat => Value.int .i64 (n : Int)) H1.out.symm
        have R2 : Hid (Value.int .i64 (s.k + 1 : Int) = Value.int .i64 ((cStep g a b s).k : Int)) := congrArg (fun n : Nat => Value.int .i64 (n : Int)) H2.out.symm
        have hout : (cStep g a b s).out = if nW g a b s = s.ins then s.out else if s.ins then s.out ++ [(s.frm, E2)] else s.out := by rw [← H3.out]; rfl
        have hfrm : (cStep g a b s).frm = if nW g a b s = s.ins then s.frm else E2 := by rw [← H3.out]; rfl
        have hins' : (cStep g a b s).ins = nW g a b s := rfl
        have hol := hinv.out
        have hmn : (min E1 E2 : Int) = E2 := by omega
        have hq2 : (E1 == E2) = false := by rw [beq_eq_false_iff_ne]; omega
        cases hw : nW g a b s <;> cases hins : s.ins <;> rw [hw] at CR hins' <;> simp only [hw, hins, if_true, if_false, reduceCtorEq, Bool.false_eq_true] at hout hfrm
        all_goals
          have Hout := Lib.hid hout; clear hout
          have Hfrm := Lib.hid hfrm; clear hfrm
          have Hins := Lib.hid hins'; clear hins' hw
          by_cases hon1 : s.i < 2 * a.length
        all_goals
          go_wp2_with (first
            | ((with_reducible refine wpList_call_fn 36 88 ?_ ?_ ent_rcombine1 CA.out ?_); exact rfl; exact rfl; rintro _ rfl)
            | ((with_reducible refine wpList_call_fn 40 88 ?_ ?_ ent_rcombine1 CB.out ?_); exact rfl; exact rfl; rintro _ rfl)
            | ((with_reducible refine wpList_call_fn 45 88 ?_ ?_ ent_rcombine1 CA.out ?_); exact rfl; exact rfl; rintro _ rfl)
            | ((with_reducible refine wpList_call_fn 53 88 ?_ ?_ ent_rcombine1 CB.out ?_); exact rfl; exact rfl; rintro _ rfl)
            | ((with_reducible refine wpList_call_fn 61 f ?_ ?_ Hf.out CR.out ?_); exact rfl; exact rfl; rintro _ rfl)
            | (at_builtin; refine append_span tSpans tSpanInfo (by rfl) (.tmp 73) (.tmp 77) (by rfl) w2.heap.size _ s.out _ _ (by rfl) hown (by rfl) (by omega) hbw.size ?_; intro v3 w3 hown3 hb3))
        all_goals go_roundw
        all_goals first
          | (case' measure => skip; simp [intOf]; omega)
          | exact ⟨m + 1, cStep g a b s, R0, hstep.1, R1.out, R2.out, by rw [Hins.out], by first | (rw [Hfrm.out]; done) | (rw [Hfrm.out, if_neg (by omega)]), by rw [Hout.out]; first | exact hown3 | exact hown, by first | exact hbw.trans hb3 | exact hbw⟩
    · have hon' := hon
      unfold cOn at hon'
      have hn1 : 2 * a.length ≤ s.i := by omega
      have hn2 : 2 * b.length ≤ s.k := by omega
      clear hon'
      go_wp2_with fail
      have hd := rdoneO_c _ s.out _ w2.heap.size hown
      obtain ⟨r, hr⟩ : ∃ r, r = (if s.out.length ≤ 2000 then (s.out, (0 : Int)) else ([], 5)) := ⟨_, rfl⟩
      rw [← hr] at hd
      have Hr := Lib.hid hr; clear hr
      refine hd.mono ?_
      rintro e w3 ⟨v3, rfl, hs3, hb3⟩
      go_wp2
      go_ret2
      have hr' : (if (cIter g a b m).out.length ≤ 2000 then ((cIter g a b m).out, (0 : Int)) else ([], 5)) = r := by rw [← Hm.out, ← Hr.out]
      exact ⟨m, by rw [← Hm.out]; exact hon, by rw [← Hm.out]; exact hinv, v3, by rw [hr']; rfl, by rw [hr']; exact own_baseU hs3 hb0.size, hb0.trans ((hbw.trans (hb3.mono hbw.size)).mono hb0.size)⟩

end Go.Proofs.YtcppcfinnbeboaaGreat
