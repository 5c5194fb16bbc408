/- Law 47: disjunctive.Holds. -/
import Derived.Test.YtcppcfinnbeboaaGreatDjI
namespace Go.Proofs.YtcppcfinnbeboaaGreat
open Go.RowKit Go.Shelf

def farB (x : Int) : Bool := decide (x < -4398046511104) || decide (4398046511104 < x)
theorem djHolds1_c (x : Int) (w : World) : Calls Tryz.prog 44 #[.int .i64 x] w (Ret w (.bool (farB x))) := by
  unfold farB
  cases h1 : decide (x < -4398046511104) <;> cases h2 : decide (4398046511104 < x)
  all_goals
    go_enter Tryz.func44, Tryz.ntmps44
    go_wp2_with fail
    go_ret
    exact ⟨rfl, Below.refl _ _⟩
theorem ent_djHolds1 : ∀ (args : Array Value) (w : World), Sem.run Tryz.prog (callFunc 44 args) w = .ok (.enter 44 args) w := fun _ _ => by kernel_rfl
theorem iv_at47 {l : List Int} {i : Nat} (hi : i < l.length) : l[i] = iv l i := by unfold iv; simp [hi]
def IdxFar (l : List Int) (r : Int) : Prop := (r = -1 ∧ l.any farB = false) ∨ ∃ i : Nat, r = i ∧ l.any farB = true
def IdxFarRet (l : List Int) (w : World) (e : Ending) (w' : World) : Prop := ∃ r, IdxFar l r ∧ e = .returned (.int .i64 r) ∧ Below w.heap.size w w'
set_option maxRecDepth 100000 in
theorem slIndexFar_c (v : Value) (l : List Int) (w : World) (hs : IsInts w v l) : Calls Tryz.prog 38 #[v, .func (.func 44) #[] #[]] w (IdxFarRet l w) := by
  obtain ⟨A, c, rfl, hnc, hc⟩ := hs.form
  go_enter Tryz.func38, Tryz.ntmps38
  go_wp2
  go_loopw [8] (fun i wr => ∃ k : Nat, i = .int .i64 k ∧ k ≤ l.length ∧ Hid (∀ j, j < k → farB (iv l j) = false) ∧ Below w.heap.size w wr) (fun i _ => l.length - (intOf i).toNat)
  case atStart => exact ⟨0, rfl, Nat.zero_le _, Lib.hid (fun j hj => absurd hj (by omega)), Below.refl _ _⟩
  case round =>
    obtain ⟨k, rfl, hk, HA, hb⟩ := hrel
    by_cases hlt : k < l.length
    · obtain ⟨b, off, rfl, hbk⟩ := hs.addr (by omega)
      have c0 := (hs.below hb).c0 k hlt
      have hcall := djHolds1_c (iv l k) wr
      have hfd : farB (iv l k) = true → IdxFar l (k : Int) := fun h => .inr ⟨k, rfl, any_yes47 (fun i h => iv_at47 h) hlt h⟩
      have hst : farB (iv l k) = false → ∀ j, j < k + 1 → farB (iv l j) = false := fun h j hj => by
        rcases Nat.eq_or_lt_of_le (show j ≤ k by omega) with e | e
        · rw [e]; exact h
        · exact HA.out j e
      generalize farB (iv l k) = z at hcall hfd hst
      cases z
      · have Hcall := Lib.hid hcall
        have Hst := Lib.hid (hst rfl)
        clear hcall hst hfd
        go_wp2_with fail
        refine Hcall.out.mono ?_
        rintro e w2 ⟨rfl, hb2⟩
        have hb3 := hb.trans (hb2.mono hb.size)
        go_wp2
        go_roundw
        case rel => exact ⟨k + 1, by go_num, by omega, Hst, hb3⟩
        case measure => simp [intOf]; omega
      · have Hcall := Lib.hid hcall
        have Hfd := Lib.hid (hfd rfl)
        clear hcall hst hfd
        go_wp2_with fail
        refine Hcall.out.mono ?_
        rintro e w2 ⟨rfl, hb2⟩
        have hb3 := hb.trans (hb2.mono hb.size)
        go_wp2
        go_ret
        exact ⟨_, Hfd.out, rfl, hb3⟩
    · obtain rfl : k = l.length := by omega
      have Hr : Hid (IdxFar l (-1)) := .inl ⟨rfl, any_no47 (fun i h => iv_at47 h) HA.out⟩
      clear HA
      go_wp2
      go_ret
      exact ⟨_, Hr.out, rfl, hb⟩
theorem slContainsFar_c (v : Value) (l : List Int) (w : World) (hs : IsInts w v l) : Calls Tryz.prog 21 #[v, .func (.func 44) #[] #[]] w (Ret w (.bool (l.any farB))) := by
  have K := Lib.hid (slIndexFar_c v l w hs)
  clear hs
  cases q : l.any farB
  all_goals
    have Q := Lib.hid q; clear q
    go_enter Tryz.func21, Tryz.ntmps21
    go_wp2_with fail
    refine K.out.mono ?_
    rintro e w1 ⟨r, hr, rfl, hb⟩
    rcases hr with ⟨rfl, h⟩ | ⟨i, rfl, h⟩
    all_goals first
      | exact absurd (h.symm.trans Q.out) (by decide)
      | (have i0 : decide ((0 : Int) ≤ (i : Int)) = true := decide_eq_true (by omega)
         clear h
         go_wp2_with fail
         go_ret
         exact ⟨rfl, hb⟩)
      | (clear h
         go_wp2_with fail
         go_ret
         exact ⟨rfl, hb⟩)
def holdsB (l : List Cho) (ts : List Int) : Bool := decide (1 ≤ ts.length) && (iv ts 0 == 0) && netB (ts.length : Int) l && !ts.any farB && l.all (satB ts)
set_option maxRecDepth 100000 in
theorem djHolds_c (v u : Value) (l : List Cho) (ts : List Int) (w : World) (hs : IsChos w v l) (ha : IsInts w u ts) : Calls Tryz.prog 24 #[v, u] w (Ret w (.bool (holdsB l ts))) := by
  have KV : Hid (∀ X, Below w.heap.size w X → Calls Tryz.prog 18 #[.int .i64 (ts.length : Int), v] X (Ret X (.bool (netB (ts.length : Int) l)))) := Lib.hid fun X h => djValid_c _ v l X (hs.below h)
  have KF : Hid (∀ X, Below w.heap.size w X → Calls Tryz.prog 21 #[u, .func (.func 44) #[] #[]] X (Ret X (.bool (ts.any farB)))) := Lib.hid fun X h => slContainsFar_c u ts X (ha.below h)
  have KS : Hid (∀ X, Below w.heap.size w X → netB (ts.length : Int) l = true → ts.any farB = false → Calls Tryz.prog 45 #[v, u] X (Ret X (.bool (l.all (satB ts))))) := Lib.hid fun X h h1 h2 => by
    unfold netB at h1
    simp only [Bool.and_eq_true, decide_eq_true_eq] at h1
    obtain ⟨⟨⟨_, _⟩, h3⟩, h4⟩ := h1
    refine djsatisfies_c v u l ts X (hs.below h) (ha.below h) h3 (fun i hi => choB_N (List.all_eq_true.1 h4 _ (cho_mem hi))) fun i hi => ?_
    have h5 : farB (iv ts i) = false := by
      rw [Bool.eq_false_iff] at h2 ⊢
      exact fun h6 => h2 (any_yes47 (fun i h => iv_at47 h) hi h6)
    unfold farB at h5
    simp only [Bool.or_eq_false_iff, decide_eq_false_iff_not] at h5
    omega
  obtain ⟨At, ct, rfl, _, _⟩ := ha.form
  obtain ⟨Al, cl, rfl, _, _⟩ : ∃ A c, v = .slice A l.length c ∧ True ∧ True := by
    obtain ⟨S, hs⟩ := hs
    obtain ⟨A, c, h, _⟩ := hs.form
    exact ⟨A, c, h, trivial, trivial⟩
  rcases Nat.eq_zero_or_pos ts.length with h0 | h0
  · have e : holdsB l ts = false := by unfold holdsB; rw [h0]; rfl
    rw [e]
    have n0 : decide ((ts.length : Int) < 1) = true := decide_eq_true (by omega)
    clear hs ha KV KF KS e h0
    go_enter Tryz.func24, Tryz.ntmps24
    go_wp2_with fail
    go_ret
    exact ⟨rfl, Below.refl _ _⟩
  have n0 : decide ((ts.length : Int) < 1) = false := decide_eq_false (by omega)
  have s1 : 0 < ts.length := h0
  have s0 : (0 : Int) < (ts.length : Int) := by omega
  have s2 : ¬ ts = [] := fun h => by rw [h] at s1; cases s1
  obtain ⟨bt, ot, rfl, _⟩ := ha.addr h0
  have c0 := ha.c0 0 h0
  simp only [Nat.add_zero] at c0
  have e1 : holdsB l ts = ((iv ts 0 == 0) && netB (ts.length : Int) l && !ts.any farB && l.all (satB ts)) := by unfold holdsB; rw [decide_eq_true (show 1 ≤ ts.length from h0), Bool.true_and]
  rw [e1]
  clear e1 hs ha h0
  generalize iv ts 0 = t0 at *
  cases q0 : t0 == 0
  · have q0' : (t0 != 0) = true := by rw [bne, q0]; rfl
    go_enter Tryz.func24, Tryz.ntmps24
    go_wp2_with fail
    go_ret
    exact ⟨by simp, Below.refl _ _⟩
  have q0' : (t0 != 0) = false := by rw [bne, q0]; rfl
  cases q1 : netB (ts.length : Int) l
  · rw [q1] at KV
    go_enter Tryz.func24, Tryz.ntmps24
    go_wp2_with fail
    refine (KV.out _ (Below.refl _ _)).mono ?_
    rintro e w1 ⟨rfl, hb⟩
    go_wp2_with fail
    go_ret
    exact ⟨by simp, hb⟩
  cases q2 : ts.any farB
  · rw [q1] at KV
    rw [q2] at KF
    have KS2 := Lib.hid fun X h => KS.out X h q1 q2
    clear KS
    generalize l.all (satB ts) = z at KS2 ⊢
    go_enter Tryz.func24, Tryz.ntmps24
    go_wp2_with fail
    refine (KV.out _ (Below.refl _ _)).mono ?_
    rintro e w1 ⟨rfl, hb⟩
    go_wp2_with fail
    refine (KF.out _ hb).mono ?_
    rintro e w2 ⟨rfl, hb2⟩
    have hb := hb.trans (hb2.mono hb.size)
    clear hb2
    go_wp2_with fail
    refine (KS2.out _ hb).mono ?_
    rintro e w3 ⟨rfl, hb3⟩
    have HF := Lib.hid (hb.trans (hb3.mono hb.size))
    clear hb hb3
    go_wp2_with fail
    go_ret
    exact ⟨by simp, HF.out⟩
  · rw [q1] at KV
    rw [q2] at KF
    go_enter Tryz.func24, Tryz.ntmps24
    go_wp2_with fail
    refine (KV.out _ (Below.refl _ _)).mono ?_
    rintro e w1 ⟨rfl, hb⟩
    go_wp2_with fail
    refine (KF.out _ hb).mono ?_
    rintro e w2 ⟨rfl, hb2⟩
    have hb := hb.trans (hb2.mono hb.size)
    clear hb2
    go_wp2_with fail
    go_ret
    exact ⟨by simp, hb⟩
end Go.Proofs.YtcppcfinnbeboaaGreat
