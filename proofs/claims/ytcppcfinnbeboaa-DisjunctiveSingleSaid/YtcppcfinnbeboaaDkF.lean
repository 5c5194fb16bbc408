/- Law 47: the reference's Same. -/
import Derived.Test.YtcppcfinnbeboaaDkN
import Derived.Test.YtcppcfinnbeboaaDjL
namespace Go.Proofs.Ytcppcfinnbeboaa
open Go.RowKit Go.Shelf

theorem sp_ext {a b : List Sp} (hl : a.length = b.length) (h : ∀ i, i < a.length → fr a i = fr b i ∧ tt a i = tt b i) : a = b := by
  refine List.ext_getElem hl fun i h1 h2 => ?_
  rw [sp_at a i h1, sp_at b i h2, (h i h1).1, (h i h1).2]
def sameC (a b : List Cho) : Bool := decide (a = b)
set_option maxRecDepth 100000 in
set_option maxHeartbeats 8000000 in
theorem r47Same_c (v u : Value) (a b : List Cho) (w : World) (ha : IsChos w v a) (hb : IsChos w u b) (hla : a.length ≤ 100000) (hsp : ∀ i, i < a.length → (cho a i).2.2.length ≤ 100000) : Calls Try.prog 12 #[v, u] w (Ret w (.bool (sameC a b))) := by
  obtain ⟨S, ha⟩ := ha
  obtain ⟨T, hb⟩ := hb
  obtain ⟨A, ca, rfl, _, _⟩ := ha.form
  obtain ⟨B, cb, rfl, _, _⟩ := hb.form
  have Hla := Lib.hid hla; have Hsp := Lib.hid hsp; have Ha := Lib.hid ha; have Hb := Lib.hid hb
  clear ha hb hla hsp
  cases q0 : ((a.length : Int) == (b.length : Int))
  · have q0' : ((a.length : Int) != (b.length : Int)) = true := by rw [bne, q0]; rfl
    have HR : Hid (sameC a b = false) := Lib.hid (by
      unfold sameC
      rw [decide_eq_false_iff_not]
      intro e
      rw [e] at q0
      simp at q0)
    go_enter Try.func12, Try.ntmps12
    go_wp2_with fail
    go_ret
    exact ⟨ret_bool HR.out.symm, Below.refl _ _⟩
  have q0' : ((a.length : Int) != (b.length : Int)) = false := by rw [bne, q0]; rfl
  have hle : a.length = b.length := by rw [beq_iff_eq] at q0; omega
  have Hle := Lib.hid hle
  have HN : Hid (∀ k, k < a.length → cho a k ≠ cho b k → sameC a b = false) := Lib.hid fun k hk h => by
    unfold sameC
    rw [decide_eq_false_iff_not]
    intro e
    exact h (by rw [e])
  have HY : Hid ((∀ k, k < a.length → cho a k = cho b k) → sameC a b = true) := Lib.hid fun h => by
    unfold sameC
    rw [decide_eq_true_iff]
    exact cho_ext hle h
  clear hle
  go_enter Try.func12, Try.ntmps12
  go_wp2_with fail
  clear q0 q0'
  go_loopw [5] (fun i wr => ∃ k : Nat, i = .int .i64 (k : Int) ∧ k ≤ a.length ∧ Hid (∀ j, j < k → cho a j = cho b j) ∧ Below w.heap.size w wr) (fun i _ => a.length - (intOf i).toNat)
  case atStart => exact ⟨0, rfl, Nat.zero_le _, Lib.hid (fun j hj => absurd hj (by omega)), Below.refl _ _⟩
  case round =>
    obtain ⟨k, rfl, hk, HA, hbr⟩ := hrel
    rcases Nat.lt_or_ge k a.length with hlt | hge
    rotate_left
    · obtain rfl : k = a.length := by omega
      have k0 : decide ((a.length : Int) < (a.length : Int)) = false := decide_eq_false (by omega)
      have HR := Lib.hid (HY.out HA.out)
      go_wp2_with fail
      go_ret
      exact ⟨ret_bool HR.out.symm, hbr⟩
    have k0 : decide ((k : Int) < (a.length : Int)) = true := decide_eq_true (by omega)
    have k1 : IntKind.i64.wrap ((k : Int) + 1) = (k : Int) + 1 := by rw [IntKind.wrap_i64]; have := Hla.out; omega
    have k2 : (0 : Int) ≤ (k : Int) := by omega
    have k3 : (k : Int) < (a.length : Int) := by omega
    have k4 : (k : Int) < (b.length : Int) := by have := Hle.out; omega
    have hlb : k < b.length := by have := Hle.out; omega
    have har := Ha.out.below hbr
    have hbr2 := Hb.out.below hbr
    obtain ⟨ga, oa, rfl, _⟩ := har.addr (by omega)
    obtain ⟨gb, ob, rfl, _⟩ := hbr2.addr (by omega)
    have FA : Hid (∀ X, Below w.heap.size w X → X.cell? ⟨ga, oa + k * 3, none⟩ = some (.int .i64 (cho a k).1) ∧ X.cell? ⟨ga, oa + k * 3 + 1, none⟩ = some (.int .i64 (cho a k).2.1) ∧ X.cell? ⟨ga, oa + k * 3 + 2, none⟩ = some (S k) ∧ IsSpans X (S k) (cho a k).2.2) := Lib.hid fun X h => ⟨(Ha.out.below h).c0 k hlt, (Ha.out.below h).c1 k hlt, (Ha.out.below h).c2 k hlt, (Ha.out.below h).2 k hlt⟩
    have FB : Hid (∀ X, Below w.heap.size w X → X.cell? ⟨gb, ob + k * 3, none⟩ = some (.int .i64 (cho b k).1) ∧ X.cell? ⟨gb, ob + k * 3 + 1, none⟩ = some (.int .i64 (cho b k).2.1) ∧ X.cell? ⟨gb, ob + k * 3 + 2, none⟩ = some (T k) ∧ IsSpans X (T k) (cho b k).2.2) := Lib.hid fun X h => ⟨(Hb.out.below h).c0 k hlb, (Hb.out.below h).c1 k hlb, (Hb.out.below h).c2 k hlb, (Hb.out.below h).2 k hlb⟩
    have Hno := Lib.hid (HN.out k hlt)
    have Hye : Hid (cho a k = cho b k → ∀ j, j < k + 1 → cho a j = cho b j) := Lib.hid fun h j hj => by
      rcases Nat.eq_or_lt_of_le (show j ≤ k by omega) with e | e
      · rw [e]; exact h
      · exact HA.out j e
    have Hs5 := Lib.hid (Hsp.out k hlt)
    generalize cho a k = x at *
    generalize cho b k = y at *
    generalize S k = sx at *
    generalize T k = sy at *
    obtain ⟨x0, x1, xs⟩ := x
    obtain ⟨y0, y1, ys⟩ := y
    simp only at FA FB Hs5
    obtain ⟨a0, a1, a2, hxs⟩ := FA.out _ hbr
    obtain ⟨b0, b1, b2, hys⟩ := FB.out _ hbr
    obtain ⟨Ax, cx, rfl, _, _⟩ := hxs.form
    obtain ⟨Ay, cy, rfl, _, _⟩ := hys.form
    have Hlt := Lib.hid hlt; have Hbr := Lib.hid hbr
    clear hlt hbr hk hlb har hbr2 hxs hys
    cases r0 : (x0 == y0)
    · have r0' : (x0 != y0) = true := by rw [bne, r0]; rfl
      have HR := Lib.hid (Hno.out (fun e => by cases e; simp at r0))
      go_wp2_with fail
      go_quiet (fail)
      go_wp2_with fail
      go_ret
      exact ⟨ret_bool HR.out.symm, below_dnL Hbr.out _⟩
    have r0' : (x0 != y0) = false := by rw [bne, r0]; rfl
    cases r1 : (x1 == y1)
    · have r1' : (x1 != y1) = true := by rw [bne, r1]; rfl
      have HR := Lib.hid (Hno.out (fun e => by cases e; simp at r1))
      go_wp2_with fail
      go_quiet (fail)
      go_wp2_with fail
      go_ret
      exact ⟨ret_bool HR.out.symm, below_dnL Hbr.out _⟩
    have r1' : (x1 != y1) = false := by rw [bne, r1]; rfl
    cases r2 : ((xs.length : Int) == (ys.length : Int))
    · have r2' : ((xs.length : Int) != (ys.length : Int)) = true := by rw [bne, r2]; rfl
      have HR := Lib.hid (Hno.out (fun e => by cases e; simp at r2))
      go_wp2_with fail
      go_quiet (fail)
      go_wp2_with fail
      go_ret
      exact ⟨ret_bool HR.out.symm, below_dnL Hbr.out _⟩
    have r2' : ((xs.length : Int) != (ys.length : Int)) = false := by rw [bne, r2]; rfl
    have hll : xs.length = ys.length := by rw [beq_iff_eq] at r2; omega
    have Hll := Lib.hid hll
    have Hye2 : Hid (xs = ys → ∀ j, j < k + 1 → cho a j = cho b j) := Lib.hid fun h => Hye.out (by rw [beq_iff_eq] at r0 r1; rw [r0, r1, h])
    have Hno2 : Hid (xs ≠ ys → sameC a b = false) := Lib.hid fun h => Hno.out (fun e => h (by cases e; rfl))
    clear hll
    go_wp2_with fail
    go_quiet (fail)
    go_wp2_with fail
    clear r0 r0' r1 r1' r2 r2' a0 a1 a2 b0 b1 b2
    go_loopw [6] (fun i wq => ∃ m : Nat, m ≤ xs.length ∧ i = .int .i64 (m : Int) ∧ Hid (∀ j, j < m → fr xs j = fr ys j ∧ tt xs j = tt ys j) ∧ Below w.heap.size w wq) (fun i _ => xs.length - (intOf i).toNat)
    case atStart => exact ⟨0, Nat.zero_le _, rfl, Lib.hid (fun j hj => absurd hj (by omega)), below_dnL Hbr.out _⟩
    case round =>
      obtain ⟨m, hm, rfl, HM, hbm⟩ := hrel
      obtain ⟨_, _, a2, hxm⟩ := FA.out _ hbm
      obtain ⟨_, _, b2, hym⟩ := FB.out _ hbm
      rcases Nat.lt_or_ge m xs.length with hml | hml
      rotate_left
      · obtain rfl : m = xs.length := by omega
        have HR := Lib.hid (Hye2.out (sp_ext Hll.out HM.out))
        have m0 : decide ((xs.length : Int) < (xs.length : Int)) = false := decide_eq_false (by omega)
        have Hbm := Lib.hid hbm
        clear hbm hxm hym hm hml
        go_wp2_with fail
        go_roundw
        case rel => exact ⟨k + 1, by go_num, Hlt.out, HR, Hbm.out⟩
        case measure => have := Hlt.out; simp [intOf]; omega
      have m0 : decide ((m : Int) < (xs.length : Int)) = true := decide_eq_true (by omega)
      have m1 : IntKind.i64.wrap ((m : Int) + 1) = (m : Int) + 1 := by rw [IntKind.wrap_i64]; have := Hs5.out; omega
      have m2 : (0 : Int) ≤ (m : Int) := by omega
      have m3 : (m : Int) < (xs.length : Int) := by omega
      have m4 : (m : Int) < (ys.length : Int) := by have := Hll.out; omega
      obtain ⟨g2, o2, rfl, _⟩ := hxm.addr (by omega)
      obtain ⟨g3, o3, rfl, _⟩ := hym.addr (by have := Hll.out; omega)
      have f0 := hxm.c0 m hml
      have f1 := hxm.c1 m hml
      have f2 := hym.c0 m (by have := Hll.out; omega)
      have f3 := hym.c1 m (by have := Hll.out; omega)
      have hne : ¬ (fr xs m = fr ys m ∧ tt xs m = tt ys m) → sameC a b = false := fun h => Hno2.out fun e => h (by rw [e]; exact ⟨rfl, rfl⟩)
      have heq : (fr xs m = fr ys m ∧ tt xs m = tt ys m) → ∀ j, j < m + 1 → fr xs j = fr ys j ∧ tt xs j = tt ys j := fun h j hj => by
        rcases Nat.eq_or_lt_of_le (show j ≤ m by omega) with e | e
        · rw [e]; exact h
        · exact HM.out j e
      generalize fr xs m = p0 at *
      generalize tt xs m = p1 at *
      generalize fr ys m = p2 at *
      generalize tt ys m = p3 at *
      have Hml := Lib.hid hml; have Hbm := Lib.hid hbm; have Hne := Lib.hid hne; have Heq := Lib.hid heq
      clear hbm hml hxm hym hm hne heq
      by_cases e0 : p0 = p2
      · by_cases e1 : p1 = p3
        · have HR := Lib.hid (Heq.out ⟨e0, e1⟩)
          subst e0 e1
          go_wp2_with fail
          go_quiet (fail)
          go_wp2_with fail
          go_roundw
          case rel => exact ⟨m + 1, Hml.out, by go_num, HR, below_dnL Hbm.out _⟩
          case measure => have := Hml.out; simp [intOf]; omega
        · have HR := Lib.hid (Hne.out (fun h => e1 h.2))
          subst e0
          have e1' : (p1 == p3) = false := by simpa using e1
          go_wp2_with fail
          go_quiet (fail)
          go_wp2_with fail
          go_ret
          exact ⟨ret_bool HR.out.symm, below_dnL Hbm.out _⟩
      · have HR := Lib.hid (Hne.out (fun h => e0 h.1))
        have e0' : (p0 == p2) = false := by simpa using e0
        go_wp2_with fail
        go_quiet (fail)
        go_wp2_with fail
        go_ret
        exact ⟨ret_bool HR.out.symm, below_dnL Hbm.out _⟩
end Go.Proofs.Ytcppcfinnbeboaa
