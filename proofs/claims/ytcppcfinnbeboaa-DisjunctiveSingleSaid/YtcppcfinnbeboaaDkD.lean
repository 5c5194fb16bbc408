/- Law 47: the reference's cut: canonical runs between two numbers. -/
import Derived.Test.YtcppcfinnbeboaaDkN
import Derived.Test.YtcppcfinnbeboaaDjI
import Derived.BigQuiet
namespace Go.Proofs.Ytcppcfinnbeboaa
open Go.RowKit Go.Shelf

theorem mem_any (l : List Sp) (x : Int) : mem l x = l.any (inSp x) := rfl
theorem r47in_c (v : Value) (l : List Sp) (x : Int) (w : World) (hs : IsSpans w v l) (hl : l.length ≤ 100000) : Calls Try.prog 61 #[v, .int .i64 x] w (Ret w (.bool (mem l x))) := by
  obtain ⟨A, c, rfl, hnc, hc⟩ := hs.form
  rw [mem_any]
  go_enter Try.func61, Try.ntmps61
  go_wp2_with fail
  go_loopw [5] (fun i wr => ∃ k : Nat, i = .int .i64 (k : Int) ∧ k ≤ l.length ∧ Hid (∀ j, j < k → inSp x (fr l j, tt l j) = false) ∧ Below w.heap.size w wr) (fun i _ => l.length - (intOf i).toNat)
  case atStart => exact ⟨0, rfl, Nat.zero_le _, Lib.hid (fun j hj => absurd hj (by omega)), Below.refl _ _⟩
  case round =>
    obtain ⟨k, rfl, hk, HA, hb⟩ := hrel
    rcases Nat.lt_or_ge k l.length with hlt | hge
    rotate_left
    · obtain rfl : k = l.length := by omega
      have k0 : decide ((l.length : Int) < (l.length : Int)) = false := decide_eq_false (by omega)
      have HR : Hid (l.any (inSp x) = false) := Lib.hid (any_no47 (fun i h => sp_at l i h) HA.out)
      go_wp2_with fail
      go_ret
      exact ⟨ret_bool HR.out.symm, hb⟩
    have k0 : decide ((k : Int) < (l.length : Int)) = true := decide_eq_true (by omega)
    have k1 : IntKind.i64.wrap ((k : Int) + 1) = (k : Int) + 1 := by rw [IntKind.wrap_i64]; omega
    have k2 : (0 : Int) ≤ (k : Int) := by omega
    have k3 : (k : Int) < (l.length : Int) := by omega
    obtain ⟨b, off, rfl, hbk⟩ := hs.addr (by omega)
    have c0 := (hs.below hb).c0 k hlt
    have c1 := (hs.below hb).c1 k hlt
    have hfd : inSp x (fr l k, tt l k) = true → l.any (inSp x) = true := fun h => any_yes47 (fun i h => sp_at l i h) hlt h
    have hst : inSp x (fr l k, tt l k) = false → ∀ j, j < k + 1 → inSp x (fr l j, tt l j) = false := fun h j hj => by
      rcases Nat.eq_or_lt_of_le (show j ≤ k by omega) with e | e
      · rw [e]; exact h
      · exact HA.out j e
    unfold inSp at hfd hst
    simp only at hfd hst
    generalize fr l k = p at c0 hfd hst
    generalize tt l k = q at c1 hfd hst
    have Hlt := Lib.hid hlt
    clear hbk hlt hk
    cases g1 : decide (p ≤ x)
    · rw [g1] at hst
      have Hst := Lib.hid (hst rfl)
      clear hst hfd
      go_wp2_with fail
      go_roundw
      case rel => exact ⟨k + 1, by go_num, Hlt.out, Hst, hb⟩
      case measure => have := Hlt.out; simp [intOf]; omega
    cases g2 : decide (x < q)
    · rw [g1, g2] at hst
      have Hst := Lib.hid (hst rfl)
      clear hst hfd
      go_wp2_with fail
      go_roundw
      case rel => exact ⟨k + 1, by go_num, Hlt.out, Hst, hb⟩
      case measure => have := Hlt.out; simp [intOf]; omega
    · rw [g1, g2] at hfd
      have Hfd := Lib.hid (hfd rfl)
      clear hst hfd
      go_wp2_with fail
      go_ret
      exact ⟨ret_bool Hfd.out.symm, hb⟩
/-! ### put -/
/-- The state of put behind k numbers. -/
def PutSt (l : List Int) (x : Int) (k : Nat) (out : List Int) (done : Bool) : Prop :=
  (done = false ∧ out = l.take k ∧ ∀ j, j < k → iv l j < x) ∨ (done = true ∧ ∃ i, i < k ∧ (∀ j, j < i → iv l j < x) ∧ x ≤ iv l i ∧ out = if x < iv l i then l.take i ++ [x] ++ (l.drop i).take (k - i) else l.take k)
theorem take_snoc {l : List Int} {k : Nat} (hk : k < l.length) : l.take k ++ [iv l k] = l.take (k + 1) := by rw [List.take_succ_eq_append_getElem hk, iv_at hk]
section
variable {l out : List Int} {x : Int} {k : Nat}
theorem put_first (h : PutSt l x k out false) (hk : k < l.length) (h1 : x < iv l k) : PutSt l x (k + 1) (out ++ [x] ++ [iv l k]) true := by
  rcases h with ⟨_, rfl, h2⟩ | ⟨h, _⟩
  · refine .inr ⟨rfl, k, by omega, h2, by omega, ?_⟩
    rw [if_pos h1, show k + 1 - k = 1 from by omega]
    congr 1
    rw [List.take_one, List.head?_drop, List.getElem?_eq_getElem hk, iv_at hk]
    rfl
  · cases h
theorem put_there (h : PutSt l x k out false) (hk : k < l.length) (h1 : x ≤ iv l k) (h2 : ¬ x < iv l k) : PutSt l x (k + 1) (out ++ [iv l k]) true := by
  rcases h with ⟨_, rfl, h3⟩ | ⟨h, _⟩
  · refine .inr ⟨rfl, k, by omega, h3, h1, ?_⟩
    rw [if_neg h2, take_snoc hk]
  · cases h
theorem put_low (h : PutSt l x k out false) (hk : k < l.length) (h1 : ¬ x ≤ iv l k) : PutSt l x (k + 1) (out ++ [iv l k]) false := by
  rcases h with ⟨_, rfl, h3⟩ | ⟨h, _⟩
  · refine .inl ⟨rfl, take_snoc hk, fun j hj => ?_⟩
    rcases Nat.lt_or_ge j k with h4 | h4
    · exact h3 j h4
    · obtain rfl : j = k := by omega
      omega
  · cases h
theorem put_on (h : PutSt l x k out true) (hk : k < l.length) : PutSt l x (k + 1) (out ++ [iv l k]) true := by
  rcases h with ⟨h, _⟩ | ⟨_, i, hi, h1, h2, rfl⟩
  · cases h
  · refine .inr ⟨rfl, i, by omega, h1, h2, ?_⟩
    split
    · rw [List.append_assoc (l.take i ++ [x])]
      congr 1
      rw [show k + 1 - i = (k - i) + 1 from by omega, List.take_succ_eq_append_getElem (by simp; omega)]
      congr 2
      rw [List.getElem_drop, ← iv_at hk]
      congr 1
      omega
    · exact take_snoc hk
theorem put_len (h : ∃ d, PutSt l x k out d) : out.length ≤ k + 1 := by
  obtain ⟨d, h⟩ := h
  rcases h with ⟨_, rfl, _⟩ | ⟨_, i, hi, _, _, rfl⟩
  · simp; omega
  · split <;> simp <;> omega
theorem put_done (ha : Asc l) (h : PutSt l x l.length out true) : InsSpec l x out := by
  rcases h with ⟨h, _⟩ | ⟨_, i, hi, h1, h2, rfl⟩
  · cases h
  · split
    · rename_i h3
      rw [List.take_of_length_le (l := l.drop i) (by simp)]
      refine ins_here ha (by omega) h1 fun k hk hkl => ?_
      rcases Nat.eq_or_lt_of_le hk with e | e
      · rw [← e]; exact h3
      · have := asc_lt ha e hkl; omega
    · rw [List.take_length]
      refine ins_same ha ?_
      rw [show x = iv l i from by omega]
      exact iv_mem hi
theorem put_last (ha : Asc l) (h : PutSt l x l.length out false) : InsSpec l x (out ++ [x]) := by
  rcases h with ⟨_, rfl, h1⟩ | ⟨h, _⟩
  · have := ins_here (x := x) ha (Nat.le_refl _) h1 fun k hk hkl => absurd hkl (by omega)
    simpa using this
  · cases h
end
set_option maxRecDepth 100000 in
set_option maxHeartbeats 4000000 in
theorem r47put_c (v : Value) (l : List Int) (x : Int) (w : World) (hs : IsInts w v l) (ha : Asc l) (hl : l.length ≤ 100000) : Calls Try.prog 60 #[v, .int .i64 x] w (RetIns w (InsSpec l x)) := by
  obtain ⟨A, c, rfl, hnc, hc⟩ := hs.form
  have Ha := Lib.hid ha
  clear ha
  go_enter Try.func60, Try.ntmps60
  go_wp2_with fail
  go_loopw [5, 6, 7] (fun o d i wr => ∃ (k : Nat) (out : List Int) (dn : Bool), k ≤ l.length ∧ i = .int .i64 (k : Int) ∧ d = .bool dn ∧ Hid (PutSt l x k out dn) ∧ wr.ownsRow w.heap.size 3 1 o out.length (flatI out) ∧ Below w.heap.size w wr) (fun _ _ i _ => l.length - (intOf i).toNat)
  case atStart => exact ⟨0, [], false, Nat.zero_le _, rfl, rfl, Lib.hid (.inl ⟨rfl, rfl, fun j hj => absurd hj (by omega)⟩), own_nilI _ _ _, Below.refl _ _⟩
  case round =>
    obtain ⟨k, out, dn, hk, rfl, rfl, HP, hown, hb⟩ := hrel
    have hol : out.length < 900000000 - 2 := by have := put_len ⟨dn, HP.out⟩; omega
    rcases Nat.lt_or_ge k l.length with hlt | hge
    rotate_left
    · obtain rfl : k = l.length := by omega
      have k0 : decide ((l.length : Int) < (l.length : Int)) = false := decide_eq_false (by omega)
      cases dn
      · have HR := Lib.hid (put_last Ha.out HP.out)
        go_wp2_with (at_builtin; refine append_int tInts tIntInfo (by rfl) _ _ (by rfl) w.heap.size _ out _ (by rfl) hown (by rfl) (by omega) hb.size ?_; intro v3 w3 hown3 hb3; have hb := hb.trans hb3)
        go_ret
        exact ⟨_, _, HR.out, rfl, ints_of_own hown3, hb⟩
      · have HR := Lib.hid (put_done Ha.out HP.out)
        go_wp2_with fail
        go_ret
        exact ⟨_, _, HR.out, rfl, ints_of_own hown, hb⟩
    have k0 : decide ((k : Int) < (l.length : Int)) = true := decide_eq_true (by omega)
    have k1 : IntKind.i64.wrap ((k : Int) + 1) = (k : Int) + 1 := by rw [IntKind.wrap_i64]; omega
    have k2 : (0 : Int) ≤ (k : Int) := by omega
    have k3 : (k : Int) < (l.length : Int) := by omega
    obtain ⟨g, off, rfl, hbk⟩ := hs.addr (by omega)
    have FC : Hid (∀ X, Below w.heap.size w X → X.cell? ⟨g, off + k, none⟩ = some (.int .i64 (iv l k))) := Lib.hid fun X h => (hs.below h).c0 k hlt
    have ck := FC.out _ hb
    cases dn
    · cases g1 : decide (x ≤ iv l k)
      · have HR := Lib.hid (put_low HP.out hlt (of_decide_eq_false g1))
        have Hlt := Lib.hid hlt
        obtain ⟨y, hy⟩ : ∃ y, y = iv l k := ⟨_, rfl⟩
        rw [← hy] at ck HR g1
        clear hbk hlt hk HP hy FC
        go_wp2_with (at_builtin; refine append_int tInts tIntInfo (by rfl) _ _ (by rfl) w.heap.size _ out _ (by rfl) hown (by rfl) (by omega) hb.size ?_; intro v3 w3 hown3 hb3; have hb := hb.trans hb3)
        go_roundw
        case rel => exact ⟨k + 1, _, false, Hlt.out, by go_num, rfl, HR, hown3, hb⟩
        case measure => have := Hlt.out; simp [intOf]; omega
      cases g2 : decide (x < iv l k)
      · have HR := Lib.hid (put_there HP.out hlt (of_decide_eq_true g1) (of_decide_eq_false g2))
        have Hlt := Lib.hid hlt
        obtain ⟨y, hy⟩ : ∃ y, y = iv l k := ⟨_, rfl⟩
        rw [← hy] at ck HR g1 g2
        clear hbk hlt hk HP hy FC
        go_wp2_with (at_builtin; refine append_int tInts tIntInfo (by rfl) _ _ (by rfl) w.heap.size _ out _ (by rfl) hown (by rfl) (by omega) hb.size ?_; intro v3 w3 hown3 hb3; have hb := hb.trans hb3)
        go_roundw
        case rel => exact ⟨k + 1, _, true, Hlt.out, by go_num, rfl, HR, hown3, hb⟩
        case measure => have := Hlt.out; simp [intOf]; omega
      · have HR := Lib.hid (put_first HP.out hlt (of_decide_eq_true g2))
        have Hlt := Lib.hid hlt
        obtain ⟨y, hy⟩ : ∃ y, y = iv l k := ⟨_, rfl⟩
        rw [← hy] at ck HR g1 g2 FC
        clear hbk hlt hk HP hy
        go_wp2_with (at_builtin; first | (refine append_int tInts tIntInfo (by rfl) _ _ (by rfl) w.heap.size _ out _ (by rfl) hown (by rfl) (by omega) hb.size ?_; intro v3 w3 hown3 hb3; have hb3 := hb.trans hb3; have ck3 := FC.out _ hb3) | (refine append_int tInts tIntInfo (by rfl) _ _ (by rfl) w.heap.size _ (out ++ [x]) _ (by rfl) hown3 (by rfl) (by simp; omega) hb3.size ?_; intro v4 w4 hown4 hb4; have hb4 := hb3.trans hb4))
        go_roundw
        case rel => exact ⟨k + 1, _, true, Hlt.out, by go_num, rfl, HR, hown4, hb4⟩
        case measure => have := Hlt.out; simp [intOf]; omega
    · have HR := Lib.hid (put_on HP.out hlt)
      have Hlt := Lib.hid hlt
      obtain ⟨y, hy⟩ : ∃ y, y = iv l k := ⟨_, rfl⟩
      rw [← hy] at ck HR
      clear hbk hlt hk HP hy FC
      go_wp2_with (at_builtin; refine append_int tInts tIntInfo (by rfl) _ _ (by rfl) w.heap.size _ out _ (by rfl) hown (by rfl) (by omega) hb.size ?_; intro v3 w3 hown3 hb3; have hb := hb.trans hb3)
      go_roundw
      case rel => exact ⟨k + 1, _, true, Hlt.out, by go_num, rfl, HR, hown3, hb⟩
      case measure => have := Hlt.out; simp [intOf]; omega
end Go.Proofs.Ytcppcfinnbeboaa
