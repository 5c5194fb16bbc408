/- Measures and ranks of canonical lists count numbers; so they add up as the numbers do. Plain laws. -/
import Derived.Test.YthnikjmdnhlneaaRunsT
import Derived.Test.YthnikjmdnhlneaaRunsQ
namespace Go.Proofs.Ythnikjmdnhlneaa

def cnt (f : Int → Bool) (lo : Int) : Nat → Int
  | 0 => 0
  | n + 1 => cnt f lo n + if f (lo + n) then 1 else 0
theorem cnt_sum {f g h k : Int → Bool} (lo : Int) (hp : ∀ y, ((if f y then 1 else 0 : Int) + if g y then 1 else 0) = (if h y then 1 else 0) + if k y then 1 else 0) : ∀ n, cnt f lo n + cnt g lo n = cnt h lo n + cnt k lo n
  | 0 => rfl
  | n + 1 => by
    have h1 := cnt_sum lo hp n
    have h2 := hp (lo + n)
    simp only [cnt]; omega
theorem cnt_none {f : Int → Bool} (lo : Int) (hp : ∀ y, f y = false) : ∀ n, cnt f lo n = 0
  | 0 => rfl
  | n + 1 => by simp [cnt, cnt_none lo hp n, hp]
theorem cnt_span {lo a b : Int} (ha : lo ≤ a) (hab : a < b) : ∀ n : Nat, cnt (fun x => decide (a ≤ x) && decide (x < b)) lo n = if a < lo + n then min b (lo + n) - a else 0
  | 0 => by rw [if_neg (by omega)]; rfl
  | n + 1 => by
    have ih := cnt_span ha hab n
    simp only [cnt, ih]
    by_cases h1 : a ≤ lo + n <;> by_cases h2 : lo + n < b <;> simp only [h1, h2, decide_true, decide_false, Bool.and_true, Bool.and_false, Bool.false_and, if_true, Bool.false_eq_true, if_false]
    all_goals (repeat' split) <;> omega
theorem rank_cnt : ∀ {l : List Sp}, Canon l → ∀ n : Nat, rankL (-4398046511104 + n) l = cnt (mem l) (-4398046511104) n
  | [], _, n => by rw [cnt_none (f := mem []) _ (fun _ => rfl)]; rfl
  | s :: l, h, n => by
    have hs := (canon_head h).1
    unfold OkSp at hs
    have ih := rank_cnt (canon_tail h) n
    have h1 := cnt_span (lo := -4398046511104) hs.1 hs.2.1 n
    have h2 := cnt_sum (f := mem (s :: l)) (g := fun _ => false) (h := fun x => decide (s.1 ≤ x) && decide (x < s.2)) (k := mem l) (-4398046511104) (fun y => by
      rw [mem_cons]
      cases hm : mem l y
      · simp
      · have := mem_tail h hm
        have e : (decide (s.1 ≤ y) && decide (y < s.2)) = false := by simp; omega
        simp [e]) n
    rw [cnt_none _ (fun _ => rfl)] at h2
    simp only [rankL, ih]
    omega
theorem rank_low {l : List Sp} (h : Canon l) {x : Int} (hx : x ≤ -4398046511104) : rankL x l = 0 := by
  induction l with
  | nil => rfl
  | cons s l ih =>
    have hs := (canon_head h).1
    unfold OkSp at hs
    simp only [rankL, ih (canon_tail h)]
    rw [if_neg (by omega)]; rfl
theorem rank_meas {l : List Sp} (h : Canon l) {x : Int} (hx : 4398046511104 ≤ x) : rankL x l = measL l := by
  induction l with
  | nil => rfl
  | cons s l ih =>
    have hs := (canon_head h).1
    unfold OkSp at hs
    simp only [rankL, measL, ih (canon_tail h)]
    rw [if_pos (by omega), Int.min_eq_left (by omega)]
theorem rank_nonneg (x : Int) : ∀ l : List Sp, (∀ s ∈ l, OkSp s) → 0 ≤ rankL x l ∧ rankL x l ≤ measL l
  | [], _ => ⟨Int.le_refl _, Int.le_refl _⟩
  | s :: l, h => by
    have ih := rank_nonneg x l (fun t ht => h t (by simp [ht]))
    have hs := h s (by simp)
    unfold OkSp at hs
    simp only [rankL, measL]
    split <;> omega
theorem meas_bound : ∀ l : List Sp, (∀ s ∈ l, OkSp s) → 0 ≤ measL l ∧ measL l ≤ 8796093022208 * l.length
  | [], _ => ⟨Int.le_refl _, by simp [measL]⟩
  | s :: l, h => by
    have ih := meas_bound l (fun t ht => h t (by simp [ht]))
    have hs := h s (by simp)
    unfold OkSp at hs
    simp only [measL, List.length_cons]
    omega
/-- Ranks add up where the numbers do. -/
theorem rank_sum {a b c d : List Sp} (ha : Canon a) (hb : Canon b) (hc : Canon c) (hd : Canon d)
    (hp : ∀ y, ((if mem a y then 1 else 0 : Int) + if mem b y then 1 else 0) = (if mem c y then 1 else 0) + if mem d y then 1 else 0) (x : Int) : rankL x a + rankL x b = rankL x c + rankL x d := by
  rcases Int.le_total x (-4398046511104) with h | h
  · rw [rank_low ha h, rank_low hb h, rank_low hc h, rank_low hd h]
  · have hx : x = -4398046511104 + ((x + 4398046511104).toNat : Int) := by omega
    rw [hx, rank_cnt ha, rank_cnt hb, rank_cnt hc, rank_cnt hd]
    exact cnt_sum _ hp _
theorem meas_sum {a b c d : List Sp} (ha : Canon a) (hb : Canon b) (hc : Canon c) (hd : Canon d)
    (hp : ∀ y, ((if mem a y then 1 else 0 : Int) + if mem b y then 1 else 0) = (if mem c y then 1 else 0) + if mem d y then 1 else 0) : measL a + measL b = measL c + measL d := by
  have := rank_sum ha hb hc hd hp 4398046511104
  rwa [rank_meas ha (Int.le_refl _), rank_meas hb (Int.le_refl _), rank_meas hc (Int.le_refl _), rank_meas hd (Int.le_refl _)] at this
end Go.Proofs.Ythnikjmdnhlneaa
