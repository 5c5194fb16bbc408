/- Law 39: sums of values over the spans of a normal list. Plain law. -/
import Derived.Test.YtohjgegnamcnlaaGreatAhi
namespace Go.Proofs.YtohjgegnamcnlaaGreat
open Go.RowKit Go.Shelf

theorem intg_add (f : Int → Int) (a : Int) (m : Nat) : ∀ n : Nat, intg f a (m + n) = intg f a m + intg f (a + m) n
  | 0 => by show intg f a m = intg f a m + 0; omega
  | n + 1 => by
    show intg f a (m + n) + f (a + ((m + n : Nat) : Int)) = intg f a m + (intg f (a + m) n + f (a + m + n))
    rw [intg_add f a m n, show a + ((m + n : Nat) : Int) = a + m + n by omega]
    omega
theorem intg_bound {f : Int → Int} {B : Int} (h : ∀ t, -B ≤ f t ∧ f t ≤ B) (a : Int) : ∀ n : Nat, -(B * n) ≤ intg f a n ∧ intg f a n ≤ B * n
  | 0 => by simp [intg]
  | n + 1 => by
    have h1 := intg_bound h a n
    have h2 := h (a + n)
    have e : B * ((n + 1 : Nat) : Int) = B * n + B := by rw [Int.natCast_add, Int.mul_add]; simp
    show -(B * ((n + 1 : Nat) : Int)) ≤ intg f a n + f (a + n) ∧ intg f a n + f (a + n) ≤ B * ((n + 1 : Nat) : Int)
    rw [e]
    omega
theorem intg_congr {f g : Int → Int} (h : ∀ t, f t = g t) (a : Int) (n : Nat) : intg f a n = intg g a n := by
  have : f = g := funext h
  rw [this]
theorem totF_split (F : List Fct) (col : Nat) {a b c : Int} (h1 : a < b) (h2 : b < c) : totF F col (a, b) + totF F col (b, c) = totF F col (a, c) := by
  unfold totF
  have e : (c - a).toNat = (b - a).toNat + (c - b).toNat := by omega
  show intg _ a (b - a).toNat + intg _ b (c - b).toNat = intg _ a (c - a).toNat
  rw [e, intg_add, show a + ((b - a).toNat : Int) = b by omega]
/-! ### values on spans -/
abbrev SpV := Sp × Int
def sI (a : Int) (n : Nat) : List SpV → Int
  | [] => 0
  | x :: l => x.2 * clipC x.1 a n + sI a n l
def sP (t : Int) : List SpV → Int
  | [] => 0
  | x :: l => (if inS x.1 t = true then x.2 else 0) + sP t l
theorem sI_append (a : Int) (n : Nat) : ∀ k l : List SpV, sI a n (k ++ l) = sI a n k + sI a n l
  | [], l => by simp [sI]
  | x :: k, l => by
    show x.2 * clipC x.1 a n + sI a n (k ++ l) = x.2 * clipC x.1 a n + sI a n k + sI a n l
    rw [sI_append a n k l]
    omega
theorem sI_intg (a : Int) (l : List SpV) : ∀ n : Nat, sI a n l = intg (fun t => sP t l) a n
  | 0 => by
    induction l with
    | nil => rfl
    | cons x l ih =>
      show x.2 * clipC x.1 a 0 + sI a 0 l = 0
      have e : clipC x.1 a 0 = 0 := by unfold clipC; omega
      rw [ih, e, Int.mul_zero]
      rfl
  | n + 1 => by
    have key : ∀ k : List SpV, sI a (n + 1) k = sI a n k + sP (a + n) k := fun k => by
      induction k with
      | nil => rfl
      | cons x k ih =>
        show x.2 * clipC x.1 a (n + 1) + sI a (n + 1) k = x.2 * clipC x.1 a n + sI a n k + ((if inS x.1 (a + n) = true then x.2 else 0) + sP (a + n) k)
        rw [ih, clip_succ, Int.mul_add]
        split
        · rw [Int.mul_one]; omega
        · rw [Int.mul_zero]; omega
    rw [key, sI_intg a l n]
    rfl
theorem sP_none (t : Int) : ∀ l : List SpV, (∀ x ∈ l, inS x.1 t = false) → sP t l = 0
  | [], _ => rfl
  | x :: l, h => by
    show (if inS x.1 t = true then x.2 else 0) + sP t l = 0
    rw [sP_none t l fun y hy => h y (by simp [hy]), h x (by simp)]
    rfl
theorem sP_one (t : Int) : ∀ (l : List SpV) (x : SpV), l.Pairwise (fun x y => ¬ (inS x.1 t = true ∧ inS y.1 t = true)) → x ∈ l → inS x.1 t = true → sP t l = x.2
  | [], _, _, h, _ => absurd h (by simp)
  | y :: l, x, hp, hm, ht => by
    obtain ⟨h1, h2⟩ := List.pairwise_cons.1 hp
    show (if inS y.1 t = true then y.2 else 0) + sP t l = x.2
    rcases List.mem_cons.1 hm with e | e
    · subst e
      rw [if_pos ht, sP_none t l fun z hz => by
        cases q : inS z.1 t
        · rfl
        · exact absurd ⟨ht, q⟩ (h1 z hz)]
      omega
    · have hy : inS y.1 t = false := by
        cases q : inS y.1 t
        · rfl
        · exact absurd ⟨q, ht⟩ (h1 x e)
      rw [hy, sP_one t l x h2 e ht]
      simp
theorem sP_bound {B : Int} (hB : 0 ≤ B) {t : Int} {l : List SpV} (hp : l.Pairwise fun x y => ¬ (inS x.1 t = true ∧ inS y.1 t = true)) (hb : ∀ x ∈ l, -B ≤ x.2 ∧ x.2 ≤ B) : -B ≤ sP t l ∧ sP t l ≤ B := by
  by_cases h : ∃ x ∈ l, inS x.1 t = true
  · obtain ⟨x, hx, ht⟩ := h
    rw [sP_one t l x hp hx ht]
    exact hb x hx
  · rw [sP_none t l fun x hx => by
      cases q : inS x.1 t
      · rfl
      · exact absurd ⟨x, hx, q⟩ h]
    omega
/-- Facts of one row in a normal list follow each other. -/
theorem norm_apart {A : List Fct} {D : VRow → Int → Prop} (h : NormOf A D) : A.Pairwise fun f g => f.1 = g.1 → f.2.2 < g.2.1 := by
  rw [List.pairwise_iff_forall_sublist]
  intro f g hs e
  have h1 := (h.can f.1).2
  rw [List.pairwise_map] at h1
  have h2 : [f, g].Sublist (A.filter fun x => decide (x.1 = f.1)) := by
    have := hs.filter (fun x => decide (x.1 = f.1))
    have e2 : [f, g].filter (fun x => decide (x.1 = f.1)) = [f, g] := by
      rw [List.filter_eq_self]
      intro x hx
      simp only [List.mem_cons, List.not_mem_nil, or_false] at hx
      rcases hx with rfl | rfl
      · simp
      · simpa using e.symm
    rw [e2] at this
    exact this
  exact List.pairwise_iff_forall_sublist.1 h1 h2
theorem norm_mem_ok {A : List Fct} {D : VRow → Int → Prop} (h : NormOf A D) : ∀ f ∈ A, OkSp f.2 := fun f hf =>
  (h.can f.1).1 f.2 (List.mem_map.2 ⟨f, List.mem_filter.2 ⟨hf, decide_eq_true rfl⟩, rfl⟩)
/-- The facts of a list, as values on spans: the first column's number. -/
def spvs (A : List Fct) : List SpV := A.map fun f => (f.2, (va f.1 0).2.1)
/-- Where at most one row holds at a time, the spans are apart. -/
theorem spvs_apart {A : List Fct} {D : VRow → Int → Prop} (h : NormOf A D) (hD : ∀ t r s, D r t → D s t → r = s) (t : Int) : (spvs A).Pairwise fun x y => ¬ (inS x.1 t = true ∧ inS y.1 t = true) := by
  unfold spvs
  rw [List.pairwise_map]
  refine (List.Pairwise.and_mem.1 (norm_apart h)).imp ?_
  rintro f g ⟨hf, hg, hfg⟩ ⟨h1, h2⟩
  have hin : ∀ {q : Sp}, inS q t = true ↔ q.1 ≤ t ∧ t < q.2 := fun {q} => by unfold inS; simp
  have k1 := hin.1 h1
  have k2 := hin.1 h2
  simp only at k1 k2
  have e := hD t f.1 g.1 ((h.pts _ _).1 ⟨f, hf, rfl, k1⟩) ((h.pts _ _).1 ⟨g, hg, rfl, k2⟩)
  have := hfg e
  omega
/-! ### the sums of a column over time -/
theorem grp_all {ks : List Int} {fn : Int} {col : Nat} {R : List VRow} {x : VRow} (hks : ks = []) : OutIn ks fn col R x ↔ R ≠ [] ∧ x = [(resR fn col R).1] := by
  subst hks
  have hm : memG [] R ([] : VRow) = R := by unfold memG pickR; simp
  have ho : ∀ r, outR [] fn col R (pickR r []) = [(resR fn col R).1] := fun r => by
    show [] ++ [(resR fn col (memG [] R [])).1] = _
    rw [hm]
    rfl
  unfold OutIn
  constructor
  · rintro ⟨r, hr, e⟩
    exact ⟨List.ne_nil_of_mem hr, e.trans (ho r)⟩
  · rintro ⟨h, e⟩
    obtain ⟨r, hr⟩ := List.exists_mem_of_ne_nil R h
    exact ⟨r, hr, e.trans (ho r).symm⟩
theorem grp_one {F : List Fct} {fn : Int} {col : Nat} {t : Int} {r s : VRow} (h1 : DGrp F [] fn col r t) (h2 : DGrp F [] fn col s t) : r = s :=
  ((grp_all rfl).1 h1).2.trans ((grp_all rfl).1 h2).2.symm
theorem sum_res {col : Nat} {R : List VRow} (h : -9223372036854775808 ≤ sumI (colN R col) ∧ sumI (colN R col) ≤ 9223372036854775807) : (resR 2 col R).1 = (1, sumI (colN R col), ⟨#[]⟩) := by
  unfold resR
  rw [if_neg (by decide), if_pos rfl]
  unfold resS
  rw [if_pos h]
/-- The sums of a column over time are a normal list's values on its spans. -/
theorem sP_sum {F A : List Fct} {col : Nat} (h : NormOf A (DGrp F [] 2 col)) (hr : ∀ t, -9223372036854775808 ≤ sumAtT F col t ∧ sumAtT F col t ≤ 9223372036854775807) (t : Int) : sP t (spvs A) = sumAtT F col t := by
  have hin : ∀ {q : Sp}, inS q t = true ↔ q.1 ≤ t ∧ t < q.2 := fun {q} => by unfold inS; simp
  by_cases hR : rowsAt F t = []
  · rw [sP_none]
    · unfold sumAtT; rw [hR]; rfl
    · intro x hx
      obtain ⟨f, hf, rfl⟩ := List.mem_map.1 hx
      cases q : inS f.2 t
      · rfl
      · have := (h.pts f.1 t).1 ⟨f, hf, rfl, hin.1 q⟩
        exact absurd hR ((grp_all rfl).1 this).1
  · have hd : DGrp F [] 2 col [(resR 2 col (rowsAt F t)).1] t := (grp_all rfl).2 ⟨hR, rfl⟩
    obtain ⟨f, hf, e, h1⟩ := (h.pts _ _).2 hd
    rw [sP_one t (spvs A) (f.2, (va f.1 0).2.1) (spvs_apart h (fun t r s => grp_one) t) (List.mem_map.2 ⟨f, hf, rfl⟩) (hin.2 h1)]
    show (va f.1 0).2.1 = _
    rw [e, sum_res (hr t)]
    rfl
theorem rows_len1 {F A : List Fct} {fn : Int} {col : Nat} (h : NormOf A (DGrp F [] fn col)) : ∀ f ∈ A, f.1.length = 1 := fun f hf => by
  have hs := norm_mem_ok h f hf
  unfold OkSp at hs
  have := (h.pts f.1 f.2.1).1 ⟨f, hf, rfl, Int.le_refl _, hs.2.1⟩
  rw [((grp_all rfl).1 this).2]
  rfl
theorem sI_sum {F A : List Fct} {col : Nat} (h : NormOf A (DGrp F [] 2 col)) (hr : ∀ t, -9223372036854775808 ≤ sumAtT F col t ∧ sumAtT F col t ≤ 9223372036854775807) (q : Sp) : sI q.1 (q.2 - q.1).toNat (spvs A) = totF F col q := by
  rw [sI_intg]
  exact intg_congr (sP_sum h hr) _ _
/-- Bounds: values of at most B, on spans that are apart. -/
theorem sI_bound {A : List Fct} {D : VRow → Int → Prop} (h : NormOf A D) (hD : ∀ t r s, D r t → D s t → r = s) {B : Int} (hB : 0 ≤ B) (hb : ∀ x ∈ spvs A, -B ≤ x.2 ∧ x.2 ≤ B) (a : Int) (n k : Nat) : -(B * n) ≤ sI a n ((spvs A).take k) ∧ sI a n ((spvs A).take k) ≤ B * n := by
  rw [sI_intg]
  exact intg_bound (fun t => sP_bound hB ((spvs_apart h hD t).sublist (List.take_sublist _ _)) fun x hx => hb x (List.mem_of_mem_take hx)) a n
/-- A column's sum at a time is bounded by the numbers of the facts. -/
theorem sumI_bound {B : Int} : ∀ l : List Int, (∀ x ∈ l, -B ≤ x ∧ x ≤ B) → -(B * l.length) ≤ sumI l ∧ sumI l ≤ B * l.length
  | [], _ => by simp [sumI]
  | x :: l, h => by
    have h1 := sumI_bound l fun y hy => h y (by simp [hy])
    have h2 := h x (by simp)
    have e : B * ((l.length + 1 : Nat) : Int) = B * l.length + B := by rw [Int.natCast_add, Int.mul_add]; simp
    show -(B * ((l.length + 1 : Nat) : Int)) ≤ x + sumI l ∧ x + sumI l ≤ B * ((l.length + 1 : Nat) : Int)
    rw [e]
    omega
theorem rowsN_len (F : List Fct) (t : Int) : ∀ k, (rowsN F t k).length ≤ k
  | 0 => Nat.le_refl _
  | k + 1 => by
    have := rowsN_len F t k
    rw [rowsN_succ]
    split
    · simp; omega
    · omega
end Go.Proofs.YtohjgegnamcnlaaGreat
