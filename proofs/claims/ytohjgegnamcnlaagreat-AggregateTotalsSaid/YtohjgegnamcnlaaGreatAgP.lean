/- Law 39: values, rows, their order; lists of facts in normal form (plain). -/
import Derived.Test.YtohjgegnamcnlaaGreatPre
namespace Go.Proofs.YtohjgegnamcnlaaGreat
open Go.RowKit Go.Shelf

abbrev Val := Int × Int × ByteArray
abbrev VRow := List Val
abbrev Fct := VRow × Sp
/-! ### orders -/
structure TOrd {α : Type} (c : α → α → Int) : Prop where
  anti : ∀ a b, c a b = -(c b a)
  eq : ∀ a b, c a b = 0 ↔ a = b
  trans : ∀ a b d, c a b < 0 → c b d < 0 → c a d < 0
def sgI (a b : Int) : Int := if a < b then -1 else if b < a then 1 else 0
theorem ordI : TOrd sgI where
  anti := fun a b => by unfold sgI; split <;> split <;> (try split) <;> omega
  eq := fun a b => by unfold sgI; split <;> (try split) <;> omega
  trans := fun a b d => by unfold sgI; intro h1 h2; split at h1 <;> (try split at h1) <;> split at h2 <;> (try split at h2) <;> omega
def bLt (a b : ByteArray) : Bool := Op.bytesLess a.data.toList b.data.toList
def sgS (a b : ByteArray) : Int := if bLt a b then -1 else if bLt b a then 1 else 0
theorem lt_irr : ∀ l : List UInt8, Op.bytesLess l l = false
  | [] => rfl
  | a :: l => by simp [Op.bytesLess, lt_irr l]
theorem lt_tri : ∀ a b : List UInt8, Op.bytesLess a b = false → Op.bytesLess b a = false → a = b
  | [], [], _, _ => rfl
  | [], _ :: _, h, _ => by simp [Op.bytesLess] at h
  | _ :: _, [], _, h => by simp [Op.bytesLess] at h
  | a :: x, b :: y, h1, h2 => by
    simp only [Op.bytesLess, Bool.or_eq_false_iff, Bool.and_eq_false_imp, decide_eq_false_iff_not, beq_iff_eq] at h1 h2
    have e : a = b := by
      have h3 := h1.1
      have h4 := h2.1
      rw [UInt8.lt_iff_toNat_lt] at h3 h4
      exact UInt8.toNat_inj.1 (by omega)
    subst e
    rw [lt_tri x y (h1.2 rfl) (h2.2 rfl)]
theorem lt_asym : ∀ a b : List UInt8, Op.bytesLess a b = true → Op.bytesLess b a = false
  | _, [], h => by simp [Op.bytesLess] at h
  | [], _ :: _, _ => rfl
  | a :: x, b :: y, h => by
    simp only [Op.bytesLess, Bool.or_eq_true, Bool.and_eq_true, decide_eq_true_eq, beq_iff_eq] at h
    simp only [Op.bytesLess, Bool.or_eq_false_iff, Bool.and_eq_false_imp, decide_eq_false_iff_not, beq_iff_eq]
    rcases h with h | ⟨rfl, h⟩
    · rw [UInt8.lt_iff_toNat_lt] at h
      refine ⟨fun h2 => ?_, fun e => ?_⟩
      · rw [UInt8.lt_iff_toNat_lt] at h2; omega
      · subst e; omega
    · refine ⟨fun h2 => ?_, fun _ => lt_asym x y h⟩
      rw [UInt8.lt_iff_toNat_lt] at h2; omega
theorem lt_trans : ∀ a b d : List UInt8, Op.bytesLess a b = true → Op.bytesLess b d = true → Op.bytesLess a d = true
  | _, [], _, h, _ => by simp [Op.bytesLess] at h
  | _, _ :: _, [], _, h => by simp [Op.bytesLess] at h
  | [], _ :: _, _ :: _, _, _ => rfl
  | a :: x, b :: y, d :: z, h1, h2 => by
    simp only [Op.bytesLess, Bool.or_eq_true, Bool.and_eq_true, decide_eq_true_eq, beq_iff_eq, UInt8.lt_iff_toNat_lt] at h1 h2 ⊢
    rcases h1 with h1 | ⟨rfl, h1⟩
    · rcases h2 with h2 | ⟨rfl, h2⟩
      · exact .inl (by omega)
      · exact .inl h1
    · rcases h2 with h2 | ⟨rfl, h2⟩
      · exact .inl h2
      · exact .inr ⟨rfl, lt_trans x y z h1 h2⟩
theorem bytes_ext {a b : ByteArray} (h : a.data.toList = b.data.toList) : a = b := by
  cases a
  cases b
  congr 1
  exact Array.toList_inj.1 h
theorem ordS : TOrd sgS where
  anti := fun a b => by
    unfold sgS bLt
    cases h1 : Op.bytesLess a.data.toList b.data.toList
    · cases h2 : Op.bytesLess b.data.toList a.data.toList <;> simp
    · rw [lt_asym _ _ h1]; simp
  eq := fun a b => by
    unfold sgS bLt
    constructor
    · intro h
      cases h1 : Op.bytesLess a.data.toList b.data.toList
      · cases h2 : Op.bytesLess b.data.toList a.data.toList
        · exact bytes_ext (lt_tri _ _ h1 h2)
        · rw [h1, h2] at h; simp at h
      · rw [h1] at h; simp at h
    · rintro rfl
      rw [lt_irr]; simp
  trans := fun a b d => by
    unfold sgS bLt
    intro h1 h2
    cases e1 : Op.bytesLess a.data.toList b.data.toList
    · rw [e1] at h1; simp only [Bool.false_eq_true, if_false] at h1; split at h1 <;> omega
    · cases e2 : Op.bytesLess b.data.toList d.data.toList
      · rw [e2] at h2; simp only [Bool.false_eq_true, if_false] at h2; split at h2 <;> omega
      · rw [lt_trans _ _ _ e1 e2]; simp
def lexC {α β : Type} (c : α → α → Int) (d : β → β → Int) (x y : α × β) : Int := if c x.1 y.1 ≠ 0 then c x.1 y.1 else d x.2 y.2
theorem TOrd.lex {α β : Type} {c : α → α → Int} {d : β → β → Int} (h : TOrd c) (k : TOrd d) : TOrd (lexC c d) where
  anti := fun a b => by
    have h1 := h.anti a.1 b.1
    have h2 := k.anti a.2 b.2
    unfold lexC
    split <;> split <;> omega
  eq := fun a b => by
    unfold lexC
    constructor
    · intro e
      by_cases q : c a.1 b.1 = 0
      · rw [if_neg (by omega)] at e
        exact Prod.ext ((h.eq _ _).1 q) ((k.eq _ _).1 e)
      · rw [if_pos q] at e
        exact absurd e q
    · rintro rfl
      rw [(h.eq _ _).2 rfl, if_neg (by omega)]
      exact (k.eq _ _).2 rfl
  trans := fun a b e => by
    unfold lexC
    intro h1 h2
    by_cases q1 : c a.1 b.1 = 0
    · rw [if_neg (by omega)] at h1
      have e1 := (h.eq _ _).1 q1
      by_cases q2 : c b.1 e.1 = 0
      · rw [if_neg (by omega)] at h2
        have e2 := (h.eq _ _).1 q2
        rw [if_neg (by rw [e1, q2]; omega)]
        exact k.trans _ _ _ h1 h2
      · rw [if_pos q2] at h2
        rw [e1, if_pos q2]
        exact h2
    · rw [if_pos q1] at h1
      by_cases q2 : c b.1 e.1 = 0
      · have e2 := (h.eq _ _).1 q2
        rw [← e2, if_pos q1]
        exact h1
      · rw [if_pos q2] at h2
        have := h.trans _ _ _ h1 h2
        rw [if_pos (by omega)]
        exact this
def cmpV (a b : Val) : Int := lexC sgI (lexC sgI sgS) a b
theorem ordV : TOrd cmpV := ordI.lex (ordI.lex ordS)
def cmpL {α : Type} (c : α → α → Int) : List α → List α → Int
  | [], [] => 0
  | [], _ :: _ => -1
  | _ :: _, [] => 1
  | a :: x, b :: y => if c a b ≠ 0 then c a b else cmpL c x y
section
variable {α : Type} {c : α → α → Int}
theorem TOrd.list (h : TOrd c) : TOrd (cmpL c) where
  anti := fun a => by
    induction a with
    | nil => intro b; cases b <;> rfl
    | cons a x ih =>
      intro b
      cases b with
      | nil => rfl
      | cons b y =>
        have h1 := h.anti a b
        have h2 := ih y
        unfold cmpL
        split <;> split <;> omega
  eq := fun a => by
    induction a with
    | nil => intro b; cases b <;> simp [cmpL]
    | cons a x ih =>
      intro b
      cases b with
      | nil => simp [cmpL]
      | cons b y =>
        unfold cmpL
        constructor
        · intro e
          by_cases q : c a b = 0
          · rw [if_neg (by omega)] at e
            rw [(h.eq _ _).1 q, (ih y).1 e]
          · rw [if_pos q] at e
            exact absurd e q
        · intro e
          injection e with e1 e2
          rw [(h.eq _ _).2 e1, if_neg (by omega)]
          exact (ih y).2 e2
  trans := fun a => by
    induction a with
    | nil =>
      intro b d h1 h2
      cases b with
      | nil => cases d <;> simp_all [cmpL]
      | cons b y => cases d <;> simp_all [cmpL]
    | cons a x ih =>
      intro b d h1 h2
      cases b with
      | nil => simp [cmpL] at h1
      | cons b y =>
        cases d with
        | nil => simp [cmpL] at h2
        | cons d z =>
          unfold cmpL at h1 h2 ⊢
          by_cases q1 : c a b = 0
          · rw [if_neg (by omega)] at h1
            have e1 := (h.eq _ _).1 q1
            by_cases q2 : c b d = 0
            · rw [if_neg (by omega)] at h2
              rw [e1, if_neg (by omega)]
              exact ih y z h1 h2
            · rw [if_pos q2] at h2
              rw [e1, if_pos q2]
              exact h2
          · rw [if_pos q1] at h1
            by_cases q2 : c b d = 0
            · have e2 := (h.eq _ _).1 q2
              rw [← e2, if_pos q1]
              exact h1
            · rw [if_pos q2] at h2
              have := h.trans _ _ _ h1 h2
              rw [if_pos (by omega)]
              exact this
theorem TOrd.refl (h : TOrd c) (a : α) : c a a = 0 := (h.eq a a).2 rfl
end
def cmpR (a b : VRow) : Int := cmpL cmpV a b
theorem ordR : TOrd cmpR := ordV.list
def cmpF (a b : Fct) : Int := lexC cmpR sgI (a.1, a.2.1) (b.1, b.2.1)
/-! ### lists of facts in normal form -/
structure NormOf (A : List Fct) (D : VRow → Int → Prop) : Prop where
  srt : A.Pairwise fun a b => cmpF a b < 0
  can : ∀ v, Canon ((A.filter fun f => decide (f.1 = v)).map (·.2))
  pts : ∀ v t, (∃ f ∈ A, f.1 = v ∧ f.2.1 ≤ t ∧ t < f.2.2) ↔ D v t
theorem cmpF_trans {a b d : Fct} (h : cmpF a b < 0) (k : cmpF b d < 0) : cmpF a d < 0 := (ordR.lex ordI).trans _ _ _ h k
theorem cmpF_asym {a b : Fct} (h : cmpF a b < 0) : ¬ cmpF b a < 0 := fun k => by
  have := (ordR.lex ordI).anti (a.1, a.2.1) (b.1, b.2.1)
  unfold cmpF at h k
  omega
theorem cmpF_irr (a : Fct) : ¬ cmpF a a < 0 := fun h => cmpF_asym h h
theorem sorted_ext {α : Type} {r : α → α → Prop} (hi : ∀ a, ¬ r a a) (ha : ∀ a b, r a b → ¬ r b a) : ∀ {A B : List α}, A.Pairwise r → B.Pairwise r → (∀ x, x ∈ A ↔ x ∈ B) → A = B
  | [], [], _, _, _ => rfl
  | [], b :: B, _, _, h => absurd ((h b).2 (List.mem_cons_self ..)) (by simp)
  | a :: A, [], _, _, h => absurd ((h a).1 (List.mem_cons_self ..)) (by simp)
  | a :: A, b :: B, hA, hB, h => by
    obtain ⟨a1, a2⟩ := List.pairwise_cons.1 hA
    obtain ⟨b1, b2⟩ := List.pairwise_cons.1 hB
    have e : a = b := by
      rcases List.mem_cons.1 ((h a).1 (List.mem_cons_self ..)) with e | e
      · exact e
      · rcases List.mem_cons.1 ((h b).2 (List.mem_cons_self ..)) with e2 | e2
        · exact e2.symm
        · exact absurd (a1 b e2) (ha _ _ (b1 a e))
    subst e
    rw [sorted_ext hi ha a2 b2 fun x => ?_]
    constructor
    · intro hx
      rcases List.mem_cons.1 ((h x).1 (List.mem_cons_of_mem _ hx)) with e | e
      · subst e; exact absurd (a1 x hx) (hi x)
      · exact e
    · intro hx
      rcases List.mem_cons.1 ((h x).2 (List.mem_cons_of_mem _ hx)) with e | e
      · subst e; exact absurd (b1 x hx) (hi x)
      · exact e
theorem norm_mem {A B : List Fct} {D : VRow → Int → Prop} (h : NormOf A D) (k : NormOf B D) {f : Fct} (hf : f ∈ A) : f ∈ B := by
  have e : (A.filter fun g => decide (g.1 = f.1)).map (·.2) = (B.filter fun g => decide (g.1 = f.1)).map (·.2) := by
    refine canon_ext (h.can f.1) (k.can f.1) fun x => ?_
    have key : ∀ C : List Fct, NormOf C D → (mem ((C.filter fun g => decide (g.1 = f.1)).map (·.2)) x = true ↔ D f.1 x) := fun C hC => by
      rw [← hC.pts, mem_iff]
      constructor
      · rintro ⟨s, hs, h1, h2⟩
        obtain ⟨g, hg, rfl⟩ := List.mem_map.1 hs
        obtain ⟨hg1, hg2⟩ := List.mem_filter.1 hg
        exact ⟨g, hg1, of_decide_eq_true hg2, h1, h2⟩
      · rintro ⟨g, hg, e, h1, h2⟩
        exact ⟨g.2, List.mem_map.2 ⟨g, List.mem_filter.2 ⟨hg, decide_eq_true e⟩, rfl⟩, h1, h2⟩
    have h1 := key A h
    have h2 := key B k
    cases q : mem ((B.filter fun g => decide (g.1 = f.1)).map (·.2)) x
    · cases q2 : mem ((A.filter fun g => decide (g.1 = f.1)).map (·.2)) x
      · rfl
      · have := h2.2 (h1.1 q2)
        rw [q] at this
        cases this
    · exact h1.2 (h2.1 q)
  have h1 : f.2 ∈ (A.filter fun g => decide (g.1 = f.1)).map (·.2) := List.mem_map.2 ⟨f, List.mem_filter.2 ⟨hf, decide_eq_true rfl⟩, rfl⟩
  rw [e] at h1
  obtain ⟨g, hg, e2⟩ := List.mem_map.1 h1
  obtain ⟨hg1, hg2⟩ := List.mem_filter.1 hg
  have e3 : g = f := Prod.ext (of_decide_eq_true hg2) e2
  rw [← e3]
  exact hg1
theorem norm_unique {A B : List Fct} {D : VRow → Int → Prop} (h : NormOf A D) (k : NormOf B D) : A = B :=
  sorted_ext cmpF_irr (fun _ _ => cmpF_asym) h.srt k.srt fun _ => ⟨norm_mem h k, norm_mem k h⟩
end Go.Proofs.YtohjgegnamcnlaaGreat
