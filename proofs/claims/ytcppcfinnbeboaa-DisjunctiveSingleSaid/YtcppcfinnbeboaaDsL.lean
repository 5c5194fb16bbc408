/- Law 47: the search. -/
import Derived.Test.YtcppcfinnbeboaaDsK
namespace Go.Proofs.Ytcppcfinnbeboaa
open Go.RowKit Go.Shelf

theorem tight_nil {N : Nat} (h1 : 1 ≤ N) (hN : N ≤ 24) : ∃ P, tightX N [] = some P ∧ ∀ i j, i < N → j < N → openM i j = P i j := by
  cases h : tightX N [] with
  | none => exact absurd (satL_nil (fun _ => 0)) (tightX_none (by rfl) h)
  | some P =>
    refine ⟨P, rfl, fun i j hi hj => ?_⟩
    obtain ⟨a, b, c⟩ := tightX_some h1 hN (by rfl) h
    have ho : ∀ i j, openM i j < noneD → i = j := fun i j h => by
      unfold openM at h
      split at h
      · assumption
      · omega
    refine clo_unique (c := 0) (d := 26843545600) ⟨fun i j v _ _ _ h1 h2 => ?_, fun i _ => by unfold openM; rw [if_pos rfl]⟩ (fun i j _ _ => ?_) (Int.le_refl _) a b (by omega) (fun x => ⟨fun _ => (c x).2 (satL_nil x), fun _ i j _ _ h => ?_⟩) hi hj
    · obtain rfl := ho _ _ h1
      obtain rfl := ho _ _ h2
      exact ⟨h1, by unfold openM; simp⟩
    · unfold openM noneD
      split <;> omega
    · obtain rfl := ho _ _ h
      unfold openM
      simp
theorem satN_perm {L l : List Cho} (h : L.Perm l) (x : Nat → Int) : SatN L x ↔ SatN l x := by
  have key : ∀ K : List Cho, SatN K x ↔ ∀ c ∈ K, mem c.2.2 (difC c x) = true := fun K => by
    constructor
    · intro h c hc
      obtain ⟨i, hi, rfl⟩ := List.getElem_of_mem hc
      have := h i hi
      rw [← cho_at hi] at this
      exact this
    · intro h i hi
      rw [← cho_at hi]
      exact h _ (List.getElem_mem _)
  rw [key, key]
  exact ⟨fun a c hc => a c (h.mem_iff.2 hc), fun a c hc => a c (h.mem_iff.1 hc)⟩
theorem perm_cho {L l : List Cho} (h : L.Perm l) {p : Cho → Prop} (hp : ∀ i, i < l.length → p (cho l i)) : ∀ i, i < L.length → p (cho L i) := fun i hi => by
  have h1 : cho L i ∈ L := by rw [← cho_at hi]; exact List.getElem_mem _
  obtain ⟨j, hj, e⟩ := List.getElem_of_mem (h.mem_iff.1 h1)
  rw [← e, cho_at hj]
  exact hp j hj
theorem sizeN_prod (l : List Cho) : ∀ k, k ≤ l.length → sizeN l k = ((l.take k).map fun c => c.2.2.length).foldr (· * ·) 1
  | 0, _ => rfl
  | k + 1, h => by
    have hf : ∀ (a : List Nat) (x : Nat), (a ++ [x]).foldr (· * ·) 1 = a.foldr (· * ·) 1 * x := fun a x => by
      induction a with
      | nil => simp
      | cons y a ih => simp only [List.cons_append, List.foldr_cons, ih, Nat.mul_assoc]
    rw [List.take_succ_eq_append_getElem (by omega), List.map_append, List.map_singleton, hf, ← sizeN_prod l k (by omega), cho_at (by omega)]
    rfl
theorem sizeN_perm {L l : List Cho} (h : L.Perm l) : sizeN L L.length = sizeN l l.length := by
  rw [sizeN_prod L _ (Nat.le_refl _), sizeN_prod l _ (Nat.le_refl _), List.take_length, List.take_length]
  have key : ∀ a b : List Nat, a.Perm b → a.foldr (· * ·) 1 = b.foldr (· * ·) 1 := fun a b hab => by
   induction hab with
   | nil => rfl
   | cons x _ ih => simp only [List.foldr_cons, ih]
   | swap x y l => simp only [List.foldr_cons]; rw [← Nat.mul_assoc, ← Nat.mul_assoc, Nat.mul_comm y x]
   | trans _ _ a b => exact a.trans b
  exact key _ _ (h.map fun c : Cho => c.2.2.length)
def SrtRet47 (Z : Value → List Sp → Prop) (l : List Cho) (o : Value) (base : Nat) (W : World) (e : Ending) (w' : World) : Prop :=
  e = .returned (.tuple #[]) ∧ (∃ L S, L.Perm l ∧ OutAt w' base o L S ∧ ∀ i, i < L.length → Z (S i) (cho L i).2.2) ∧ Below base W w'
theorem sort_all (Z : Value → List Sp → Prop) (l : List Cho) (S : Nat → Value) (o : Value) (B base : Nat) (W : World) (ho : OutAt W base o l S) (hZ : ∀ i, i < l.length → Z (S i) (cho l i).2.2) (hB : W.heap[B]? = some (.cells #[o] 22 (0, 0))) (hb : B < base) (hw : base ≤ W.heap.size) (hl : l.length ≤ 1000) :
    Calls Try.prog 77 #[.iface 22 o, .func (.func 78) #[] #[.pointer (some ⟨B, 0, none⟩)]] W (SrtRet47 Z l o base W) := by
  have tiny : l.length ≤ 1 → (∃ A c, o = .slice A l.length c) → Calls Try.prog 77 #[.iface 22 o, .func (.func 78) #[] #[.pointer (some ⟨B, 0, none⟩)]] W (SrtRet47 Z l o base W) := fun h1 ⟨A, c, e⟩ => by
    subst e
    refine (slStable_tiny A l.length c B W h1).mono ?_
    rintro e w' ⟨h2, h3⟩
    exact ⟨h2, ⟨l, S, List.Perm.refl _, ho.below h3, hZ⟩, h3.mono hw⟩
  rcases id ho with ⟨rfl, A, c, rfl, hc⟩ | ⟨g, cap, rfl, h2, h3, h4, h5⟩
  · exact tiny (by simp) ⟨A, c, rfl⟩
  · rcases Nat.lt_or_ge 1 l.length with h1 | h1
    · have hI : SrtI Z l base g B cap W := ⟨⟨l, S, List.Perm.refl _, h5, hZ⟩, hB, by omega, hw, h4⟩
      refine (slStable_c Z l base g B cap W h1 hl hI).mono ?_
      rintro e w' ⟨rfl, ⟨⟨L, S', p1, p2, p3⟩, p4, p5, p6, p7⟩, hK⟩
      have hll := p1.length_eq
      exact ⟨rfl, ⟨L, S', p1, .inr ⟨g, cap, by rw [hll], by omega, h3, h4, p2⟩, p3⟩, hK.bel⟩
    · exact tiny h1 ⟨_, _, rfl⟩
/-! ### the search's answer -/
def SolOk (N : Nat) (l : List Cho) (P : Mat) : Prop := ∃ bl, bl.all (bndB (N : Int)) = true ∧ tightX N bl = some P ∧ ∀ x, SatL bl x → SatN l x
def SRet (N : Nat) (l : List Cho) (most : Nat) (J Dn : List Mat → World → Prop) (base : Nat) (w : World) (e : Ending) (w' : World) : Prop :=
  ∃ b vs, e = .returned (.bool b) ∧ Below base w w' ∧ (∀ P ∈ vs, SolOk N l P) ∧
    ((b = true ∧ aboveB l most = true ∧ J vs w') ∨ (b = false ∧ vs ≠ [] ∧ Dn vs w') ∨ (b = false ∧ J vs w' ∧ ∀ x, SatN l x → ∃ P ∈ vs, SatM N P x))
theorem mat_sol {N : Nat} {L l : List Cho} {P : Mat} (hp : L.Perm l) (h : MatOk N L P) : SolOk N l P := by
  obtain ⟨bl, h1, h2, h3⟩ := h
  exact ⟨bl, h1, h2, fun x hx => (satN_perm hp x).1 fun i hi => h3 x hx i hi⟩
end Go.Proofs.Ytcppcfinnbeboaa
