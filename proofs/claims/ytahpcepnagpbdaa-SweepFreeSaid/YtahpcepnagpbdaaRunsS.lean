/- What the functions of the package runs compute, said of plain lists of spans; and the bounds that the walks want. No program in sight. -/
import Derived.Test.YtahpcepnagpbdaaBase
namespace Go.Proofs.Ytahpcepnagpbdaa

def onLine (x : Int) : Bool := decide (-4398046511104 ≤ x) && decide (x ≤ 4398046511104)
def okSpan (s : Sp) : Bool := onLine s.1 && onLine s.2 && decide (s.1 < s.2)
def chk (l : List Sp) (i : Nat) : Bool := okSpan (fr l i, tt l i) && (i == 0 || decide (tt l (i-1) < fr l i))
def validB (l : List Sp) : Bool := decide (l.length ≤ 2000) && (List.range l.length).all (chk l)

theorem any_step {f : Nat → Bool} {k : Nat} (h : (List.range k).any f = false) (hk : f k = false) : (List.range (k + 1)).any f = false := by
  rw [List.range_succ, List.any_append, h]; simp [hk]
theorem any_found {f : Nat → Bool} {k n : Nat} (hk : k < n) (h : f k = true) : (List.range n).any f = true := by
  rw [List.any_eq_true]; exact ⟨k, by simp [hk], h⟩
theorem all_step {f : Nat → Bool} {k : Nat} (h : (List.range k).all f = true) (hk : f k = true) : (List.range (k + 1)).all f = true := by
  rw [List.range_succ, List.all_append, h]; simp [hk]
theorem all_fail {f : Nat → Bool} {k n : Nat} (hk : k < n) (h : f k = false) : (List.range n).all f = false := by
  rw [List.all_eq_false]; exact ⟨k, by simp [hk], by simp [h]⟩

def endAt (l : List Sp) (n : Nat) : Int := if n = 2 * l.length then 8796093022208 else if n % 2 = 0 then fr l (n / 2) else tt l (n / 2)

/-! The loop's state, and one round. -/
structure CS where
  i : Nat
  k : Nat
  ins : Bool
  frm : Int
  out : List Sp
def cStart : CS := ⟨0, 0, false, 0, []⟩
def cAt (a b : List Sp) (s : CS) : Int := min (endAt a s.i) (endAt b s.k)
def nI (a b : List Sp) (s : CS) : Nat := if endAt a s.i = cAt a b s then s.i + 1 else s.i
def nK (a b : List Sp) (s : CS) : Nat := if endAt b s.k = cAt a b s then s.k + 1 else s.k
def nW (g : Bool → Bool → Bool) (a b : List Sp) (s : CS) : Bool := g ((nI a b s : Int) % 2 == 1) ((nK a b s : Int) % 2 == 1)
def cStep (g : Bool → Bool → Bool) (a b : List Sp) (s : CS) : CS :=
  { i := nI a b s, k := nK a b s, ins := nW g a b s, frm := if nW g a b s = s.ins then s.frm else cAt a b s
    out := if nW g a b s = s.ins then s.out else if s.ins then s.out ++ [(s.frm, cAt a b s)] else s.out }
def cIter (g : Bool → Bool → Bool) (a b : List Sp) : Nat → CS
  | 0 => cStart
  | m + 1 => cStep g a b (cIter g a b m)
def cOn (a b : List Sp) (s : CS) : Prop := s.i < 2 * a.length ∨ s.k < 2 * b.length

theorem validB_len {l : List Sp} (h : validB l = true) : l.length ≤ 2000 := by
  simp [validB] at h; exact h.1
theorem validB_chk {l : List Sp} (h : validB l = true) {i : Nat} (hi : i < l.length) : chk l i = true := by
  simp only [validB, Bool.and_eq_true, List.all_eq_true, List.mem_range] at h; exact h.2 i hi
theorem validB_ok {l : List Sp} (h : validB l = true) {i : Nat} (hi : i < l.length) : -4398046511104 ≤ fr l i ∧ fr l i < tt l i ∧ tt l i ≤ 4398046511104 := by
  have := validB_chk h hi
  simp [chk, okSpan, onLine] at this
  omega
theorem validB_gap {l : List Sp} (h : validB l = true) {i : Nat} (hi : i + 1 < l.length) : tt l i < fr l (i + 1) := by
  have := validB_chk h hi
  simp [chk, okSpan, onLine] at this
  omega
theorem endAt_lt {l : List Sp} (h : validB l = true) {n : Nat} (hn : n < 2 * l.length) : -4398046511104 ≤ endAt l n ∧ endAt l n ≤ 4398046511104 := by
  have := validB_ok h (i := n / 2) (by omega)
  unfold endAt
  rw [if_neg (by omega)]
  split <;> omega
theorem endAt_top (l : List Sp) : endAt l (2 * l.length) = 8796093022208 := if_pos rfl
theorem endAt_bd {l : List Sp} (h : validB l = true) {n : Nat} (hn : n ≤ 2 * l.length) : -4398046511104 ≤ endAt l n ∧ endAt l n ≤ 8796093022208 := by
  rcases Nat.lt_or_ge n (2 * l.length) with h1 | h1
  · have := endAt_lt h h1; omega
  · obtain rfl : n = 2 * l.length := by omega
    rw [endAt_top]; omega

/-- What stands at the head of every round. -/
structure CInv (a b : List Sp) (s : CS) : Prop where
  i : s.i ≤ 2 * a.length
  k : s.k ≤ 2 * b.length
  out : s.out.length ≤ s.i + s.k
  frm : -8796093022208 ≤ s.frm ∧ s.frm ≤ 8796093022208
theorem cStep_inv {g : Bool → Bool → Bool} {a b : List Sp} (ha : validB a = true) (hb : validB b = true) {s : CS} (h : CInv a b s) (hon : cOn a b s) :
    CInv a b (cStep g a b s) ∧ s.i + s.k < (cStep g a b s).i + (cStep g a b s).k := by
  have hA := endAt_bd ha h.i
  have hB := endAt_bd hb h.k
  have hAl := fun h => endAt_lt ha (n := s.i) h
  have hBl := fun h => endAt_lt hb (n := s.k) h
  have tA : s.i = 2 * a.length → endAt a s.i = 8796093022208 := fun h => by rw [h]; exact endAt_top a
  have tB : s.k = 2 * b.length → endAt b s.k = 8796093022208 := fun h => by rw [h]; exact endAt_top b
  have hi := h.i
  have hk := h.k
  have ho := h.out
  have hf := h.frm
  have hm : cAt a b s ≤ endAt a s.i ∧ cAt a b s ≤ endAt b s.k ∧ (cAt a b s = endAt a s.i ∨ cAt a b s = endAt b s.k) := by
    unfold cAt; omega
  unfold cOn at hon
  have h4 : (cStep g a b s).out.length ≤ s.out.length + 1 := by
    unfold cStep; dsimp only; split
    · omega
    · split <;> simp
  have h5 : (cStep g a b s).frm = s.frm ∨ (cStep g a b s).frm = cAt a b s := by
    unfold cStep; dsimp only; split
    · exact .inl rfl
    · exact .inr rfl
  have ei : (cStep g a b s).i = if endAt a s.i = cAt a b s then s.i + 1 else s.i := rfl
  have ek : (cStep g a b s).k = if endAt b s.k = cAt a b s then s.k + 1 else s.k := rfl
  generalize cStep g a b s = s' at *
  refine ⟨⟨?_, ?_, ?_, ?_⟩, ?_⟩
  · rw [ei]; split <;> omega
  · rw [ek]; split <;> omega
  · rw [ei, ek]; split <;> split <;> omega
  · rcases h5 with h5 | h5 <;> rw [h5] <;> omega
  · rw [ei, ek]; split <;> split <;> omega

end Go.Proofs.Ytahpcepnagpbdaa
