/- A captured flag: a block of one Bool that closures write, while nothing else that was there changes. Calls through function values whose result is not named beforehand. -/
import Derived.Test.YthnikjmdnhlneaaRunsD
namespace Go.Proofs.Ythnikjmdnhlneaa
open Go.RowKit

/-- Of what was there only block g may have changed. -/
structure Only (g : Nat) (w w' : World) : Prop where
  os : w'.os = w.os
  tape : w'.tape = w.tape
  output : w'.output = w.output
  size : w.heap.size ≤ w'.heap.size
  block : ∀ k, k < w.heap.size → k ≠ g → w'.heap[k]? = w.heap[k]?
def OkB (w : World) (g : Nat) (t : TypeId) (b : Bool) : Prop := w.heap[g]? = some (.cells #[.bool b] t (0, 0))
theorem OkB.lt {w : World} {g : Nat} {t : TypeId} {b : Bool} (h : OkB w g t b) : g < w.heap.size := by
  rcases Nat.lt_or_ge g w.heap.size with h1 | h1
  · exact h1
  · unfold OkB at h; rw [Array.getElem?_eq_none h1] at h; cases h
theorem OkB.cell {w : World} {g : Nat} {t : TypeId} {b : Bool} (h : OkB w g t b) : w.cell? ⟨g, 0, none⟩ = some (.bool b) := by
  unfold OkB at h; simp [World.cell?, h]
theorem OkB.frozen {w : World} {g : Nat} {t : TypeId} {b : Bool} (h : OkB w g t b) : w.frozen? ⟨g, 0, none⟩ = false := by
  unfold OkB at h; simp [World.frozen?, h]
theorem OkB.below {w w' : World} {g : Nat} {t : TypeId} {b : Bool} (h : OkB w g t b) (hb : Below w.heap.size w w') : OkB w' g t b := (hb.block g h.lt).trans h
theorem OkB.set {w : World} {g : Nat} {t : TypeId} {b : Bool} (h : OkB w g t b) (c : Bool) : OkB (w.setCell ⟨g, 0, none⟩ (.bool c)) g t c := by
  unfold OkB at *
  simp [World.setCell, Array.getElem?_modify, h]
theorem Only.refl (g : Nat) (w : World) : Only g w w := ⟨rfl, rfl, rfl, Nat.le_refl _, fun _ _ _ => rfl⟩
theorem Only.of_below {g : Nat} {w w' : World} (h : Below w.heap.size w w') : Only g w w' := ⟨h.os, h.tape, h.output, h.size, fun k hk _ => h.block k hk⟩
theorem Only.trans {g : Nat} {a b c : World} (h : Only g a b) (k : Only g b c) : Only g a c :=
  ⟨k.os.trans h.os, k.tape.trans h.tape, k.output.trans h.output, Nat.le_trans h.size k.size, fun i hi hn => (k.block i (Nat.lt_of_lt_of_le hi h.size) hn).trans (h.block i hi hn)⟩
theorem Only.set (g : Nat) (w : World) (v : Value) : Only g w (w.setCell ⟨g, 0, none⟩ v) :=
  ⟨rfl, rfl, rfl, by simp [World.setCell], fun k _ hn => Below.heap_setCell _ _ _ _ hn⟩
/-- What lies below the flag's block stands. -/
theorem Only.below {g : Nat} {w w' : World} {B : Nat} (h : Only g w w') (hB : B ≤ g) (hB' : B ≤ w.heap.size) : Below B w w' :=
  ⟨h.os, h.tape, h.output, h.size, fun k hk => h.block k (by omega) (by omega)⟩
theorem IsSpans.only {w w' : World} {v : Value} {l : List Sp} {g : Nat} {t : TypeId} {b : Bool} (h : IsSpans w v l) (hg : OkB w g t b) (ho : Only g w w') : IsSpans w' v l := by
  obtain ⟨A, c, rfl, h1, h2, h3⟩ := h
  refine ⟨A, c, rfl, h1, h2, fun hn => ?_⟩
  obtain ⟨bk, off, rfl, h4, h5⟩ := h3 hn
  have hne : bk ≠ g := by
    rintro rfl
    have h6 := h5 0 0 hn (by omega)
    unfold OkB at hg
    simp only [World.cell?, hg] at h6
    simp [spanCell] at h6
    cases off with
    | zero => simp at h6
    | succ n => simp at h6
  exact ⟨bk, off, rfl, Nat.lt_of_lt_of_le h4 ho.size, fun i j hi hj => (World.cell?_of_block (ho.block bk h4 hne)).trans (h5 i j hi hj)⟩

/-- Many lists at once. -/
def AllSp (w : World) (L : List (Value × List Sp)) : Prop := ∀ p ∈ L, IsSpans w p.1 p.2
theorem AllSp.below {w w' : World} {L : List (Value × List Sp)} (h : AllSp w L) (hb : Below w.heap.size w w') : AllSp w' L := fun p hp => (h p hp).below hb
theorem AllSp.only {w w' : World} {L : List (Value × List Sp)} {g : Nat} {t : TypeId} {b : Bool} (h : AllSp w L) (hg : OkB w g t b) (ho : Only g w w') : AllSp w' L := fun p hp => (h p hp).only hg ho
theorem AllSp.snoc {w : World} {L : List (Value × List Sp)} {v : Value} {l : List Sp} (h : AllSp w L) (hv : IsSpans w v l) : AllSp w (L ++ [(v, l)]) := fun p hp => by
  rcases List.mem_append.1 hp with h1 | h1
  · exact h p h1
  · rw [List.mem_singleton.1 h1]; exact hv
theorem AllSp.get {w : World} {L : List (Value × List Sp)} {v : Value} {l : List Sp} (h : AllSp w L) (i : Nat) (hi : L[i]? = some (v, l)) : IsSpans w v l := h (v, l) (List.mem_of_getElem? hi)

theorem wpList_call_ex {P : Program} {ops : Array Oper} {rest : List Oper} {a : Act} {w : World} {Q : Exit → Act → World → Prop} {dst : Option Tmp} {ty : TypeId} {pos : String} {after : Array Edge} {xs : Array Operand} {ats : Array TypeId} {gd : Option (Nat × Bool)}
    {vs cap : Array Value} {S : Value → World → Prop} (t : Tmp) (f : FuncId) (hv : a.eval (.tmp t) = .func (.func f) #[] cap) (hx : xs.toList.map a.eval ++ cap.toList = vs.toList)
    (hw : Region.wanted { dst := dst, op := .call { callee := .value (.tmp t), args := xs, argTypes := ats }, type := ty, pos := pos, after := after, guard := gd } (yielded ops a.tmps) = true)
    (hent : ∀ (args : Array Value) (w : World), Sem.run P (callFunc f args) w = .ok (.enter f args) w) (hc : Calls P f vs w fun e w' => ∃ v, e = .returned v ∧ S v w')
    (hk : ∀ v w', S v w' → wpList P ops Q rest (a.put dst v) w') :
    wpList P ops Q ({ dst := dst, op := .call { callee := .value (.tmp t), args := xs, argTypes := ats }, type := ty, pos := pos, after := after, guard := gd } :: rest) a w := by
  refine wpList_step fun K hK => ?_
  rw [if_pos hw]
  unfold Oper.wp
  have he : execOp a.eval { dst := dst, op := .call { callee := .value (.tmp t), args := xs, argTypes := ats }, type := ty, pos := pos, after := after, guard := gd } = callFunc f (#[] ++ xs.map a.eval ++ cap) := by
    simp only [execOp, resolve, hv]
    rfl
  have hx' : xs.map a.eval ++ cap = vs := by rw [← Array.toList_inj, Array.toList_append, Array.toList_map, hx]
  rw [he, hent, Array.empty_append, hx', Oper.upon_enter]
  refine hc.mono ?_
  rintro e w' ⟨v, rfl, hS⟩
  exact hK _ _ (hk v w' hS)
end Go.Proofs.Ythnikjmdnhlneaa
