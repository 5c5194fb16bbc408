/- Law 39: the table of aggregate. -/
import Derived.Test.YtohjgegnamcnlaaGreatAgI
namespace Go.Proofs.YtohjgegnamcnlaaGreat
open Go.RowKit Go.Shelf

/-- A row of values, and its spans. -/
abbrev Ent := VRow × List Sp
def ent (E : List Ent) (i : Nat) : Ent := E.getD i ([], [])
theorem ent_at {E : List Ent} {i : Nat} (h : i < E.length) : E[i] = ent E i := by simp [ent, h]
theorem ent_mem {E : List Ent} {i : Nat} (h : i < E.length) : ent E i ∈ E := by rw [← ent_at h]; exact List.getElem_mem h
def codeE (E : List Ent) (i : Nat) : ByteArray := encR (ent E i).1
/-- The number of the entry with a code. -/
def idxE (E : List Ent) (s : ByteArray) : Option Nat := (List.range E.length).find? fun i => decide (codeE E i = s)
theorem idxE_some {E : List Ent} {s : ByteArray} {i : Nat} (h : idxE E s = some i) : i < E.length ∧ codeE E i = s := by
  unfold idxE at h
  have h1 := List.mem_of_find?_eq_some h
  have h2 := List.find?_some h
  exact ⟨List.mem_range.1 h1, of_decide_eq_true h2⟩
theorem idxE_none {E : List Ent} {s : ByteArray} (h : idxE E s = none) (i : Nat) (hi : i < E.length) : codeE E i ≠ s := fun e => by
  unfold idxE at h
  have := List.find?_eq_none.1 h i (List.mem_range.2 hi)
  simp [e] at this
def lookE (E : List Ent) (U : Nat → Value) (s : ByteArray) : Option Value := (idxE E s).map U
/-- What is asked of the rows of a table. -/
structure EntOk (E : List Ent) : Prop where
  ok : ∀ e ∈ E, okR e.1 ∧ 1 ≤ e.1.length ∧ e.1.length ≤ 100
  inj : ∀ i j, i < E.length → j < E.length → (ent E i).1 = (ent E j).1 → i = j
theorem EntOk.code {E : List Ent} (h : EntOk E) {i j : Nat} (hi : i < E.length) (hj : j < E.length) (e : codeE E i = codeE E j) : i = j :=
  h.inj i j hi hj (encR_inj (h.ok _ (ent_mem hi)).1 (h.ok _ (ent_mem hj)).1 e)
theorem EntOk.idx {E : List Ent} (h : EntOk E) {i : Nat} (hi : i < E.length) : idxE E (codeE E i) = some i := by
  cases q : idxE E (codeE E i) with
  | none => exact absurd rfl (idxE_none q i hi)
  | some j =>
    obtain ⟨h1, h2⟩ := idxE_some q
    rw [h.code h1 hi h2]
/-- The block of a slice. -/
def sblk : Value → Option Nat
  | .slice (some a) _ _ => some a.block
  | _ => none
theorem IsVals.blocks {w w' : World} {v : Value} {r : VRow} (h : IsVals w v r) (hs : w.heap.size ≤ w'.heap.size) (hb : ∀ b, sblk v = some b → w'.heap[b]? = w.heap[b]?) : IsVals w' v r := by
  obtain ⟨A, c, rfl, h1, h2, h3⟩ := h
  refine ⟨A, c, rfl, h1, h2, fun hn => ?_⟩
  obtain ⟨b, off, rfl, hlt, hc⟩ := h3 hn
  exact ⟨b, off, rfl, Nat.lt_of_lt_of_le hlt hs, fun i j hi hj => (World.cell?_of_block (hb b rfl)).trans (hc i j hi hj)⟩
theorem IsVals.blk_lt {w : World} {v : Value} {r : VRow} (h : IsVals w v r) (hn : 0 < r.length) (b : Nat) (hb : sblk v = some b) : b < w.heap.size := by
  obtain ⟨A, c, rfl, h1, h2, h3⟩ := h
  obtain ⟨b', off, rfl, hlt, _⟩ := h3 hn
  have e : b' = b := Option.some.inj hb
  omega
/-- An own list stands while its block stands. -/
theorem own_blocks {w w' : World} {base k n : Nat} {e : TypeId} {v : Value} {xs : List Value} (h : w.ownsRow base e k v n xs) (hb : ∀ g, v.ownBlock = some g → w'.heap[g]? = w.heap[g]?) : w'.ownsRow base e k v n xs := by
  obtain ⟨h1, h2⟩ := h
  refine ⟨h1, h2.imp id ?_⟩
  rintro ⟨g, cap, cur, rfl, hg, hh, r⟩
  exact ⟨g, cap, cur, rfl, hg, (hb g rfl).trans hh, r⟩
/-- A table in memory. -/
structure TabAt (base zs z1 : Nat) (w : World) (p bv bs n : Nat) (E : List Ent) (U T : Nat → Value) : Prop where
  blk : w.heap[p]? = some (.cells #[.map (some bv), .map (some bs)] 103 (0, 0))
  vals : MapIs w bv n (lookE E U)
  spans : MapIs w bs n (lookE E T)
  ne : bv ≠ bs
  lo : base ≤ p ∧ base ≤ bv ∧ base ≤ bs
  hi : p < zs ∧ bv < zs ∧ bs < zs
  eok : EntOk E
  rowIn : ∀ i, i < E.length → IsVals w (U i) (ent E i).1
  rowAt : ∀ i, i < E.length → ∀ b, sblk (U i) = some b → b < base ∨ z1 ≤ b
  own : ∀ i, i < E.length → w.ownsRow z1 34 2 (T i) (ent E i).2.length (flat (ent E i).2)
  some_ : ∀ i, i < E.length → 0 < (ent E i).2.length
  apart : ∀ i j, i < E.length → j < E.length → i ≠ j → (T i).ownBlock ≠ (T j).ownBlock
  off : ∀ i j, i < E.length → j < E.length → sblk (U i) ≠ (T j).ownBlock
section
variable {base zs z1 p bv bs n : Nat} {w w' : World} {E : List Ent} {U T : Nat → Value}
theorem TabAt.keep (h : TabAt base zs z1 w p bv bs n E U T) (hk : Oz zs z1 w w') (_hbz : base ≤ zs) : TabAt base zs z1 w' p bv bs n E U T := by
  obtain ⟨h1, h2, h3, h4, h5, h6, h7, h8, h9, h10, h11, h12, h13⟩ := h
  refine ⟨(hk.oth p (_root_.Go.Proofs.YtohjgegnamcnlaaGreat.blk_lt h1) (by omega)).trans h1, h2.block (hk.oth bv h2.lt (by omega)), h3.block (hk.oth bs h3.lt (by omega)), h4, h5, h6, h7, fun i hi => ?_, h9, fun i hi => ?_, h11, h12, h13⟩
  · have hp := (h7.ok _ (ent_mem hi)).2.1
    refine (h8 i hi).blocks hk.size fun b hb => hk.oth b ((h8 i hi).blk_lt (by omega) b hb) ?_
    rcases h9 i hi b hb with e | e <;> omega
  · refine own_blocks (h10 i hi) fun g hg => ?_
    have := World.ownsRow.lt (h10 i hi) g hg
    exact hk.oth g this.2 (by omega)
end
theorem lookE_nil (U : Nat → Value) (s : ByteArray) : lookE [] U s = none := rfl
theorem anewTable_c (w : World) : Calls Tryz.prog 33 #[] w (fun e w' => ∃ p bv bs, e = .returned (.pointer (some ⟨p, 0, none⟩)) ∧ Below w.heap.size w w' ∧ ∀ base zs z1 U T, base ≤ w.heap.size → w'.heap.size ≤ zs → TabAt base zs z1 w' p bv bs 0 [] U T) := by
  have hmm := @run_makeMap Tryz.prog
  go_enter Tryz.func33, Tryz.ntmps33
  go_wp2_with fail
  go_ret
  have z1 : (w.alloc (.map #[] 0)).heap.size = w.heap.size + 1 := by simp
  have z2 : ((w.alloc (.map #[] 0)).alloc (.map #[] 0)).heap.size = w.heap.size + 2 := by simp
  have m1 : MapIs (((w.alloc (.map #[] 0)).alloc (.map #[] 0)).alloc (.cells #[.map (some w.heap.size), .map (some (w.heap.size + 1))] 103)) w.heap.size 0 (fun _ => none) :=
    ((MapIs.made w).below ((Below.refl _ _).alloc (Nat.le_refl _) _)).below ((Below.refl _ _).alloc (Nat.le_refl _) _)
  have m2 : MapIs (((w.alloc (.map #[] 0)).alloc (.map #[] 0)).alloc (.cells #[.map (some w.heap.size), .map (some (w.heap.size + 1))] 103)) (w.heap.size + 1) 0 (fun _ => none) := by
    have := MapIs.made (w.alloc (.map #[] 0))
    rw [z1] at this
    exact this.below ((Below.refl _ _).alloc (Nat.le_refl _) _)
  have hb : ((w.alloc (.map #[] 0)).alloc (.map #[] 0)).alloc (.cells #[.map (some w.heap.size), .map (some (w.heap.size + 1))] 103) |>.heap[w.heap.size + 2]? |> fun x => x = some (.cells #[.map (some w.heap.size), .map (some (w.heap.size + 1))] 103 (0, 0)) := by
    have := heap_alloc_new ((w.alloc (.map #[] 0)).alloc (.map #[] 0)) (.cells #[.map (some w.heap.size), .map (some (w.heap.size + 1))] 103)
    rw [z2] at this
    exact this
  refine ⟨w.heap.size + 2, w.heap.size, w.heap.size + 1, rfl, (((Below.refl _ _).alloc (Nat.le_refl _) _).alloc (by omega) _).alloc (by omega) _, fun base zs z1 U T hb1 hb2 => ?_⟩
  have hz : (((w.alloc (.map #[] 0)).alloc (.map #[] 0)).alloc (.cells #[.map (some w.heap.size), .map (some (w.heap.size + 1))] 103)).heap.size = w.heap.size + 3 := by simp
  rw [hz] at hb2
  exact ⟨hb, m1, m2, by omega, by omega, by omega, ⟨fun e he => absurd he (by simp), fun i j hi => absurd hi (by simp)⟩, fun i hi => absurd hi (by simp), fun i hi => absurd hi (by simp), fun i hi => absurd hi (by simp), fun i hi => absurd hi (by simp), fun i j hi => absurd hi (by simp), fun i j hi => absurd hi (by simp)⟩
end Go.Proofs.YtohjgegnamcnlaaGreat
