/- Worlds grown by draws and new blocks; the sort at one cell in the words of the sort at k cells; appending one number to an own list. No program in sight. -/
import Derived.Test.YtahpcepnagpbdaaTail
import Derived.Test.YtahpcepnagpbdaaSortK
import Derived.Test.YtahpcepnagpbdaaInts
import Derived.Shelf.SlSortCmp.Whole1
namespace Go.Proofs.Ytahpcepnagpbdaa
open Go.RowKit
open Go.Sort (grow grow_grow grow_empty heap_grow_old HoldsK Holds flatK putRow putCells get_flatK size_flatK putRowK mapBlock)

def GW (w : World) := {w' : World // ∃ n os, w' = grow (w.drewN n) os}
instance gwNonempty (w : World) : Nonempty (GW w) := ⟨⟨w, 0, #[], (grow_empty _).symm⟩⟩
theorem below_grow (w : World) (n : Nat) (os : Array Obj) : Below w.heap.size w (grow (w.drewN n) os) :=
  ⟨rfl, rfl, rfl, by simp [grow], fun k hk => heap_grow_old _ _ (by simpa using hk)⟩
theorem GW.below {w : World} (x : GW w) : Below w.heap.size w x.1 := by
  obtain ⟨_, n, os, rfl⟩ := x
  exact below_grow w n os
theorem grow_more (w : World) (n q : Nat) (os os' : Array Obj) : grow ((grow (w.drewN n) os).drewN q) os' = grow (w.drewN (n + q)) (os ++ os') := by
  rw [show (grow (w.drewN n) os).drewN q = grow ((w.drewN n).drewN q) os from rfl, grow_grow, World.drewN_drewN]
theorem GW.more {w : World} (x : GW w) (q : Nat) (os : Array Obj) : ∃ y : GW w, grow (x.1.drewN q) os = y.1 := by
  obtain ⟨_, n, os', rfl⟩ := x
  exact ⟨⟨_, n + q, os' ++ os, rfl⟩, grow_more _ _ _ _ _⟩
/-- One plain value handed back; draws and new blocks behind. -/
def Grown (w : World) (v : Value) (e : Ending) (w' : World) : Prop := e = .returned v ∧ ∃ n os, w' = grow (w.drewN n) os
theorem Grown.ret {w : World} {v : Value} {e : Ending} {w' : World} (h : Grown w v e w') : Ret w v e w' := by
  obtain ⟨he, n, os, rfl⟩ := h
  exact ⟨he, below_grow _ _ _⟩
theorem grown_same (w : World) : ∃ n os, w = grow (w.drewN n) os := ⟨0, #[], (grow_empty _).symm⟩
theorem grown_alloc (w : World) (o : Obj) : ∃ n os, w.alloc o = grow (w.drewN n) os := ⟨0, #[o], Go.Sort.alloc_eq_grow _ _⟩
theorem grown_trans {w w1 w2 : World} (h : ∃ n os, w1 = grow (w.drewN n) os) (k : ∃ n os, w2 = grow (w1.drewN n) os) : ∃ n os, w2 = grow (w.drewN n) os := by
  obtain ⟨n, os, rfl⟩ := h
  obtain ⟨q, os', rfl⟩ := k
  exact ⟨_, _, grow_more _ _ _ _ _⟩
theorem grown_size {w w1 : World} (h : ∃ n os, w1 = grow (w.drewN n) os) : w.heap.size ≤ w1.heap.size := by
  obtain ⟨n, os, rfl⟩ := h
  exact (below_grow _ _ _).size
theorem calls_gw {P : Program} {f : FuncId} {args : Array Value} {w : World} {v : Value} (x : GW w) (h : Calls P f args x.1 (Grown x.1 v)) : Calls P f args x.1 fun e w'' => e = .returned v ∧ ∃ y : GW w, w'' = y.1 :=
  h.mono fun _ _ ⟨he, n, os, hw⟩ => ⟨he, by rw [hw]; exact x.more n os⟩
theorem gw_cell {w : World} (x : GW w) {p : Addr} {v : Value} (h : w.cell? p = some v) (hp : p.block < w.heap.size) : x.1.cell? p = some v := (x.below.cell hp).trans h
theorem wp_region_grown_tail {P : Program} {id : Nat} {Q : Exit → Act → World → Prop} {a : Act} {w : World} {l : List Oper} (n : Nat) (hm : P.follows .mixedOrders = true) (hB : Region.lexTailB .any l.toArray n = true)
    (h : wpQuiet P l.toArray (fun w' => ∃ x : GW w, w' = x.1) (fun a' => ∀ w', (∃ x : GW w, w' = x.1) → wpList P l.toArray Q (l.drop n) a' w') (l.take n) a) : (Code.region id l.toArray true).wp P Q a w :=
  wp_region_quiet_tail (C := fun w' => ∃ x : GW w, w' = x.1) n hm hB ⟨⟨{ w with drawn := w.drawn + 1 }, 1, #[], (grow_empty _).symm⟩, rfl⟩ h
theorem wp_region_grown {P : Program} {id : Nat} {Q : Exit → Act → World → Prop} {a : Act} {w : World} {l : List Oper} (hm : P.follows .mixedOrders = true) (hB : Region.lexB .any l.toArray = true)
    (h : wpQuiet P l.toArray (fun w' => ∃ x : GW w, w' = x.1) (fun a' => ∀ w', (∃ x : GW w, w' = x.1) → Q .normal a' w') l a) : (Code.region id l.toArray true).wp P Q a w :=
  wp_region_quiet (C := fun w' => ∃ x : GW w, w' = x.1) hm hB ⟨⟨{ w with drawn := w.drawn + 1 }, 1, #[], (grow_empty _).symm⟩, rfl⟩ (by simpa using h)

/-! ### the sort at one cell -/
section
variable {α : Type} [Inhabited α] (enc : α → Value)
theorem flatK_one (d : Array α) : flatK (fun x => [enc x]) 1 d = d.map enc := by
  apply Array.toList_inj.1
  rw [flatK_list (enc := fun x => [enc x]) (k := 1) (fun _ => rfl), Array.toList_map]
  generalize d.toList = l
  induction l with
  | nil => rfl
  | cons x l ih => rw [List.flatMap_cons, ih]; rfl
theorem get_map (d : Array α) (j : Nat) (hj : j < d.size) : (d.map enc)[j]! = enc d[j]! := by
  rw [getElem!_pos _ j (by simpa using hj), getElem!_pos d j hj, Array.getElem_map]
theorem holds_one (w : World) (blk off : Nat) (d : Array α) : HoldsK (fun x => [enc x]) 1 w blk off d ↔ Holds enc w blk off d := by
  unfold HoldsK Holds
  rw [flatK_one]
  constructor
  · intro h j hj
    have := h j (by simpa using hj)
    rwa [get_map enc d j hj] at this
  · intro h j hj
    have hj' : j < d.size := by simpa using hj
    have := h j hj'
    rw [← get_map enc d j hj'] at this
    exact this
theorem sortWorld_one (w : World) (blk off m : Nat) (d : Array α) (os : Array Obj) : sortWorld enc w blk off m d os = sortWorldK (fun x => [enc x]) 1 w blk off m d os := by
  unfold sortWorld sortWorldK putRowK putRow
  rw [flatK_one]
  congr 1
  refine Go.Sort.mapBlock_congr _ _ _ _ fun c e fr _ => ?_
  unfold putCells
  apply Array.ext_getElem?
  intro k
  simp only [Array.getElem?_mapIdx, Array.size_map]
  cases c[k]? with
  | none => rfl
  | some x =>
    simp only [Option.map_some]
    by_cases h : off ≤ k ∧ k < off + d.size
    · rw [if_pos h, if_pos h, get_map enc d _ (by omega)]; rfl
    · rw [if_neg h, if_neg h]
end

/-! ### a list of numbers grows by one -/
theorem append_int {P : Program} {tS tE : TypeId} (hS : P.underlying tS = some (.slice tE)) (hE : (P.info? tE).map (fun i => (i.zero, i.size, i.bytes)) = some (some (.int .i64 0), 1, 8))
    {ops : Array Oper} {rest : List Oper} {o : Oper} {a : Act} {Q : Exit → Act → World → Prop} (hgd : o.guard = none) (s x : Operand)
    (ho : o.op = .call { callee := .builtin .append, args := #[s, x], argTypes := #[tS, tS] })
    {w : World} (base : Nat) (v : Value) (l : List Int) (p : Int) (hs : a.eval s = v) (hown : w.ownsRow base tE 1 v l.length (flatI l))
    (hx : a.eval x = .slice (some ⟨w.heap.size, 0, none⟩) 1 1) (hlen : l.length < 900000000) (hbase : base ≤ w.heap.size)
    (h : ∀ v' w', w'.ownsRow base tE 1 v' (l ++ [p]).length (flatI (l ++ [p])) → Below base w w' → wpList P ops Q rest (a.put o.dst v') w') :
    wpList P ops Q (o :: rest) a (w.alloc (.cells #[.int .i64 p] tE)) := by
  refine append_rows hS hE rfl (by omega) (by omega) hgd s x ho base v l.length (flatI l) hs (hown.alloc _) (some ⟨w.heap.size, 0, none⟩) 1 1 hx [.int .i64 p] rfl (fun h => by cases h) ?_ (by simp [Value.oneCell']) (by omega) (by simp; omega) ?_
  · intro ad had j u hu
    injection had with had
    subst had
    rcases j with _ | j
    · simp at hu; subst hu; simp [Addr.add]
    · simp at hu
  · intro v' w' hown' hb
    refine h v' w' ?_ (((Below.refl base w).alloc hbase _).trans hb)
    have e : flatI (l ++ [p]) = flatI l ++ [.int .i64 p] := by simp [flatI]
    rw [e]; simpa using hown'
theorem own_nilI (w : World) (base : Nat) (e : TypeId) : w.ownsRow base e 1 (.slice none 0 0) 0 (flatI []) := ⟨by simp [flatI], .inl ⟨rfl, rfl⟩⟩
/-- Indices as numbers. -/
def idx (L : List Nat) : List Int := L.map fun i : Nat => (i : Int)
theorem idx_len (L : List Nat) : (idx L).length = L.length := by simp [idx]
theorem idx_snoc (L : List Nat) (i : Nat) : idx L ++ [(i : Int)] = idx (L ++ [i]) := by simp [idx]
theorem iv_idx (L : List Nat) (k : Nat) (hk : k < L.length) : iv (idx L) k = ((L[k] : Nat) : Int) := by
  rw [← iv_at (by rw [idx_len]; exact hk)]; simp [idx]
end Go.Proofs.Ytahpcepnagpbdaa
