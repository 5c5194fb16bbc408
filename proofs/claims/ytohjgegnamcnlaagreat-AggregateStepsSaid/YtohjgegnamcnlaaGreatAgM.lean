/- Law 39: maps with strings as keys, seen as functions; their elements as they lie. -/
import Derived.Maps.RangeWalk
import Derived.Maps.OwnSet
import Derived.WideKeyEntry
import Derived.StringKeys
import Derived.Test.YtohjgegnamcnlaaGreatAgS
namespace Go.Proofs.YtohjgegnamcnlaaGreat
open Go.RowKit Go.Shelf Go.Maps
open Go.ChangeMaps (setBlock heap_setBlock_same heap_setBlock_other)

def rawV (v : Value) : Option (DataW Value × List MemPlace) := some (.held v, [])
def sk (s : ByteArray) : Lit := .string s.data.toList
theorem sk_inj {a b : ByteArray} (h : sk a = sk b) : a = b := bytes_ext (by injection h)
theorem Kst : Keyed Tryz.prog 9 := Maps.string_keyed tStr
theorem key_mk {s : ByteArray} (h : s.size ≤ maxLen) : keyOf Tryz.prog 9 (.string s) = some (sk s) := WideMaps.keyOf_string_mk tStr h
theorem key_lit {s : ByteArray} (h : s.size ≤ maxLen) : WideAt.IsKeyLit (sk s) := Kst.key (key_mk h)
def FOf (D : DataW Value) (f : ByteArray → Option Value) : Prop := ∀ s, s.size ≤ maxLen → (f s = none → Maps.has D (sk s) = false) ∧ ∀ v, f s = some v → Maps.has D (sk s) = true ∧ ∀ z, D.atKey (sk s) z = .held v
def updF (f : ByteArray → Option Value) (s : ByteArray) (v : Option Value) : ByteArray → Option Value := fun x => if x = s then v else f x
/-- Block b is a map of at most n entries, which are those of f. -/
def MapIs (w : World) (b n : Nat) (f : ByteArray → Option Value) : Prop := ∃ D : DataW Value, w.ownsMap Tryz.prog 9 rawV b n D ∧ FOf D f
theorem MapIs.lt {w : World} {b n : Nat} {f : ByteArray → Option Value} (h : MapIs w b n f) : b < w.heap.size := by obtain ⟨D, h, _⟩ := h; exact h.lt
theorem MapIs.block {w w' : World} {b n : Nat} {f : ByteArray → Option Value} (h : MapIs w b n f) (hb : w'.heap[b]? = w.heap[b]?) : MapIs w' b n f := by
  obtain ⟨D, ⟨es, clock, h1, h2⟩, h3⟩ := h
  exact ⟨D, ⟨es, clock, hb.trans h1, h2⟩, h3⟩
theorem MapIs.below {w w' : World} {b n : Nat} {f : ByteArray → Option Value} (h : MapIs w b n f) (hb : Below w.heap.size w w') : MapIs w' b n f := h.block (hb.block b h.lt)
theorem MapIs.mono {w : World} {b n m : Nat} {f : ByteArray → Option Value} (h : MapIs w b n f) (hn : n ≤ m) : MapIs w b m f := by
  obtain ⟨D, h1, h2⟩ := h
  exact ⟨D, h1.mono hn, h2⟩
theorem MapIs.congr {w : World} {b n : Nat} {f g : ByteArray → Option Value} (h : MapIs w b n f) (hg : ∀ s, s.size ≤ maxLen → f s = g s) : MapIs w b n g := by
  obtain ⟨D, h1, h2⟩ := h
  exact ⟨D, h1, fun s hs => by rw [← hg s hs]; exact h2 s hs⟩
/-- The block of a map holds no cells. -/
theorem MapIs.cell {w : World} {b n : Nat} {f : ByteArray → Option Value} (h : MapIs w b n f) (i : Nat) : w.cell? ⟨b, i, none⟩ = none := by
  obtain ⟨D, ⟨es, clock, h1, _⟩, _⟩ := h
  simp [World.cell?, h1]
theorem MapIs.made (w : World) : MapIs (w.alloc (.map #[] 0)) w.heap.size 0 (fun _ => none) :=
  ⟨_, World.ownsMap_made w _ _ _, fun s _ => ⟨fun _ => rfl, fun v hv => by cases hv⟩⟩
theorem FOf.absent {D : DataW Value} {f : ByteArray → Option Value} (h : FOf D f) {s : ByteArray} (hs : s.size ≤ maxLen) (hf : f s = none) (z : DataW Value) : D.atKey (sk s) z = z := Maps.atKey_of_not_has ((h s hs).1 hf) z
theorem FOf.put {D : DataW Value} {f : ByteArray → Option Value} (h : FOf D f) (hD : Maps.IsMap D) {s : ByteArray} (hs : s.size ≤ maxLen) (v : Value) : FOf (D.put (sk s) (.held v)) (updF f s (some v)) := fun x hx => by
  unfold updF
  by_cases e : x = s
  · subst e
    rw [if_pos rfl]
    exact ⟨fun h => (by cases h), fun u hu => by cases hu; exact ⟨Maps.has_put_same hD (key_lit hx) _, fun z => Maps.atKey_put_same hD (key_lit hx) _ z⟩⟩
  · have hne : sk x ≠ sk s := fun e2 => e (sk_inj e2)
    rw [if_neg e, Maps.has_put_other hne]
    refine ⟨(h x hx).1, fun u hu => ⟨((h x hx).2 u hu).1, fun z => ?_⟩⟩
    rw [Maps.atKey_put_other hne]
    exact ((h x hx).2 u hu).2 z
theorem FOf.del {D : DataW Value} {f : ByteArray → Option Value} (h : FOf D f) {s : ByteArray} : FOf (D.del (sk s)) (updF f s none) := fun x hx => by
  unfold updF
  by_cases e : x = s
  · subst e
    rw [if_pos rfl]
    exact ⟨fun _ => Maps.has_del_same, fun u hu => by cases hu⟩
  · have hne : sk x ≠ sk s := fun e2 => e (sk_inj e2)
    rw [if_neg e, Maps.has_del_other hne]
    refine ⟨(h x hx).1, fun u hu => ⟨((h x hx).2 u hu).1, fun z => ?_⟩⟩
    rw [Maps.atKey_del_other hne]
    exact ((h x hx).2 u hu).2 z
theorem own_size {w : World} {b n : Nat} {D : DataW Value} {f : ByteArray → Option Value} (h : w.ownsMap Tryz.prog 9 rawV b n D) (hf : FOf D f) : Maps.size D = 0 ↔ ∀ s, s.size ≤ maxLen → f s = none := by
  obtain ⟨es, clock, hb, F, hs, rfl⟩ := h
  constructor
  · intro h0 s hs2
    cases q : f s with
    | none => rfl
    | some v =>
      have h1 := ((hf s hs2).2 v q).1
      have e : (es.toList.map (WideElems.rg Tryz.prog 9 rawV)).foldr DataW.insert [] = [] := List.length_eq_zero_iff.1 h0
      rw [e] at h1
      cases h1
  · intro h0
    rcases Nat.eq_zero_or_pos es.size with e | e
    · have : es = #[] := Array.eq_empty_of_size_eq_zero e
      subst this
      rfl
    · have hm : es[0] ∈ es.toList := Array.mem_toList_iff.2 (Array.getElem_mem e)
      obtain ⟨y, hy⟩ := F.reads _ hm
      obtain ⟨s, h1, h2, h3⟩ := WideMaps.string_of_keyOf tStr (WideElems.rd_key hy)
      have h4 := (hf s h3).1 (h0 s h3)
      have h5 : Maps.has (DataW.map ((es.toList.map (WideElems.rg Tryz.prog 9 rawV)).foldr DataW.insert [])) (sk s) = true := by
        refine List.any_eq_true.2 ⟨WideElems.rg Tryz.prog 9 rawV es[0], mem_sorted.2 (List.mem_map.2 ⟨_, hm, rfl⟩), ?_⟩
        rw [WideElems.rg_of hy, h2]
        exact WideAt.sameKey_self (key_lit h3)
      rw [h4] at h5
      cases h5
/-! ### at the operations -/
section
variable {w : World} {ops : Array Oper} {rest : List Oper} {o : Oper} {a : Act} {Q : Exit → Act → World → Prop} {b n : Nat} {f : ByteArray → Option Value} {t e : TypeId}
theorem run_look (h : MapIs w b n f) (ht : Tryz.prog.underlying t = some (.map 9 e)) {z : Value} (hz : (zeroValue e).run Tryz.prog w = .ok z w) {s : ByteArray} (hs : s.size ≤ maxLen) :
    (Instr.lookup t (.map (some b)) (.string s) false).run Tryz.prog w = .ok ((f s).getD z) w := by
  obtain ⟨D, h1, h2⟩ := h
  obtain ⟨v, ps, hr, hv⟩ := h1.lookup Kst ht hz (zd := .held z) (zp := []) rfl (key_mk hs)
  rw [hr]
  have e1 : DataW.held v = D.atKey (sk s) (.held z) := congrArg Prod.fst (Option.some.inj hv)
  cases q : f s with
  | none =>
    rw [h2.absent hs q] at e1
    have e1 := DataW.held.inj e1
    rw [e1]
    rfl
  | some u =>
    rw [((h2 s hs).2 u q).2] at e1
    have e1 := DataW.held.inj e1
    rw [e1]
    rfl
theorem run_look_ok (h : MapIs w b n f) (ht : Tryz.prog.underlying t = some (.map 9 e)) {z : Value} (hz : (zeroValue e).run Tryz.prog w = .ok z w) {s : ByteArray} (hs : s.size ≤ maxLen) :
    (Instr.lookup t (.map (some b)) (.string s) true).run Tryz.prog w = .ok (.tuple #[(f s).getD z, .bool (f s).isSome]) w := by
  obtain ⟨D, h1, h2⟩ := h
  obtain ⟨v, ps, hr, hv⟩ := h1.look_ok Kst ht hz (zd := .held z) (zp := []) rfl (key_mk hs)
  have hr2 : (Instr.lookup t (.map (some b)) (.string s) true).run Tryz.prog w = .ok (.tuple #[v, .bool (Maps.has D (sk s))]) w := hr
  rw [hr2]
  have e1 : DataW.held v = D.atKey (sk s) (.held z) := congrArg Prod.fst (Option.some.inj hv)
  cases q : f s with
  | none =>
    rw [h2.absent hs q] at e1
    have e1 := DataW.held.inj e1
    rw [e1, (h2 s hs).1 q]
    rfl
  | some u =>
    rw [((h2 s hs).2 u q).2] at e1
    have e1 := DataW.held.inj e1
    rw [e1, ((h2 s hs).2 u q).1]
    rfl
theorem wp_look (hg : o.guard = none) (m x : Operand) (hop : o.op = Op.lookup t m x false) (ht : Tryz.prog.underlying t = some (.map 9 e)) {z : Value} (hz : (zeroValue e).run Tryz.prog w = .ok z w)
    (hm : a.eval m = .map (some b)) (h : MapIs w b n f) (s : ByteArray) (hx : a.eval x = .string s) (hs : s.size ≤ maxLen) (hK : wpList Tryz.prog ops Q rest (a.put o.dst ((f s).getD z)) w) : wpList Tryz.prog ops Q (o :: rest) a w := by
  refine wpList_plain hg fun K' hK' => ?_
  have hrun := run_look h ht hz hs
  unfold Oper.wp
  simp [execOp, hop, hm, hx, hrun, Result.andThen]
  exact hK' _ _ hK
theorem wp_look_ok (hg : o.guard = none) (m x : Operand) (hop : o.op = Op.lookup t m x true) (ht : Tryz.prog.underlying t = some (.map 9 e)) {z : Value} (hz : (zeroValue e).run Tryz.prog w = .ok z w)
    (hm : a.eval m = .map (some b)) (h : MapIs w b n f) (s : ByteArray) (hx : a.eval x = .string s) (hs : s.size ≤ maxLen) (hK : wpList Tryz.prog ops Q rest (a.put o.dst (.tuple #[(f s).getD z, .bool (f s).isSome])) w) : wpList Tryz.prog ops Q (o :: rest) a w := by
  refine wpList_plain hg fun K' hK' => ?_
  have hrun := run_look_ok h ht hz hs
  unfold Oper.wp
  simp [execOp, hop, hm, hx, hrun, Result.andThen]
  exact hK' _ _ hK
theorem wp_mapset (hg : o.guard = none) (m x v : Operand) (hop : o.op = Op.mapUpdate t m x v) (ht : Tryz.prog.underlying t = some (.map 9 e)) (hm : a.eval m = .map (some b)) (h : MapIs w b n f) (hn : n < 1000000000)
    (s : ByteArray) (hx : a.eval x = .string s) (hs : s.size ≤ maxLen) (u : Value) (hv : a.eval v = u)
    (hK : ∀ w', MapIs w' b (n + 1) (updF f s (some u)) → On b w w' → wpList Tryz.prog ops Q rest (a.put o.dst undef) w') : wpList Tryz.prog ops Q (o :: rest) a w := by
  obtain ⟨D, h1, h2⟩ := h
  refine wpList_mapUpdate_own w hg m x v t hop 9 e Kst ht rawV b n D hm h1 (by unfold maxLen; omega) (.string s) u (sk s) hx hv (key_mk hs) (.held u) [] rfl ?_
  intro w' h3 h4
  refine hK w' ⟨_, h3, h2.put h1.isMap hs u⟩ ⟨(Below.refl b w).grown h4 (Nat.le_of_lt h1.lt) fun k hk => by injection hk with hk; omega, fun k hk hne => h4.block k hk fun e => hne (by injection e)⟩
theorem wp_mapdel (hg : o.guard = none) (m x : Operand) (k2 : TypeId) (hk2 : k2 = 9) (hop : o.op = Op.call { callee := Callee.builtin Builtin.delete, args := #[m, x], argTypes := #[t, k2] }) (ht : Tryz.prog.underlying t = some (.map 9 e))
    (hm : a.eval m = .map (some b)) (h : MapIs w b n f) (s : ByteArray) (hx : a.eval x = .string s) (hs : s.size ≤ maxLen)
    (hK : ∀ w', MapIs w' b n (updF f s none) → On b w w' → wpList Tryz.prog ops Q rest (a.put o.dst (.tuple #[])) w') : wpList Tryz.prog ops Q (o :: rest) a w := by
  subst hk2
  obtain ⟨D, h1, h2⟩ := h
  refine wpList_delete_own w hg m x t 9 hop e Kst ht rawV b n D hm h1 (.string s) (sk s) hx (key_mk hs) ?_
  intro w' h3 h5
  have h4 := h5.grown
  refine hK w' ⟨_, h3, h2.del⟩ ⟨(Below.refl b w).grown h4 (Nat.le_of_lt h1.lt) fun k hk => by injection hk with hk; omega, fun k hk hne => h4.block k hk fun e => hne (by injection e)⟩
theorem wp_maplen (hg : o.guard = none) (m : Operand) (hop : o.op = Op.call { callee := Callee.builtin Builtin.len, args := #[m], argTypes := #[t] }) (ht : Tryz.prog.underlying t = some (.map 9 e))
    (hm : a.eval m = .map (some b)) (h : MapIs w b n f) (hK : ∀ k : Nat, k ≤ n → (k = 0 ↔ ∀ s, s.size ≤ maxLen → f s = none) → wpList Tryz.prog ops Q rest (a.put o.dst (.int .i64 (k : Int))) w) : wpList Tryz.prog ops Q (o :: rest) a w := by
  obtain ⟨D, h1, h2⟩ := h
  exact wpList_len_own w hg m t hop 9 e ht rawV b n D hm h1 (hK _ h1.size_le (own_size h1 h2))
theorem run_maplen (h : MapIs w b n f) (ht : Tryz.prog.underlying t = some (.map 9 e)) : ∃ k : Nat, k ≤ n ∧ (k = 0 ↔ ∀ s, s.size ≤ maxLen → f s = none) ∧ ∀ ty, (Builtin.len_ #[t] ty #[.map (some b)]).run Tryz.prog w = .ok (.int .i64 (k : Int)) w := by
  obtain ⟨D, h1, h2⟩ := h
  exact ⟨_, h1.size_le, own_size h1 h2, fun ty => h1.len ht ty⟩
/-! ### range -/
/-- The iterator r over the map b: the keys still to come. -/
def RangeIs (w : World) (b r n : Nat) (f : ByteArray → Option Value) (todo : ByteArray → Bool) (cnt : Nat) : Prop :=
  ∃ D left, w.ranges Tryz.prog 9 rawV b r n D left cnt ∧ FOf D f ∧ ∀ s, s.size ≤ maxLen → left (sk s) = todo s
theorem RangeIs.map {r cnt : Nat} {todo : ByteArray → Bool} (h : RangeIs w b r n f todo cnt) : MapIs w b n f := by
  obtain ⟨D, left, h1, h2, _⟩ := h
  exact ⟨D, h1.owns, h2⟩
theorem RangeIs.lt {r cnt : Nat} {todo : ByteArray → Bool} (h : RangeIs w b r n f todo cnt) : r < w.heap.size := by
  obtain ⟨D, left, h1, h2, _⟩ := h
  exact h1.lt
theorem RangeIs.ne {r cnt : Nat} {todo : ByteArray → Bool} (h : RangeIs w b r n f todo cnt) : r ≠ b := by
  obtain ⟨D, left, h1, h2, _⟩ := h
  exact h1.ne
theorem RangeIs.left_eq {r cnt : Nat} {todo : ByteArray → Bool} (h : RangeIs w b r n f todo cnt) : w.rangeLeft b r = cnt := by
  obtain ⟨D, left, h1, h2, _⟩ := h
  exact h1.left_eq
theorem RangeIs.block {w' : World} {r cnt : Nat} {todo : ByteArray → Bool} (h : RangeIs w b r n f todo cnt) (hb : w'.heap[b]? = w.heap[b]?) (hr : w'.heap[r]? = w.heap[r]?) : RangeIs w' b r n f todo cnt := by
  obtain ⟨D, left, ⟨es, clock, since, seen, c0, h1, h2, h3, h4, h5, h6⟩, h7⟩ := h
  exact ⟨D, left, ⟨es, clock, since, seen, c0, hb.trans h1, h2, h3, h4, hr.trans h5, h6⟩, h7⟩
theorem RangeIs.below {w' : World} {r cnt : Nat} {todo : ByteArray → Bool} (h : RangeIs w b r n f todo cnt) (hb : Below w.heap.size w w') : RangeIs w' b r n f todo cnt := h.block (hb.block b h.map.lt) (hb.block r h.lt)
theorem wp_maprange (hg : o.guard = none) (m : Operand) (hop : o.op = Op.range t m) (ht : Tryz.prog.underlying t = some (.map 9 e)) (hm : a.eval m = .map (some b)) (h : MapIs w b n f)
    (hK : ∀ w' cnt, RangeIs w' b w.heap.size n f (fun s => (f s).isSome) cnt → cnt ≤ n → Below w.heap.size w w' → w'.heap.size = w.heap.size + 1 → wpList Tryz.prog ops Q rest (a.put o.dst (.pointer (some ⟨w.heap.size, 0, none⟩))) w') : wpList Tryz.prog ops Q (o :: rest) a w := by
  obtain ⟨D, h1, h2⟩ := h
  refine wpList_range_own w hg m t hop 9 e Kst ht rawV b n D hm h1 ?_
  intro w' h3 h4 h5
  refine hK w' _ ⟨D, _, h3, h2, fun s hs => ?_⟩ h1.size_le ((Below.refl _ w).grown h4 (Nat.le_refl _) fun k hk => by cases hk) h5
  show Maps.has D (sk s) = (f s).isSome
  cases q : f s with
  | none => exact (h2 s hs).1 q
  | some v => exact ((h2 s hs).2 v q).1
theorem wp_mapnext (hg : o.guard = none) (it : Operand) (hop : o.op = Op.next it false) (r : Nat) (todo : ByteArray → Bool) (cnt : Nat) (hit : a.eval it = .pointer (some ⟨r, 0, none⟩)) (h : RangeIs w b r n f todo cnt)
    (hDone : (∀ s, s.size ≤ maxLen → todo s = false) → wpList Tryz.prog ops Q rest (a.put o.dst (.tuple #[.bool false])) w)
    (hMore : ∀ (x : ByteArray) (v : Value) (w' : World) (cnt' : Nat), x.size ≤ maxLen → todo x = true → f x = some v → RangeIs w' b r n f (fun s => todo s && !decide (s = x)) cnt' → cnt' < cnt → On r w w' → w'.heap.size = w.heap.size →
      (Instr.entry (.pointer (some ⟨r, 0, none⟩))).run Tryz.prog w' = .ok (.tuple #[.string x, v]) w' → wpList Tryz.prog ops Q rest (a.put o.dst (.tuple #[.bool true, .string x, v])) w') : wpList Tryz.prog ops Q (o :: rest) a w := by
  have hlt := h.lt
  obtain ⟨D, left, h1, h2, h3⟩ := h
  refine wpList_next_ranges w hg it hop 9 Kst rawV Value.string (fun v : Value => v) (fun key kl hk => by obtain ⟨s, e, _⟩ := WideMaps.string_of_keyOf tStr hk; exact ⟨s, e⟩) (fun v y _ => ⟨v, rfl⟩) b r n D left cnt hit h1 ?_ ?_
  · intro _ hl
    exact hDone fun s hs => by rw [← h3 s hs]; exact hl _
  · intro x v kl y w' cnt' hk hlk hv hat hrg hlt2 hgr hsz hen
    obtain ⟨s, e1, e2, hs⟩ := WideMaps.string_of_keyOf tStr hk
    injection e1 with e1
    subst e1
    have e3 : kl = sk x := e2
    subst e3
    have hy : y = (.held v, []) := (Option.some.inj hv).symm
    have hf : f x = some v := by
      cases q : f x with
      | none =>
        have := hat .nil
        rw [h2.absent hs q, hy] at this
        exact absurd (congrArg (fun d : DataW Value => match d with | .nil => true | _ => false) this) (fun e => by cases e)
      | some u =>
        have := hat .nil
        rw [((h2 x hs).2 u q).2, hy] at this
        rw [DataW.held.inj this]
    refine hMore x v w' cnt' hs (by rw [← h3 x hs]; exact hlk) hf ⟨D, _, hrg, h2, fun z hz => ?_⟩ hlt2 ⟨(Below.refl r w).grown hgr (Nat.le_of_lt hlt) fun k hk => by injection hk with hk; omega, fun k hk hne => hgr.block k hk fun e => hne (by injection e)⟩ hsz hen
    show (left (sk z) && !(sk z).sameKey (sk x)) = (todo z && !decide (z = x))
    rw [h3 z hz]
    by_cases e : z = x
    · rw [e, WideAt.sameKey_self (key_lit hs), decide_eq_true rfl]
    · rw [Maps.sameKey_ne (fun e2 => e (sk_inj e2)), decide_eq_false e]
end
end Go.Proofs.YtohjgegnamcnlaaGreat
