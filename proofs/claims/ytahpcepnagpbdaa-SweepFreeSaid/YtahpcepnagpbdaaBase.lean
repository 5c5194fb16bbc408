/- Small words for the walks of this seat: a region that draws its order and whose calls only make memory; slices of records that read as lists. No program in sight. -/
import Derived.WalkKit
import Derived.WalkSpells
import Derived.WalkLawsBesides
import Derived.Handy
import Derived.BigQuiet
import Derived.Lib.Hide
import Derived.Maps.AppendAt
import Derived.Deep.AppendLies
namespace Go.Proofs.Ytahpcepnagpbdaa
open Go.RowKit

/-! ### a region that draws its order, its calls making memory only -/
def BW (w : World) := {w' : World // Below w.heap.size w w'}
instance bwNonempty (w : World) : Nonempty (BW w) := ⟨⟨w, Below.refl _ _⟩⟩
theorem wp_region_below {P : Program} {id : Nat} {Q : Exit → Act → World → Prop} {a : Act} {w : World} {l : List Oper} (hm : P.follows .mixedOrders = true) (hB : Region.lexB .any l.toArray = true)
    (h : wpQuiet P l.toArray (fun w' => ∃ x : BW w, w' = x.1) (fun a' => ∀ w', (∃ x : BW w, w' = x.1) → Q .normal a' w') l a) : (Code.region id l.toArray true).wp P Q a w :=
  wp_region_quiet (C := fun w' => ∃ x : BW w, w' = x.1) hm hB ⟨⟨{ w with drawn := w.drawn + 1 }, (Below.refl _ _).drew⟩, rfl⟩ (by simpa using h)
theorem calls_bw {P : Program} {f : FuncId} {args : Array Value} {w : World} {v : Value} (x : BW w)
    (h : Calls P f args x.1 fun e w' => e = .returned v ∧ Below x.1.heap.size x.1 w') : Calls P f args x.1 fun e w'' => e = .returned v ∧ ∃ y : BW w, w'' = y.1 :=
  h.mono fun _ _ ⟨he, hb⟩ => ⟨he, ⟨⟨_, x.2.trans (hb.mono x.2.size)⟩, rfl⟩⟩
theorem bw_cell {w : World} (x : BW w) {p : Addr} {v : Value} (h : w.cell? p = some v) (hp : p.block < w.heap.size) : x.1.cell? p = some v := (x.2.cell hp).trans h

theorem ret_int {k : IntKind} {a b : Int} (h : a = b) : Ending.returned (.int k a) = .returned (.int k b) := by rw [h]
theorem ret_bool {a b : Bool} (h : a = b) : Ending.returned (.bool a) = .returned (.bool b) := by rw [h]

/-- What a call that only makes memory hands back: one plain value. -/
def Ret (w : World) (v : Value) (e : Ending) (w' : World) : Prop := e = .returned v ∧ Below w.heap.size w w'

/-! ### a call through a function value that lies in a slot -/
theorem wpList_call_fn {P : Program} {ops : Array Oper} {rest : List Oper} {a : Act} {w : World} {Q : Exit → Act → World → Prop} {dst : Option Tmp} {ty : TypeId} {pos : String} {after : Array Edge} {xs : Array Operand} {ats : Array TypeId}
    {vs : Array Value} {v : Value} {S : World → Prop} (t : Tmp) (f : FuncId) (hv : a.eval (.tmp t) = .func (.func f) #[] #[]) (hx : xs.toList.map a.eval = vs.toList)
    (hent : ∀ (args : Array Value) (w : World), Sem.run P (callFunc f args) w = .ok (.enter f args) w) (hc : Calls P f vs w fun e w' => e = .returned v ∧ S w')
    (hk : ∀ w', S w' → wpList P ops Q rest (a.put dst v) w') :
    wpList P ops Q ({ dst := dst, op := .call { callee := .value (.tmp t), args := xs, argTypes := ats }, type := ty, pos := pos, after := after, guard := none } :: rest) a w := by
  refine wpList_plain rfl fun K hK => ?_
  unfold Oper.wp
  have he : execOp a.eval { dst := dst, op := .call { callee := .value (.tmp t), args := xs, argTypes := ats }, type := ty, pos := pos, after := after, guard := none } = callFunc f (#[] ++ xs.map a.eval ++ #[]) := by
    simp only [execOp, resolve, hv]
    rfl
  have hx' : xs.map a.eval = vs := by rw [← Array.toList_inj, Array.toList_map, hx]
  rw [he, hent, hx']
  simp only [Array.empty_append, Array.append_empty]
  rw [Oper.upon_enter]
  refine hc.mono ?_
  rintro e w' ⟨rfl, hS⟩
  exact hK _ _ (hk w' hS)

/-- The same, guarded or not, of a closure: what it captured stands behind the arguments. -/
theorem wpList_call_cl {P : Program} {ops : Array Oper} {rest : List Oper} {a : Act} {w : World} {Q : Exit → Act → World → Prop} {dst : Option Tmp} {ty : TypeId} {pos : String} {after : Array Edge} {xs : Array Operand} {ats : Array TypeId} {gd : Option (Nat × Bool)}
    {vs cap : Array Value} {v : Value} {S : World → Prop} (t : Tmp) (f : FuncId) (hv : a.eval (.tmp t) = .func (.func f) #[] cap) (hx : xs.toList.map a.eval ++ cap.toList = vs.toList)
    (hw : Region.wanted { dst := dst, op := .call { callee := .value (.tmp t), args := xs, argTypes := ats }, type := ty, pos := pos, after := after, guard := gd } (yielded ops a.tmps) = true)
    (hent : ∀ (args : Array Value) (w : World), Sem.run P (callFunc f args) w = .ok (.enter f args) w) (hc : Calls P f vs w fun e w' => e = .returned v ∧ S w')
    (hk : ∀ w', S w' → wpList P ops Q rest (a.put dst v) w') :
    wpList P ops Q ({ dst := dst, op := .call { callee := .value (.tmp t), args := xs, argTypes := ats }, type := ty, pos := pos, after := after, guard := gd } :: rest) a w := by
  refine wpList_step fun K hK => ?_
  rw [if_pos hw]
  unfold Oper.wp
  have he : execOp a.eval { dst := dst, op := .call { callee := .value (.tmp t), args := xs, argTypes := ats }, type := ty, pos := pos, after := after, guard := gd } = callFunc f (#[] ++ xs.map a.eval ++ cap) := by
    simp only [execOp, resolve, hv]
    rfl
  have hx' : xs.map a.eval ++ cap = vs := by rw [← Array.toList_inj, Array.toList_append, Array.toList_map, hx]
  rw [he, hent, Array.empty_append, hx', Oper.upon_enter]
  refine hc.mono ?_
  rintro e w' ⟨rfl, hS⟩
  exact hK _ _ (hk w' hS)

/-! ### slices of records -/
def RowsIn (w : World) (v : Value) (n k : Nat) (f : Nat → Nat → Value) : Prop :=
  ∃ A c, v = .slice A n c ∧ n ≤ c ∧ c ≤ 9223372036854775807 ∧
    (0 < n → ∃ b off, A = some ⟨b, off, none⟩ ∧ b < w.heap.size ∧ ∀ i j, i < n → j < k → w.cell? ⟨b, off + i * k + j, none⟩ = some (f i j))
section
variable {w w' : World} {v : Value} {n k c b off : Nat} {A : Option Addr} {f : Nat → Nat → Value}
theorem RowsIn.below (h : RowsIn w v n k f) (hb : Below w.heap.size w w') : RowsIn w' v n k f := by
  obtain ⟨A, c, rfl, h1, h2, h3⟩ := h
  refine ⟨A, c, rfl, h1, h2, fun hn => ?_⟩
  obtain ⟨b, off, rfl, h4, h5⟩ := h3 hn
  exact ⟨b, off, rfl, Nat.lt_of_lt_of_le h4 hb.size, fun i j hi hj => (hb.cell (p := ⟨b, off + i * k + j, none⟩) h4).trans (h5 i j hi hj)⟩
theorem RowsIn.addr (h : RowsIn w (.slice A n c) n k f) (hn : 0 < n) : ∃ b off, A = some ⟨b, off, none⟩ ∧ b < w.heap.size := by
  obtain ⟨A', c', he, _, _, h3⟩ := h
  injection he with e1 e2 e3
  obtain ⟨b, off, hA, hb, _⟩ := h3 hn
  exact ⟨b, off, e1.trans hA, hb⟩
theorem RowsIn.cells (h : RowsIn w (.slice (some ⟨b, off, none⟩) n c) n k f) (i j : Nat) (hi : i < n) (hj : j < k) : w.cell? ⟨b, off + i * k + j, none⟩ = some (f i j) := by
  obtain ⟨A', c', he, _, _, h3⟩ := h
  injection he with e1 e2 e3
  obtain ⟨b', off', hA, hb, h5⟩ := h3 (by omega)
  rw [← e1] at hA
  injection hA with hA
  injection hA with hA1 hA2
  rw [hA1, hA2]
  exact h5 i j hi hj
theorem RowsIn.form (h : RowsIn w v n k f) : ∃ A c, v = .slice A n c ∧ n ≤ c ∧ c ≤ 9223372036854775807 := by
  obtain ⟨A, c, h0, h1, h2, _⟩ := h
  exact ⟨A, c, h0, h1, h2⟩
theorem RowsIn.congr {g : Nat → Nat → Value} (h : RowsIn w v n k f) (hg : ∀ i j, i < n → j < k → f i j = g i j) : RowsIn w v n k g := by
  obtain ⟨A, c, h0, h1, h2, h3⟩ := h
  refine ⟨A, c, h0, h1, h2, fun hn => ?_⟩
  obtain ⟨b, off, hA, hb, h5⟩ := h3 hn
  exact ⟨b, off, hA, hb, fun i j hi hj => (h5 i j hi hj).trans (by rw [hg i j hi hj])⟩
theorem RowsIn.nil : RowsIn w (.slice none 0 0) 0 k f := ⟨none, 0, rfl, Nat.le_refl _, by omega, fun h => absurd h (by omega)⟩
end

/-! ### lists of spans -/
abbrev Sp := Int × Int
def fr (l : List Sp) (i : Nat) : Int := (l.getD i (0, 0)).1
def tt (l : List Sp) (i : Nat) : Int := (l.getD i (0, 0)).2
def spanCell (l : List Sp) (i j : Nat) : Value := .int .i64 (if j = 0 then fr l i else tt l i)
def IsSpans (w : World) (v : Value) (l : List Sp) : Prop := RowsIn w v l.length 2 (spanCell l)
section
variable {w w' : World} {v : Value} {n c b off : Nat} {A : Option Addr} {l : List Sp}
theorem IsSpans.below (h : IsSpans w v l) (hb : Below w.heap.size w w') : IsSpans w' v l := RowsIn.below h hb
theorem IsSpans.alloc (h : IsSpans w v l) (o : Obj) : IsSpans (w.alloc o) v l := h.below ((Below.refl _ _).alloc (Nat.le_refl _) o)
theorem IsSpans.bw (h : IsSpans w v l) (x : BW w) : IsSpans x.1 v l := RowsIn.below h x.2
theorem IsSpans.form (h : IsSpans w v l) : ∃ A c, v = .slice A l.length c ∧ l.length ≤ c ∧ c ≤ 9223372036854775807 := RowsIn.form h
theorem IsSpans.addr (h : IsSpans w (.slice A l.length c) l) (hn : 0 < l.length) : ∃ b off, A = some ⟨b, off, none⟩ ∧ b < w.heap.size := RowsIn.addr h hn
theorem IsSpans.c0 (h : IsSpans w (.slice (some ⟨b, off, none⟩) l.length c) l) (i : Nat) (hi : i < l.length) : w.cell? ⟨b, off + i * 2, none⟩ = some (.int .i64 (fr l i)) := RowsIn.cells h i 0 hi (by omega)
theorem IsSpans.c1 (h : IsSpans w (.slice (some ⟨b, off, none⟩) l.length c) l) (i : Nat) (hi : i < l.length) : w.cell? ⟨b, off + i * 2 + 1, none⟩ = some (.int .i64 (tt l i)) := RowsIn.cells h i 1 hi (by omega)
theorem IsSpans.nil : IsSpans w (.slice none 0 0) [] := RowsIn.nil
end

/-- A list and an error number. -/
def RetLE (w : World) (r : List Sp × Int) (e : Ending) (w' : World) : Prop := ∃ v, e = .returned (.tuple #[v, .int .i64 r.2]) ∧ IsSpans w' v r.1 ∧ Below w.heap.size w w'
/-- A list. -/
def RetL (w : World) (r : List Sp) (e : Ending) (w' : World) : Prop := ∃ v, e = .returned v ∧ IsSpans w' v r ∧ Below w.heap.size w w'

/-! ### a list that the call itself makes -/
def flat (l : List Sp) : List Value := l.flatMap fun s => [.int .i64 s.1, .int .i64 s.2]
theorem flat_length (l : List Sp) : (flat l).length = l.length * 2 := by
  unfold flat
  induction l with
  | nil => rfl
  | cons s l ih => simp only [List.flatMap_cons, List.length_append, ih, List.length_cons, List.length_nil]; omega
theorem flat_snoc (l : List Sp) (s : Sp) : flat (l ++ [s]) = flat l ++ [.int .i64 s.1, .int .i64 s.2] := by simp [flat]
theorem flat_get (l : List Sp) : ∀ i j, i < l.length → j < 2 → (flat l)[i * 2 + j]? = some (spanCell l i j) := by
  induction l with
  | nil => intro i j hi; simp at hi
  | cons s l ih =>
    intro i j hi hj
    have e : flat (s :: l) = .int .i64 s.1 :: .int .i64 s.2 :: flat l := by simp [flat]
    rw [e]
    cases i with
    | zero =>
      rcases (by omega : j = 0 ∨ j = 1) with rfl | rfl <;> simp [spanCell, fr, tt]
    | succ i =>
      have := ih i j (by simpa using hi) hj
      rw [show (i + 1) * 2 + j = (i * 2 + j) + 1 + 1 from by omega]
      simp only [List.getElem?_cons_succ]
      rw [this]
      simp [spanCell, fr, tt]
theorem spans_of_own {w : World} {base : Nat} {e : TypeId} {v : Value} {l : List Sp} (h : w.ownsRow base e 2 v l.length (flat l)) : IsSpans w v l := by
  rcases h.2 with ⟨rfl, h0⟩ | ⟨g, cap, cur, rfl, hg, hh, h1, h2, h3, h4⟩
  · have : l = [] := List.eq_nil_of_length_eq_zero h0
    subst this
    exact IsSpans.nil
  · refine ⟨_, _, rfl, h1, by unfold maxLen at h2; exact h2, fun hn => ⟨g, 0, rfl, ?_, fun i j hi hj => ?_⟩⟩
    · rcases Nat.lt_or_ge g w.heap.size with hlt | hge
      · exact hlt
      · rw [Array.getElem?_eq_none hge] at hh; cases hh
    · have hc := h.cellAt (i * 2 + j) (by omega)
      rw [flat_get l i j hi hj] at hc
      simpa [Nat.add_assoc] using hc
theorem own_nil (w : World) (base : Nat) (e : TypeId) (size : Nat) : w.ownsRow base e size (.slice none 0 0) 0 [] := ⟨by simp, .inl ⟨rfl, rfl⟩⟩
/-- An own list stands while the world below some point, its own block there, stands. -/
theorem own_below {w w' : World} {base size n B : Nat} {e : TypeId} {v : Value} {xs : List Value} (h : w.ownsRow base e size v n xs) (hb : Below B w w') (hB : w.heap.size ≤ B) : w'.ownsRow base e size v n xs := by
  obtain ⟨h1, h2⟩ := h
  refine ⟨h1, h2.imp id ?_⟩
  rintro ⟨g, cap, cur, hv, hg, hh, r⟩
  refine ⟨g, cap, cur, hv, hg, ?_, r⟩
  rw [hb.block g ?_]
  · exact hh
  · rcases Nat.lt_or_ge g w.heap.size with hlt | hge
    · omega
    · rw [Array.getElem?_eq_none hge] at hh; cases hh
theorem append_span {P : Program} {tS tE : TypeId} (hS : P.underlying tS = some (.slice tE)) (hE : (P.info? tE).map (fun i => (i.zero, i.size, i.bytes)) = some (some (.agg #[.int .i64 0, .int .i64 0]), 2, 16))
    {ops : Array Oper} {rest : List Oper} {o : Oper} {a : Act} {Q : Exit → Act → World → Prop} (hgd : o.guard = none) (s x : Operand)
    (ho : o.op = .call { callee := .builtin .append, args := #[s, x], argTypes := #[tS, tS] })
    {w : World} (base : Nat) (v : Value) (l : List Sp) (p q : Int) (hs : a.eval s = v) (hown : w.ownsRow base tE 2 v l.length (flat l))
    (hx : a.eval x = .slice (some ⟨w.heap.size, 0, none⟩) 1 1) (hlen : l.length < 1000000000) (hbase : base ≤ w.heap.size)
    (h : ∀ v' w', w'.ownsRow base tE 2 v' (l ++ [(p, q)]).length (flat (l ++ [(p, q)])) → Below base w w' → wpList P ops Q rest (a.put o.dst v') w') :
    wpList P ops Q (o :: rest) a (w.alloc (.cells #[.int .i64 p, .int .i64 q] tE)) := by
  obtain ⟨i, hi, hz, hsz, hby⟩ := info_parts hE
  refine wpList_append_own_at (w.alloc (.cells #[.int .i64 p, .int .i64 q] tE)) hgd s x tS ho base tE i _ 2 16 hS hi hz hsz hby rfl (by omega) v l.length (flat l) hs (hown.alloc _) ⟨w.heap.size, 0, none⟩ 1 1
    [.int .i64 p, .int .i64 q] hx rfl ?_ (by simp [Value.oneCell']) (by unfold maxLen; omega) (by omega) (by simp; omega) ?_
  · intro j u hu
    rcases j with _ | _ | j <;> simp at hu
    · subst hu; simp [Addr.add]
    · subst hu; simp [Addr.add]
  · intro v' w' hown' hg _ _
    refine h v' w' ?_ ?_
    · rw [flat_snoc]; simpa using hown'
    · refine ((Below.refl base w).alloc hbase _).grown hg (by simp; omega) ?_
      intro k hk
      exact (hown.lt k hk).1
end Go.Proofs.Ytahpcepnagpbdaa
