/- Lists of numbers as rows; appending a slice, whatever its address, to a row that the call owns. No program in sight. -/
import Derived.Test.YtahpcepnagpbdaaBase
namespace Go.Proofs.Ytahpcepnagpbdaa
open Go.RowKit

def iv (E : List Int) (k : Nat) : Int := E.getD k 0
theorem iv_mem {E : List Int} {k : Nat} (hk : k < E.length) : iv E k ∈ E := by simp [iv, hk]
theorem iv_at {E : List Int} {k : Nat} (hk : k < E.length) : E[k] = iv E k := by simp [iv, hk]
theorem mem_iv {E : List Int} {x : Int} (h : x ∈ E) : ∃ k, k < E.length ∧ x = iv E k := by
  obtain ⟨k, hk, rfl⟩ := List.mem_iff_getElem.1 h
  exact ⟨k, hk, by simp [iv, hk]⟩
attribute [irreducible] iv
def intCell (l : List Int) (i _j : Nat) : Value := .int .i64 (iv l i)
def IsInts (w : World) (v : Value) (l : List Int) : Prop := RowsIn w v l.length 1 (intCell l)
section
variable {w w' : World} {v : Value} {l : List Int} {A : Option Addr} {b off c : Nat}
theorem IsInts.below (h : IsInts w v l) (hb : Below w.heap.size w w') : IsInts w' v l := RowsIn.below h hb
theorem IsInts.alloc (h : IsInts w v l) (o : Obj) : IsInts (w.alloc o) v l := h.below ((Below.refl _ _).alloc (Nat.le_refl _) o)
theorem IsInts.bw (h : IsInts w v l) (x : BW w) : IsInts x.1 v l := RowsIn.below h x.2
theorem IsInts.form (h : IsInts w v l) : ∃ A c, v = .slice A l.length c ∧ l.length ≤ c ∧ c ≤ 9223372036854775807 := RowsIn.form h
theorem IsInts.addr (h : IsInts w (.slice A l.length c) l) (hn : 0 < l.length) : ∃ b off, A = some ⟨b, off, none⟩ ∧ b < w.heap.size := RowsIn.addr h hn
theorem IsInts.c0 (h : IsInts w (.slice (some ⟨b, off, none⟩) l.length c) l) (i : Nat) (hi : i < l.length) : w.cell? ⟨b, off + i, none⟩ = some (.int .i64 (iv l i)) := by
  have := RowsIn.cells h i 0 hi (by omega)
  simpa [intCell] using this
theorem IsInts.nil : IsInts w (.slice none 0 0) [] := RowsIn.nil
end
def flatI (l : List Int) : List Value := l.map fun x => .int .i64 x
theorem flatI_length (l : List Int) : (flatI l).length = l.length * 1 := by simp [flatI]
theorem flatI_get (l : List Int) (i : Nat) (hi : i < l.length) : (flatI l)[i]? = some (.int .i64 (iv l i)) := by simp [flatI, hi, iv_at hi]
theorem ints_of_own {w : World} {base : Nat} {e : TypeId} {v : Value} {l : List Int} (h : w.ownsRow base e 1 v l.length (flatI l)) : IsInts w v l := by
  rcases h.2 with ⟨rfl, h0⟩ | ⟨g, cap, cur, rfl, _, hg, hnc, hcm, hcur, htake⟩
  · obtain rfl : l = [] := List.length_eq_zero_iff.1 h0
    exact IsInts.nil
  · refine ⟨some ⟨g, 0, none⟩, cap, rfl, hnc, by simp only [maxLen] at hcm; omega, fun hn => ⟨g, 0, rfl, ?_, fun i j hi hj => ?_⟩⟩
    · rcases Nat.lt_or_ge g w.heap.size with hlt | hge
      · exact hlt
      · rw [Array.getElem?_eq_none hge] at hg; cases hg
    · obtain rfl : j = 0 := by omega
      have := h.cellAt i (by omega)
      rw [show (0 + i * 1 + 0) = i from by omega, this, flatI_get l i hi]; rfl
theorem flatI_cells {w : World} {l : List Int} {A : Option Addr} {c : Nat} (h : IsInts w (.slice A l.length c) l) (i n : Nat) (hin : i + n ≤ l.length) (ad : Addr) (hA : ∀ b off, A = some ⟨b, off, none⟩ → 0 < n → ad = ⟨b, off + i, none⟩) :
    ∀ j u, (flatI ((l.drop i).take n))[j]? = some u → w.cell? (ad.add j) = some u := by
  intro j u hu
  have hj : j < n := by
    rcases Nat.lt_or_ge j n with hj | hj
    · exact hj
    · rw [List.getElem?_eq_none (by simp [flatI]; omega)] at hu; cases hu
  obtain ⟨b, off, rfl, hb⟩ := h.addr (by omega)
  rw [hA b off rfl (by omega)]
  have h1 := h.c0 (i + j) (by omega)
  have h2 : u = .int .i64 (iv l (i + j)) := by
    have h3 : (flatI ((l.drop i).take n))[j]? = some (.int .i64 (iv l (i + j))) := by
      simp [flatI, hj, List.getElem?_drop, show i + j < l.length by omega, iv_at]
    rw [h3] at hu
    exact (Option.some.inj hu).symm
  rw [h2, ← h1]
  congr 1
  simp [Addr.add, Nat.add_assoc]
theorem flatI_one (l : List Int) : ∀ u ∈ flatI l, u.oneCell' = true := by
  intro u hu
  obtain ⟨x, _, rfl⟩ := List.mem_map.1 hu
  rfl
theorem own_ins {w : World} {base n K M : Nat} {e : TypeId} {v : Value} {l : List Int} {x : Int} (h : w.ownsRow base e 1 v n ([] ++ flatI ((l.drop 0).take K) ++ [.int .i64 x] ++ flatI ((l.drop K).take M))) (hn : n = 0 + K + 1 + M) (hK : K + M = l.length) :
    w.ownsRow base e 1 v (l.take K ++ [x] ++ l.drop K).length (flatI (l.take K ++ [x] ++ l.drop K)) := by
  have e1 : (l.take K ++ [x] ++ l.drop K).length = n := by simp; omega
  have e2 : flatI (l.take K ++ [x] ++ l.drop K) = [] ++ flatI ((l.drop 0).take K) ++ [.int .i64 x] ++ flatI ((l.drop K).take M) := by
    rw [List.take_of_length_le (l := l.drop K) (by simp; omega)]
    simp [flatI]
  rw [e1, e2]; exact h

theorem run_append_owned_empty {P : Program} {w : World} (base : Nat) (t ty e : TypeId) (i : TypeInfo) (size : Nat) (ht : P.underlying t = some (.slice e)) (hi : P.info? e = some i)
    (v : Value) (n : Nat) (xs : List Value) (c : Nat) (hown : w.ownsRow base e size v n xs) :
    (Builtin.append_ #[t, t] ty #[v, .slice none 0 c]).run P w = .ok v w := by
  rcases hown.2 with ⟨rfl, rfl⟩ | ⟨g, cap, cur, rfl, _, _, hnc, _⟩
  · simp [Builtin.append_, run_underlying ht, sizeOf, typeInfo, hi, Builtin.lenOf, Builtin.firstCells]
  · simp [Builtin.append_, run_underlying ht, sizeOf, typeInfo, hi, Builtin.lenOf, Builtin.firstCells, hnc, storeCells]
theorem wpList_append_own_empty {P : Program} {w : World} {ops : Array Oper} {rest : List Oper} {o : Oper} {a : Act} {Q : Exit → Act → World → Prop} (hgd : o.guard = none) (s x : Operand) (t : TypeId)
    (ho : o.op = .call { callee := .builtin .append, args := #[s, x], argTypes := #[t, t] })
    (base : Nat) (e : TypeId) (i : TypeInfo) (size : Nat) (ht : P.underlying t = some (.slice e)) (hi : P.info? e = some i)
    (v : Value) (n : Nat) (xs : List Value) (hs : a.eval s = v) (hown : w.ownsRow base e size v n xs) (c : Nat) (hx : a.eval x = .slice none 0 c)
    (h : wpList P ops Q rest (a.put o.dst v) w) : wpList P ops Q (o :: rest) a w := by
  refine wpList_plain hgd fun K hK => ?_
  have hrun := run_append_owned_empty (P := P) (w := w) base t o.type e i size ht hi v n xs c hown
  unfold Oper.wp
  simp [execOp, ho, resolve, invoke, builtin, hs, hx, hrun, Result.andThen]
  exact hK _ _ h

/-- 'append(own, x...)', x any slice, empty or not. -/
theorem append_rows {P : Program} {tS tE : TypeId} {z : Value} {size bytes : Nat} (hS : P.underlying tS = some (.slice tE)) (hE : (P.info? tE).map (fun i => (i.zero, i.size, i.bytes)) = some (some z, size, bytes))
    (hz : z.cells.size = size) (hsz : 0 < size) (hby : bytes ≤ 64)
    {ops : Array Oper} {rest : List Oper} {o : Oper} {a : Act} {Q : Exit → Act → World → Prop} (hgd : o.guard = none) (s x : Operand)
    (ho : o.op = .call { callee := .builtin .append, args := #[s, x], argTypes := #[tS, tS] })
    {w : World} (base : Nat) (v : Value) (n : Nat) (xs : List Value) (hs : a.eval s = v) (hown : w.ownsRow base tE size v n xs)
    (A : Option Addr) (m c : Nat) (hx : a.eval x = .slice A m c) (news : List Value) (hl : news.length = m * size) (hA : A = none → m = 0)
    (hnews : ∀ ad, A = some ad → ∀ j u, news[j]? = some u → w.cell? (ad.add j) = some u) (h1 : ∀ u ∈ news, u.oneCell' = true) (hlen : n + m < 1000000000) (hbase : base ≤ w.heap.size)
    (h : ∀ v' w', w'.ownsRow base tE size v' (n + m) (xs ++ news) → Below base w w' → wpList P ops Q rest (a.put o.dst v') w') :
    wpList P ops Q (o :: rest) a w := by
  obtain ⟨i, hi, hzz, hss, hbb⟩ := info_parts hE
  cases A with
  | none =>
    obtain rfl := hA rfl
    obtain rfl : news = [] := List.length_eq_zero_iff.1 (by omega)
    refine wpList_append_own_empty hgd s x tS ho base tE i size hS hi v n xs hs hown c hx (h v w ?_ (Below.refl _ _))
    simpa using hown
  | some ad =>
    have hbb2 : (n + m) * bytes ≤ 140737488355328 := Nat.le_trans (Nat.mul_le_mul_left _ hby) (by omega)
    refine wpList_append_own (P := P) (w := w) hgd s x tS ho base tE i z size bytes hS hi hzz hss hbb hz hsz v n xs hs hown ad m c news hx hl (hnews ad rfl) h1 (by unfold maxLen; omega) hbb2 hbase ?_
    intro v' w' hown' hg _
    refine h v' w' hown' ?_
    refine (Below.refl base w).grown hg hbase ?_
    intro k hk
    exact (hown.lt k hk).1
end Go.Proofs.Ytahpcepnagpbdaa
