/- Slice expressions of slices that read as rows, whatever the address, the length and the capacity; appending such a row to an own list of indices. No program in sight. -/
import Derived.Test.YtahpcepnagpbdaaGrow
namespace Go.Proofs.Ytahpcepnagpbdaa
open Go.RowKit

theorem sliced_rows {w : World} {A : Option Addr} {n c k : Nat} {f : Nat → Nat → Value} (h : RowsIn w (.slice A n c) n k f) (l m : Nat) (hl : l ≤ m) (hm : m ≤ n) : RowsIn w (sliced A l m c k) (m - l) k (fun i j => f (i + l) j) := by
  obtain ⟨A', c', he, h1, h2, h3⟩ := h
  injection he with e1 _ e3
  subst e1 e3
  refine ⟨_, c - l, rfl, by omega, by omega, fun hn => ?_⟩
  obtain ⟨b, off, rfl, hb, hc⟩ := h3 (by omega)
  rw [if_neg (by omega)]
  refine ⟨b, off + l * k, by simp [Addr.add], hb, fun i j hi hj => ?_⟩
  have := hc (i + l) j (by omega) hj
  rw [show off + l * k + i * k + j = off + (i + l) * k + j from by rw [Nat.add_mul]; omega]
  exact this

section
variable {w : World} {k n c : Nat} {A : Option Addr} {f : Nat → Nat → Value}
theorem hi_rows (h : RowsIn w (.slice A n c) n k f) (m : Nat) (hm : m ≤ n) : RowsIn w (.slice A m c) m k f := by
  obtain ⟨A', c', he, h1, h2, h3⟩ := h
  injection he with e1 _ e3
  subst e1 e3
  refine ⟨A, c, rfl, by omega, h2, fun hn => ?_⟩
  obtain ⟨b, off, rfl, hb, hc⟩ := h3 (by omega)
  exact ⟨b, off, rfl, hb, fun i j hi hj => hc i j (by omega) hj⟩
/-- 'x[m:]' as the walk spells it. -/
theorem lo_rows (h : RowsIn w (.slice A n c) n k f) (m : Nat) (hm : m ≤ n) : RowsIn w (.slice (if c = m then A else A.map fun x => x.add (m * k)) (n - m) (c - m)) (n - m) k (fun i j => f (i + m) j) := by
  have := sliced_rows h m n hm (Nat.le_refl _)
  exact this
theorem lo_rows1 (h : RowsIn w (.slice A n c) n 1 f) (m : Nat) (hm : m ≤ n) : RowsIn w (.slice (if c = m then A else A.map fun x => x.add m) (n - m) (c - m)) (n - m) 1 (fun i j => f (i + m) j) := by
  have := lo_rows h m hm
  rwa [Nat.mul_one] at this
theorem lo_rows1s {b off : Nat} (h : RowsIn w (.slice (some ⟨b, off, none⟩) n c) n 1 f) (m : Nat) (hm : m ≤ n) : RowsIn w (.slice (if c = m then some ⟨b, off, none⟩ else some ⟨b, off + m, none⟩) (n - m) (c - m)) (n - m) 1 (fun i j => f (i + m) j) := by
  have := lo_rows1 h m hm
  rw [Option.map_some, show (⟨b, off, none⟩ : Addr).add m = ⟨b, off + m, none⟩ from by
    by_cases h0 : m = 0
    · subst h0; simp [Addr.add]
    · simp [Addr.add]; omega] at this
  exact this
theorem no_rows (v : Value) (A : Option Addr) (c : Nat) (hv : v = .slice A 0 c) (hc : c ≤ 9223372036854775807) (f : Nat → Nat → Value) : RowsIn w v 0 k f := ⟨A, c, hv, by omega, hc, fun h => absurd h (by omega)⟩
end
theorem ints_take {w : World} {v : Value} {E : List Int} {m : Nat} (h : RowsIn w v m 1 (intCell E)) (hm : m ≤ E.length) : IsInts w v (E.take m) := by
  have e : (E.take m).length = m := by simp; omega
  unfold IsInts
  rw [e]
  refine h.congr fun i j hi _ => ?_
  unfold intCell
  rw [← iv_at (by omega), ← iv_at (E := E.take m) (by rw [e]; exact hi), List.getElem_take]
theorem ints_drop {w : World} {v : Value} {E : List Int} {m : Nat} (h : RowsIn w v (E.length - m) 1 (fun i j => intCell E (i + m) j)) (hm : m ≤ E.length) : IsInts w v (E.drop m) := by
  have e : (E.drop m).length = E.length - m := by simp
  unfold IsInts
  rw [e]
  refine h.congr fun i j hi _ => ?_
  unfold intCell
  rw [← iv_at (by omega), ← iv_at (E := E.drop m) (by rw [e]; exact hi), List.getElem_drop]
  have e2 : i + m = m + i := Nat.add_comm _ _
  simp only [e2]
theorem ints_addr {w : World} {A : Option Addr} {c : Nat} {E : List Int} (h : IsInts w (.slice A E.length c) E) : (A = none → E.length = 0) ∧ ∀ ad, A = some ad → ∀ j u, (flatI E)[j]? = some u → w.cell? (ad.add j) = some u := by
  refine ⟨fun hA => ?_, fun ad hA j u hu => ?_⟩
  · rcases Nat.eq_zero_or_pos E.length with h3 | h3
    · exact h3
    · obtain ⟨b', off, h4, _⟩ := h.addr h3; rw [hA] at h4; cases h4
  · have hj : j < E.length := by
      rcases Nat.lt_or_ge j E.length with hj | hj
      · exact hj
      · rw [List.getElem?_eq_none (by simp [flatI]; omega)] at hu; cases hu
    obtain ⟨b, off, rfl, hb⟩ := h.addr (by omega)
    injection hA with hA
    subst hA
    have h1 := h.c0 j hj
    rw [flatI_get E j hj] at hu
    rw [← Option.some.inj hu, ← h1]
    congr 1
    by_cases h0 : j = 0
    · subst h0; simp [Addr.add]
    · simp [Addr.add]; omega
/-- 'append(own, x...)' at numbers. -/
theorem append_ints {P : Program} {tS tE : TypeId} (hS : P.underlying tS = some (.slice tE)) (hE : (P.info? tE).map (fun i => (i.zero, i.size, i.bytes)) = some (some (.int .i64 0), 1, 8))
    {ops : Array Oper} {rest : List Oper} {o : Oper} {a : Act} {Q : Exit → Act → World → Prop} (hgd : o.guard = none) (s x : Operand)
    (ho : o.op = .call { callee := .builtin .append, args := #[s, x], argTypes := #[tS, tS] })
    {w : World} (base : Nat) (v u : Value) (n : Nat) (l E : List Int) (hs : a.eval s = v) (hown : w.ownsRow base tE 1 v n (flatI l)) (hn : n = l.length) (hx : a.eval x = u) (hu : IsInts w u E) (hlen : n + E.length < 900000000) (hbase : base ≤ w.heap.size)
    (h : ∀ v' w', w'.ownsRow base tE 1 v' (l ++ E).length (flatI (l ++ E)) → Below base w w' → wpList P ops Q rest (a.put o.dst v') w') :
    wpList P ops Q (o :: rest) a w := by
  obtain ⟨A, c, rfl, h1, h2⟩ := hu.form
  obtain ⟨hA, hc⟩ := ints_addr hu
  refine append_rows hS hE rfl (by omega) (by omega) hgd s x ho base v n (flatI l) hs hown A E.length c hx (flatI E) (flatI_length E) hA hc (flatI_one E) (by omega) hbase ?_
  intro v' w' hown' hb
  refine h v' w' ?_ hb
  rw [List.length_append, ← hn]
  simpa [flatI] using hown'
end Go.Proofs.Ytahpcepnagpbdaa
