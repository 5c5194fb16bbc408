/- Law 39: rows, lists of rows and lists of facts in memory; aggregate.pick. -/
import Derived.Test.YtohjgegnamcnlaaGreatAgD
namespace Go.Proofs.YtohjgegnamcnlaaGreat
open Go.RowKit Go.Shelf
open Go.Sort (grow grow_grow grow_empty)

theorem flatK_get {α : Type} {f : α → List Value} {k : Nat} (hk : ∀ x, (f x).length = k) : ∀ (L : List α) (i j : Nat) (h : i < L.length), j < k → (L.flatMap f)[i * k + j]? = (f L[i])[j]?
  | [], i, j, h, _ => absurd h (by simp)
  | a :: L, i, j, h, hj => by
    rw [List.flatMap_cons]
    cases i with
    | zero =>
      rw [Nat.zero_mul, Nat.zero_add, List.getElem?_append_left (by rw [hk]; exact hj)]
      rfl
    | succ i =>
      rw [List.getElem?_append_right (by rw [hk, Nat.succ_mul]; omega), hk, show (i + 1) * k + j - k = i * k + j by rw [Nat.succ_mul]; omega, flatK_get hk L i j (by simpa using h) hj]
      rfl
theorem flatK_len {α : Type} {f : α → List Value} {k : Nat} (hk : ∀ x, (f x).length = k) (L : List α) : (L.flatMap f).length = L.length * k := by
  induction L with
  | nil => simp
  | cons a L ih => rw [List.flatMap_cons, List.length_append, hk, ih, List.length_cons, Nat.succ_mul]; omega
theorem rows_of_own {w : World} {base k n : Nat} {e : TypeId} {v : Value} {xs : List Value} {f : Nat → Nat → Value} (h : w.ownsRow base e k v n xs) (hf : ∀ i j, i < n → j < k → xs[i * k + j]? = some (f i j)) : RowsIn w v n k f := by
  rcases h.2 with ⟨rfl, rfl⟩ | ⟨g, cap, cur, rfl, hg, hh, h4, h5, h6, h7⟩
  · exact RowsIn.nil
  · refine ⟨_, _, rfl, h4, by unfold maxLen at h5; exact h5, fun _ => ⟨g, 0, rfl, blk_lt hh, fun i j hi hj => ?_⟩⟩
    have hlt : i * k + j < n * k := by
      have := Nat.mul_le_mul_right k (show i + 1 ≤ n by omega)
      rw [Nat.succ_mul] at this
      omega
    rw [Nat.zero_add, blk_get hh, ← hf i j hi hj, ← h7, List.getElem?_take_of_lt hlt, Array.getElem?_toList]
/-! ### a row of one's own -/
def valL (x : Val) : List Value := [.int .i64 x.1, .int .i64 x.2.1, .string x.2.2]
def flatV (r : VRow) : List Value := r.flatMap valL
theorem valL_len (x : Val) : (valL x).length = 3 := rfl
theorem flatV_get (r : VRow) (i j : Nat) (hi : i < r.length) (hj : j < 3) : (flatV r)[i * 3 + j]? = some (valCell r i j) := by
  unfold flatV
  rw [flatK_get valL_len r i j hi hj, va_at hi]
  unfold valL valCell
  rcases (by omega : j = 0 ∨ j = 1 ∨ j = 2) with rfl | rfl | rfl <;> rfl
theorem flatV_len (r : VRow) : (flatV r).length = r.length * 3 := flatK_len valL_len r
theorem flatV_one (r : VRow) : ∀ u ∈ flatV r, u.oneCell' = true := fun u hu => by
  obtain ⟨x, _, hx⟩ := List.mem_flatMap.1 hu
  simp only [valL, List.mem_cons, List.not_mem_nil, or_false] at hx
  rcases hx with rfl | rfl | rfl <;> rfl
def OwnsV (w : World) (base : Nat) (v : Value) (r : VRow) : Prop := w.ownsRow base 51 3 v r.length (flatV r)
theorem OwnsV.below {w w' : World} {base : Nat} {v : Value} {r : VRow} (h : OwnsV w base v r) (hb : Below w.heap.size w w') : OwnsV w' base v r := own_below h hb (Nat.le_refl _)
theorem OwnsV.vals {w : World} {base : Nat} {v : Value} {r : VRow} (h : OwnsV w base v r) : IsVals w v r := rows_of_own h fun i j hi hj => flatV_get r i j hi hj
theorem OwnsV.nil (w : World) (base : Nat) : OwnsV w base (.slice none 0 0) [] := own_nil _ _ _ _
theorem OwnsV.lt {w : World} {base : Nat} {v : Value} {r : VRow} (h : OwnsV w base v r) : v.ownBlock ≠ some w.heap.size := fun e => by
  have := (World.ownsRow.lt h _ e).2
  omega
theorem tValues : Tryz.prog.underlying 47 = some (.slice 51) := Tryz.underlying47
theorem tValueInfo : (Tryz.prog.info? 51).map (fun i => (i.zero, i.size, i.bytes)) = some (some (.agg #[.int .i64 0, .int .i64 0, .string ⟨#[]⟩]), 3, 32) := by kernel_rfl
/-- append(own, value) -/
theorem append_val {ops : Array Oper} {rest : List Oper} {o : Oper} {a : Act} {Q : Exit → Act → World → Prop} (hgd : o.guard = none) (s x : Operand)
    (ho : o.op = .call { callee := .builtin .append, args := #[s, x], argTypes := #[47, 47] })
    {w : World} {k n : Int} {st : ByteArray} {t : TypeId} (base : Nat) (v : Value) (r : VRow) (hs : a.eval s = v) (hown : OwnsV w base v r)
    {b : Nat} (hx : a.eval x = .slice (some ⟨b, 0, none⟩) 1 1) (hb0 : w.heap.size = b) (hlen : r.length < 900000000) (hbase : base ≤ w.heap.size)
    (h : ∀ v' w', OwnsV w' base v' (r ++ [(k, n, st)]) → Below base w w' → (∀ k, k < w.heap.size → v.ownBlock ≠ some k → w'.heap[k]? = w.heap[k]?) → (v'.ownBlock = v.ownBlock ∨ v'.ownBlock = some (w.heap.size + 1)) → wpList Tryz.prog ops Q rest (a.put o.dst v') w') :
    wpList Tryz.prog ops Q (o :: rest) a (w.alloc (.cells #[.int .i64 k, .int .i64 n, .string st] t)) := by
  refine append1 tValues tValueInfo rfl (by omega) (by omega) hgd s x ho base v r.length (flatV r) (valL (k, n, st)) hs hown hx hb0 rfl rfl (by simp [valL, Value.oneCell']) hlen hbase ?_
  intro v' w' h1 h2 h3 h4
  refine h v' w' ?_ h2 h3 h4
  unfold OwnsV flatV
  rw [List.flatMap_append, List.length_append]
  simpa [flatV] using h1
/-! ### lists of rows -/
def vr (R : List VRow) (i : Nat) : VRow := R.getD i []
theorem vr_at {R : List VRow} {i : Nat} (h : i < R.length) : R[i] = vr R i := by simp [vr, h]
theorem vr_mem {R : List VRow} {i : Nat} (h : i < R.length) : vr R i ∈ R := by rw [← vr_at h]; exact List.getElem_mem h
/-- A list of rows; S: their slices. -/
def RvIn (w : World) (v : Value) (R : List VRow) (S : Nat → Value) : Prop := RowsIn w v R.length 1 (fun i _ => S i) ∧ ∀ i, i < R.length → IsVals w (S i) (vr R i)
def IsRv (w : World) (v : Value) (R : List VRow) : Prop := ∃ S, RvIn w v R S
section
variable {w w' : World} {v : Value} {R : List VRow} {S : Nat → Value} {A : Option Addr} {b off c : Nat}
theorem RvIn.below (h : RvIn w v R S) (hb : Below w.heap.size w w') : RvIn w' v R S := ⟨h.1.below hb, fun i hi => (h.2 i hi).below hb⟩
theorem IsRv.below (h : IsRv w v R) (hb : Below w.heap.size w w') : IsRv w' v R := by obtain ⟨S, h⟩ := h; exact ⟨S, h.below hb⟩
theorem RvIn.form (h : RvIn w v R S) : ∃ A c, v = .slice A R.length c ∧ R.length ≤ c ∧ c ≤ 9223372036854775807 := RowsIn.form h.1
theorem RvIn.addr (h : RvIn w (.slice A R.length c) R S) (hn : 0 < R.length) : ∃ b off, A = some ⟨b, off, none⟩ ∧ b < w.heap.size := RowsIn.addr h.1 hn
theorem RvIn.cell (h : RvIn w (.slice (some ⟨b, off, none⟩) R.length c) R S) (i : Nat) (hi : i < R.length) : w.cell? ⟨b, off + i, none⟩ = some (S i) := by
  have := RowsIn.cells h.1 i 0 hi (by omega)
  simpa using this
end
/-! ### lists of facts -/
def fc (F : List Fct) (i : Nat) : Fct := F.getD i ([], (0, 0))
theorem fc_at {F : List Fct} {i : Nat} (h : i < F.length) : F[i] = fc F i := by simp [fc, h]
theorem fc_mem {F : List Fct} {i : Nat} (h : i < F.length) : fc F i ∈ F := by rw [← fc_at h]; exact List.getElem_mem h
def fcCell (F : List Fct) (S : Nat → Value) (i j : Nat) : Value := if j = 0 then S i else .int .i64 (if j = 1 then (fc F i).2.1 else (fc F i).2.2)
/-- A list of facts; S: the slices of their values. -/
def FsIn (w : World) (v : Value) (F : List Fct) (S : Nat → Value) : Prop := RowsIn w v F.length 3 (fcCell F S) ∧ ∀ i, i < F.length → IsVals w (S i) (fc F i).1
def IsFs (w : World) (v : Value) (F : List Fct) : Prop := ∃ S, FsIn w v F S
section
variable {w w' : World} {v : Value} {F : List Fct} {S : Nat → Value} {A : Option Addr} {b off c : Nat}
theorem FsIn.below (h : FsIn w v F S) (hb : Below w.heap.size w w') : FsIn w' v F S := ⟨h.1.below hb, fun i hi => (h.2 i hi).below hb⟩
theorem IsFs.below (h : IsFs w v F) (hb : Below w.heap.size w w') : IsFs w' v F := by obtain ⟨S, h⟩ := h; exact ⟨S, h.below hb⟩
theorem FsIn.form (h : FsIn w v F S) : ∃ A c, v = .slice A F.length c ∧ F.length ≤ c ∧ c ≤ 9223372036854775807 := RowsIn.form h.1
theorem FsIn.addr (h : FsIn w (.slice A F.length c) F S) (hn : 0 < F.length) : ∃ b off, A = some ⟨b, off, none⟩ ∧ b < w.heap.size := RowsIn.addr h.1 hn
theorem FsIn.c0 (h : FsIn w (.slice (some ⟨b, off, none⟩) F.length c) F S) (i : Nat) (hi : i < F.length) : w.cell? ⟨b, off + i * 3, none⟩ = some (S i) := RowsIn.cells h.1 i 0 hi (by omega)
theorem FsIn.c1 (h : FsIn w (.slice (some ⟨b, off, none⟩) F.length c) F S) (i : Nat) (hi : i < F.length) : w.cell? ⟨b, off + i * 3 + 1, none⟩ = some (.int .i64 (fc F i).2.1) := RowsIn.cells h.1 i 1 hi (by omega)
theorem FsIn.c2 (h : FsIn w (.slice (some ⟨b, off, none⟩) F.length c) F S) (i : Nat) (hi : i < F.length) : w.cell? ⟨b, off + i * 3 + 2, none⟩ = some (.int .i64 (fc F i).2.2) := RowsIn.cells h.1 i 2 hi (by omega)
theorem IsFs.nil : IsFs w (.slice none 0 0) [] := ⟨fun _ => undef, RowsIn.nil, fun i hi => absurd hi (by simp)⟩
end
/-! ### pick -/
def pickR (r : VRow) (ks : List Int) : VRow := ks.map fun k => va r k.toNat
def keysIn (n : Nat) (ks : List Int) : Prop := ∀ k ∈ ks, 0 ≤ k ∧ k < n
def VRet (r : VRow) (w : World) (e : Ending) (w' : World) : Prop := ∃ v, e = .returned v ∧ OwnsV w' w.heap.size v r ∧ Below w.heap.size w w'
theorem iv_mem' {l : List Int} {k : Nat} (h : k < l.length) : iv l k ∈ l := by rw [← iv_at h]; exact List.getElem_mem h
set_option maxRecDepth 100000 in
theorem apick_c (v vk : Value) (r : VRow) (ks : List Int) (w : World) (hs : IsVals w v r) (hk : IsInts w vk ks) (hok : keysIn r.length ks) (hl : ks.length ≤ 100000) : Calls Tryz.prog 37 #[v, vk] w (VRet (pickR r ks) w) := by
  obtain ⟨A1, c1, rfl, hn1, hc1⟩ := hs.form
  obtain ⟨A2, c2, rfl, hn2, hc2⟩ := hk.form
  have Hok := Lib.hid hok; have Hl := Lib.hid hl
  clear hok hl
  go_enter Tryz.func37, Tryz.ntmps37
  go_wp2_with fail
  go_loopw [5, 10] (fun o i wr => ∃ k : Nat, i = .int .i64 (k : Int) ∧ k ≤ ks.length ∧ OwnsV wr w.heap.size o (pickR r (ks.take k)) ∧ Below w.heap.size w wr) (fun _ i _ => ks.length - (intOf i).toNat)
  case atStart => exact ⟨0, rfl, Nat.zero_le _, OwnsV.nil _ _, Below.refl _ _⟩
  case round =>
    obtain ⟨k, rfl, hkl, hown, hb⟩ := hrel
    by_cases hlt : k < ks.length
    · obtain ⟨b2, o2, rfl, hbk2⟩ := hk.addr (by omega)
      have c0 := (hk.below hb).c0 k hlt
      obtain ⟨hp0, hp1⟩ := Hok.out _ (iv_mem' hlt)
      obtain ⟨m, hm⟩ : ∃ m : Nat, iv ks k = (m : Int) := ⟨(iv ks k).toNat, by omega⟩
      have HT : Hid (pickR r (ks.take (k + 1)) = pickR r (ks.take k) ++ [va r m]) := Lib.hid (by
        unfold pickR
        rw [List.take_succ_eq_append_getElem hlt, List.map_append, iv_at hlt, hm]
        simp)
      rw [hm] at c0 hp0 hp1
      have hmr : m < r.length := by omega
      obtain ⟨b1, o1, rfl, hbk1⟩ := hs.addr (by omega)
      have x0 := (hs.below hb).c0 m hmr
      have x1 := (hs.below hb).c1 m hmr
      have x2 := (hs.below hb).c2 m hmr
      have hlen : (pickR r (ks.take k)).length < 900000000 := by
        have := Hl.out
        unfold pickR
        rw [List.length_map, List.length_take]
        omega
      have Hlt := Lib.hid hlt
      generalize pickR r (ks.take k) = L at hown HT hlen
      generalize va r m = x at x0 x1 x2 HT
      clear hm hbk1 hbk2
      go_wp2_with (at_builtin; refine append_val rfl _ _ (by rfl) w.heap.size _ L (by rfl) hown (by rfl) (by rfl) hlen hb.size ?_; intro v4 w4 hown4 hb4 _ _; have hb4 := hb.trans hb4)
      go_roundw
      case rel => exact ⟨k + 1, by go_num, Hlt.out, by rw [HT.out]; exact hown4, hb4⟩
      case measure => have := Hlt.out; simp [intOf]; omega
    · obtain rfl : k = ks.length := by omega
      rw [List.take_length] at hown
      go_wp2_with fail
      go_ret
      exact ⟨_, rfl, hown, hb⟩
end Go.Proofs.YtohjgegnamcnlaaGreat
