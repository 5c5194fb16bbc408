/- Law 39: the encoding of a row; appends of one element of any kind. -/
import Derived.Lib.AppendStr
import Derived.Laws.BytesArg
import Derived.Test.YtohjgegnamcnlaaGreatAgB
namespace Go.Proofs.YtohjgegnamcnlaaGreat
open Go.RowKit Go.Shelf
open Go.Sort (grow grow_grow grow_empty)

/-- append(own, x): x of any kind, its cells in the block just built. -/
theorem append1 {P : Program} {tS tE : TypeId} {z : Value} {size bytes : Nat} (hS : P.underlying tS = some (.slice tE)) (hE : (P.info? tE).map (fun i => (i.zero, i.size, i.bytes)) = some (some z, size, bytes))
    (hz : z.cells.size = size) (hsz : 0 < size) (hby : bytes ≤ 64)
    {ops : Array Oper} {rest : List Oper} {o : Oper} {a : Act} {Q : Exit → Act → World → Prop} (hgd : o.guard = none) (s x : Operand)
    (ho : o.op = .call { callee := .builtin .append, args := #[s, x], argTypes := #[tS, tS] })
    {w : World} {cs : Array Value} {t : TypeId} (base : Nat) (v : Value) (n : Nat) (xs news : List Value) (hs : a.eval s = v) (hown : w.ownsRow base tE size v n xs)
    {b : Nat} (hx : a.eval x = .slice (some ⟨b, 0, none⟩) 1 1) (hb0 : w.heap.size = b) (hcs : cs.toList = news) (hl : news.length = size) (h1 : ∀ u ∈ news, u.oneCell' = true) (hlen : n < 900000000) (hbase : base ≤ w.heap.size)
    (h : ∀ v' w', w'.ownsRow base tE size v' (n + 1) (xs ++ news) → Below base w w' → (∀ k, k < w.heap.size → v.ownBlock ≠ some k → w'.heap[k]? = w.heap[k]?) → (v'.ownBlock = v.ownBlock ∨ v'.ownBlock = some (w.heap.size + 1)) → wpList P ops Q rest (a.put o.dst v') w') :
    wpList P ops Q (o :: rest) a (w.alloc (.cells cs t)) := by
  subst hb0
  obtain ⟨i, hi, hzz, hss, hbb⟩ := info_parts hE
  have hbb2 : (n + 1) * bytes ≤ 140737488355328 := Nat.le_trans (Nat.mul_le_mul_left _ hby) (by omega)
  refine wpList_append_own_at (w.alloc (.cells cs t)) hgd s x tS ho base tE i z size bytes hS hi hzz hss hbb hz hsz v n xs hs (hown.alloc _) ⟨w.heap.size, 0, none⟩ 1 1 news hx (by omega) ?_ h1 (by unfold maxLen; omega) hbb2 (by simp; omega) ?_
  · intro j u hu
    have e2 : (⟨w.heap.size, 0, none⟩ : Addr).add j = ⟨w.heap.size, j, none⟩ := by rw [Addr.add_lit, Nat.zero_add]
    rw [e2, blk_get (heap_alloc_new w _), ← hu, ← hcs, Array.getElem?_toList]
  · intro v' w' hown' hg _ hb
    rw [World.size_alloc] at hb
    have hblk : ∀ k, k < w.heap.size → v.ownBlock ≠ some k → w'.heap[k]? = w.heap[k]? := fun k hk hne => by
      rw [hg.block k (by rw [World.size_alloc]; omega) (fun e => hne e.symm)]
      exact ((Below.refl w.heap.size w).alloc (Nat.le_refl _) _).block k hk
    refine h v' w' hown' ?_ hblk hb
    refine ((Below.refl base w).alloc hbase (.cells cs t)).grown hg (by simp; omega) ?_
    intro k hk
    exact (hown.lt k hk).1
/-! ### bytes as numbers -/
def kX (n : Int) : Int := bits .xor .u64 (IntKind.u64.wrap n) 9223372036854775808
def enc1 (n : Int) (k : Nat) : Int := kX n / 2 ^ (56 - 8 * k) % 256
def enc8 (n : Int) : List Int := (List.range 8).map (enc1 n)
def sNums (s : ByteArray) : List Int := s.data.toList.map fun b => (b.toNat : Int)
def numsV (v : Val) : List Int := v.1 :: (if v.1 = 2 then sNums v.2.2 ++ [0] else if v.1 = 3 then [v.2.1] else enc8 v.2.1)
def numsR (r : VRow) : List Int := r.flatMap numsV
def encR (r : VRow) : ByteArray := strOfNums (numsR r)
def I64 (v : Val) : Prop := -9223372036854775808 ≤ v.2.1 ∧ v.2.1 ≤ 9223372036854775807
theorem kX_eq (n : Int) : ∃ m : Nat, kX n = (m : Int) ∧ m < 18446744073709551616 ∧ m = (n % 18446744073709551616).toNat ^^^ 9223372036854775808 := by
  have h0 : 0 ≤ n % 18446744073709551616 := by omega
  have h1 : n % 18446744073709551616 < 18446744073709551616 := by omega
  refine ⟨_, ?_, ?_, rfl⟩
  · unfold kX
    rw [IntKind.wrap_u64, u64_xor _ _ h0 h1 (by omega) (by omega)]
    rfl
  · exact Nat.xor_lt_two_pow (n := 64) (by omega) (by omega)
theorem kX_inj {a b : Int} (ha : -9223372036854775808 ≤ a ∧ a ≤ 9223372036854775807) (hb : -9223372036854775808 ≤ b ∧ b ≤ 9223372036854775807) (h : kX a = kX b) : a = b := by
  obtain ⟨m, h1, _, h3⟩ := kX_eq a
  obtain ⟨m2, k1, _, k3⟩ := kX_eq b
  have e : m = m2 := by omega
  rw [h3, k3] at e
  have can : ∀ x y : Nat, (x ^^^ y) ^^^ y = x := fun x y => by rw [Nat.xor_assoc, Nat.xor_self, Nat.xor_zero]
  have e2 := congrArg (fun x : Nat => x ^^^ 9223372036854775808) e
  rw [can, can] at e2
  omega
theorem enc1_nat (n : Int) (k : Nat) (hk : k < 8) : ∃ m : Nat, kX n = (m : Int) ∧ m < 18446744073709551616 ∧ enc1 n k = ((m / 256 ^ (7 - k) % 256 : Nat) : Int) := by
  obtain ⟨m, h1, h2, _⟩ := kX_eq n
  refine ⟨m, h1, h2, ?_⟩
  unfold enc1
  rw [h1]
  have e : 56 - 8 * k = 8 * (7 - k) := by omega
  rw [e]
  have e2 : ((2 : Int) ^ (8 * (7 - k))) = ((256 ^ (7 - k) : Nat) : Int) := by
    rw [Int.pow_mul, Int.natCast_pow]
    rfl
  rw [e2, ← Int.natCast_ediv]
  rfl
theorem enc1_rng (n : Int) (k : Nat) : 0 ≤ enc1 n k ∧ enc1 n k < 256 := by
  unfold enc1
  omega
theorem digits_eq {a b : Nat} : ∀ n, (∀ k, k < n → a / 256 ^ k % 256 = b / 256 ^ k % 256) → a % 256 ^ n = b % 256 ^ n
  | 0, _ => by simp [Nat.mod_one]
  | n + 1, h => by
    rw [Nat.pow_succ, Nat.mod_mul, Nat.mod_mul, digits_eq n fun k hk => h k (by omega), h n (by omega)]
theorem enc8_inj {a b : Int} (ha : -9223372036854775808 ≤ a ∧ a ≤ 9223372036854775807) (hb : -9223372036854775808 ≤ b ∧ b ≤ 9223372036854775807) (h : enc8 a = enc8 b) : a = b := by
  refine kX_inj ha hb ?_
  obtain ⟨m, h1, h2, _⟩ := kX_eq a
  obtain ⟨m2, k1, k2, _⟩ := kX_eq b
  have key : ∀ k, k < 8 → m / 256 ^ k % 256 = m2 / 256 ^ k % 256 := fun k hk => by
    obtain ⟨q, e1, _, e2⟩ := enc1_nat a (7 - k) (by omega)
    obtain ⟨q2, f1, _, f2⟩ := enc1_nat b (7 - k) (by omega)
    obtain rfl : q = m := by omega
    obtain rfl : q2 = m2 := by omega
    have e : enc1 a (7 - k) = enc1 b (7 - k) := by
      have := congrArg (fun l : List Int => l[7 - k]?) h
      simpa [enc8, show 7 - k < 8 by omega] using this
    rw [e2, f2, show 7 - (7 - k) = k by omega] at e
    exact_mod_cast e
  have := digits_eq 8 key
  omega
/-! ### the encoding tells valid values apart -/
def okV (v : Val) : Prop := vB v = true ∧ I64 v
def okR (r : VRow) : Prop := ∀ v ∈ r, okV v
theorem vB_kind {v : Val} (h : vB v = true) : (v.1 = 1 ∧ v.2.2 = ⟨#[]⟩) ∨ (v.1 = 2 ∧ v.2.1 = 0 ∧ v.2.2.size ≤ 30 ∧ textB v.2.2 = true) ∨ (v.1 = 3 ∧ v.2.2 = ⟨#[]⟩ ∧ (v.2.1 = 0 ∨ v.2.1 = 1)) ∨ (v.1 = 4 ∧ v.2.2 = ⟨#[]⟩) := by
  have emp : ∀ s : ByteArray, s.toList.isEmpty = true → s = ⟨#[]⟩ := fun s hs => by
    apply bytes_ext
    rw [ByteArray.toList_eq, List.isEmpty_iff] at hs
    rw [hs]
  unfold vB at h
  split at h
  · exact .inl ⟨by assumption, emp _ h⟩
  split at h
  · simp only [Bool.and_eq_true, decide_eq_true_eq] at h
    exact .inr (.inl ⟨by assumption, h.1.1, h.1.2, h.2⟩)
  split at h
  · simp only [Bool.and_eq_true, Bool.or_eq_true, decide_eq_true_eq] at h
    exact .inr (.inr (.inl ⟨by assumption, emp _ h.1, h.2⟩))
  split at h
  · simp only [Bool.and_eq_true, decide_eq_true_eq] at h
    exact .inr (.inr (.inr ⟨by assumption, emp _ h.1.1⟩))
  · cases h
theorem text_pos {s : ByteArray} (h : textB s = true) : ∀ x ∈ sNums s, 0 < x ∧ x < 256 := by
  intro x hx
  obtain ⟨b, hb, rfl⟩ := List.mem_map.1 hx
  have := List.all_eq_true.1 h b hb
  simp only [badB, Bool.not_eq_true', Bool.or_eq_false_iff, decide_eq_false_iff_not] at this
  have := b.toNat_lt
  omega
theorem term_inj : ∀ (a b x y : List Int), (∀ z ∈ a, 0 < z ∧ z < 256) → (∀ z ∈ b, 0 < z ∧ z < 256) → a ++ [0] ++ x = b ++ [0] ++ y → a = b ∧ x = y
  | [], [], x, y, _, _, h => by simpa using h
  | [], b :: l, x, y, _, hb, h => by
    simp only [List.nil_append, List.cons_append, List.cons.injEq] at h
    have := hb b (List.mem_cons_self ..)
    omega
  | a :: k, [], x, y, ha, _, h => by
    simp only [List.nil_append, List.cons_append, List.cons.injEq] at h
    have := ha a (List.mem_cons_self ..)
    omega
  | a :: k, b :: l, x, y, ha, hb, h => by
    simp only [List.cons_append, List.cons.injEq] at h
    obtain ⟨h1, h2⟩ := term_inj k l x y (fun z hz => ha z (List.mem_cons_of_mem _ hz)) (fun z hz => hb z (List.mem_cons_of_mem _ hz)) (by simpa using h.2)
    exact ⟨by rw [h.1, h1], h2⟩
theorem sNums_inj {a b : ByteArray} (h : sNums a = sNums b) : a = b := by
  apply bytes_ext
  unfold sNums at h
  exact List.map_inj_right (fun x y e => UInt8.toNat_inj.1 (by omega)) |>.1 h
theorem enc8_len (n : Int) : (enc8 n).length = 8 := by simp [enc8]
theorem numsV_inj {a b : Val} {x y : List Int} (ha : okV a) (hb : okV b) (h : numsV a ++ x = numsV b ++ y) : a = b ∧ x = y := by
  obtain ⟨a0, a1, a2⟩ := a
  obtain ⟨b0, b1, b2⟩ := b
  unfold numsV at h
  simp only [List.cons_append, List.cons.injEq] at h
  obtain ⟨e, h⟩ := h
  subst e
  have e8 : enc8 a1 ++ x = enc8 b1 ++ y → a1 = b1 ∧ x = y := fun h => by
    obtain ⟨h1, h2⟩ := List.append_inj h (by rw [enc8_len, enc8_len])
    exact ⟨enc8_inj ha.2 hb.2 h1, h2⟩
  rcases vB_kind ha.1 with ⟨k, p⟩ | ⟨k, p, _, q⟩ | ⟨k, p, _⟩ | ⟨k, p⟩ <;> simp only at k p <;> subst k
  · rcases vB_kind hb.1 with ⟨k', p'⟩ | ⟨k', _⟩ | ⟨k', _⟩ | ⟨k', _⟩ <;> simp only at k' <;> try omega
    simp only at p'
    obtain ⟨h1, h2⟩ := e8 (by simpa using h)
    exact ⟨by rw [p, p', h1], h2⟩
  · rcases vB_kind hb.1 with ⟨k', p'⟩ | ⟨k', p', _, q'⟩ | ⟨k', _⟩ | ⟨k', _⟩ <;> simp only at k' <;> try omega
    simp only at p' q q'
    simp only [if_true] at h
    obtain ⟨h1, h2⟩ := term_inj _ _ _ _ (text_pos q) (text_pos q') h
    exact ⟨by rw [p, p', sNums_inj h1], h2⟩
  · rcases vB_kind hb.1 with ⟨k', p'⟩ | ⟨k', p', _, q'⟩ | ⟨k', p', _⟩ | ⟨k', _⟩ <;> simp only at k' <;> try omega
    simp only at p'
    simp only [show ¬ (3 : Int) = 2 by omega, if_false, if_true, List.cons_append, List.nil_append, List.cons.injEq] at h
    exact ⟨by rw [p, p', h.1], h.2⟩
  · rcases vB_kind hb.1 with ⟨k', p'⟩ | ⟨k', p', _, q'⟩ | ⟨k', p', _⟩ | ⟨k', p'⟩ <;> simp only at k' <;> try omega
    simp only at p'
    obtain ⟨h1, h2⟩ := e8 (by simpa using h)
    exact ⟨by rw [p, p', h1], h2⟩
theorem numsR_inj : ∀ {a b : VRow}, okR a → okR b → numsR a = numsR b → a = b
  | [], [], _, _, _ => rfl
  | [], b :: l, _, _, h => by simp [numsR, numsV] at h
  | a :: k, [], _, _, h => by simp [numsR, numsV] at h
  | a :: k, b :: l, ha, hb, h => by
    unfold numsR at h
    rw [List.flatMap_cons, List.flatMap_cons] at h
    obtain ⟨h1, h2⟩ := numsV_inj (ha a (List.mem_cons_self ..)) (hb b (List.mem_cons_self ..)) h
    rw [h1, numsR_inj (fun v hv => ha v (List.mem_cons_of_mem _ hv)) (fun v hv => hb v (List.mem_cons_of_mem _ hv)) h2]
theorem numsV_rng {v : Val} (h : okV v) : ∀ x ∈ numsV v, 0 ≤ x ∧ x < 256 := by
  intro x hx
  unfold numsV at hx
  have h8 : ∀ x ∈ enc8 v.2.1, 0 ≤ x ∧ x < 256 := fun x hx => by
    obtain ⟨k, _, rfl⟩ := List.mem_map.1 hx
    exact enc1_rng _ _
  rcases vB_kind h.1 with ⟨k, p⟩ | ⟨k, p, _, q⟩ | ⟨k, p, q⟩ | ⟨k, p⟩ <;> rw [k] at hx
  · rcases List.mem_cons.1 hx with e | e
    · omega
    · exact h8 x (by simpa using e)
  · rcases List.mem_cons.1 hx with e | e
    · omega
    · simp only [if_true] at e
      rcases List.mem_append.1 e with e | e
      · have := text_pos q x e
        omega
      · simp at e
        omega
  · rcases List.mem_cons.1 hx with e | e
    · omega
    · simp at e
      omega
  · rcases List.mem_cons.1 hx with e | e
    · omega
    · exact h8 x (by simpa using e)
theorem numsR_rng {r : VRow} (h : okR r) : ∀ x ∈ numsR r, 0 ≤ x ∧ x < 256 := by
  intro x hx
  obtain ⟨v, hv, hx⟩ := List.mem_flatMap.1 hx
  exact numsV_rng (h v hv) x hx
theorem strOfNums_inj {a b : List Int} (ha : ∀ x ∈ a, 0 ≤ x ∧ x < 256) (hb : ∀ x ∈ b, 0 ≤ x ∧ x < 256) (h : strOfNums a = strOfNums b) : a = b := by
  have e := congrArg (fun s : ByteArray => s.data.toList.map fun b => (b.toNat : Int)) h
  simp only [strOfNums_data, List.map_map] at e
  have key : ∀ l : List Int, (∀ x ∈ l, 0 ≤ x ∧ x < 256) → l.map ((fun b : UInt8 => (b.toNat : Int)) ∘ fun n : Int => UInt8.ofNat n.toNat) = l := fun l hl => by
    conv => rhs; rw [← List.map_id l]
    refine List.map_congr_left fun x hx => ?_
    have := hl x hx
    simp only [Function.comp, UInt8.toNat_ofNat', id]
    omega
  rwa [key a ha, key b hb] at e
theorem encR_inj {a b : VRow} (ha : okR a) (hb : okR b) (h : encR a = encR b) : a = b := numsR_inj ha hb (strOfNums_inj (numsR_rng ha) (numsR_rng hb) h)
theorem numsV_len {v : Val} (h : okV v) : (numsV v).length ≤ 32 := by
  unfold numsV
  rcases vB_kind h.1 with ⟨k, p⟩ | ⟨k, p, q, _⟩ | ⟨k, p, q⟩ | ⟨k, p⟩ <;> rw [k]
  · simp [enc8_len]
  · have e : (sNums v.2.2).length = v.2.2.size := by simp [sNums]
    simp [e]
    omega
  · simp
  · simp [enc8_len]
theorem numsR_len : ∀ {r : VRow}, okR r → (numsR r).length ≤ 32 * r.length
  | [], _ => by simp [numsR]
  | a :: r, h => by
    have h1 := numsV_len (h a (List.mem_cons_self ..))
    have h2 := numsR_len (r := r) fun v hv => h v (List.mem_cons_of_mem _ hv)
    unfold numsR at h2 ⊢
    rw [List.flatMap_cons, List.length_append, List.length_cons]
    omega
theorem rowB_ok {r : VRow} (h : okR r) : rowB r = true := List.all_eq_true.2 fun v hv => (h v hv).1
end Go.Proofs.YtohjgegnamcnlaaGreat
