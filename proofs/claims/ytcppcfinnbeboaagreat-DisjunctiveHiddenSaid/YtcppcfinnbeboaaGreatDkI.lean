/- Law 47: an own list of choices, grown by one. -/
import Derived.Test.YtcppcfinnbeboaaGreatDkF
import Derived.Test.YtcppcfinnbeboaaGreatDkE
import Derived.Test.YtcppcfinnbeboaaGreatDkC
namespace Go.Proofs.YtcppcfinnbeboaaGreat
open Go.RowKit Go.Shelf

/-- A list of choices of the function's own that may grow; S: the slices of the spans, which lie elsewhere. -/
structure OwnC (w : World) (base : Nat) (v : Value) (L : List Cho) (S : Nat → Value) : Prop where
  own : w.ownsRow base 31 3 v L.length (flatC L S L.length)
  sp : ∀ i, i < L.length → IsSpans w (S i) (cho L i).2.2
  pos : ∀ i, i < L.length → 0 < (cho L i).2.2.length
  off : ∀ i, i < L.length → ∀ g, v.ownBlock = some g → sblk (S i) ≠ some g
theorem OwnC.nil {w : World} {base : Nat} {S : Nat → Value} : OwnC w base (.slice none 0 0) [] S := ⟨⟨rfl, .inl ⟨rfl, rfl⟩⟩, fun i hi => absurd hi (by simp), fun i hi => absurd hi (by simp), fun i hi => absurd hi (by simp)⟩
theorem OwnC.below {w w' : World} {base : Nat} {v : Value} {L : List Cho} {S : Nat → Value} (h : OwnC w base v L S) (hb : Below w.heap.size w w') : OwnC w' base v L S :=
  ⟨own_below h.own hb (Nat.le_refl _), fun i hi => (h.sp i hi).below hb, h.pos, h.off⟩
theorem OwnC.form {w : World} {base : Nat} {v : Value} {L : List Cho} {S : Nat → Value} (h : OwnC w base v L S) : ∃ A c, v = .slice A L.length c := by
  rcases h.own.2 with ⟨rfl, h0⟩ | ⟨g, cap, cur, rfl, _⟩
  · exact ⟨none, 0, by rw [h0]⟩
  · exact ⟨_, _, rfl⟩
theorem OwnC.chos {w : World} {base : Nat} {v : Value} {L : List Cho} {S : Nat → Value} (h : OwnC w base v L S) : IsChos w v L := by
  rcases h.own.2 with ⟨rfl, h0⟩ | ⟨g, cap, cur, rfl, hg, hh, h4, h5, h6, h7⟩
  · obtain rfl : L = [] := List.length_eq_zero_iff.1 h0
    exact IsChos.nil
  · refine ⟨S, ⟨_, _, rfl, h4, by unfold maxLen at h5; exact h5, fun _ => ⟨g, 0, rfl, blk_lt hh, fun i j hi hj => ?_⟩⟩, h.sp⟩
    rw [Nat.zero_add, blk_get hh]
    have e := flatC_get L S L.length i j hi hj
    rw [← h7, List.getElem?_take_of_lt (by omega), Array.getElem?_toList] at e
    exact e
theorem flatC_congr (L M : List Cho) (S T : Nat → Value) : ∀ n, (∀ i, i < n → cho L i = cho M i ∧ S i = T i) → flatC L S n = flatC M T n
  | 0, _ => rfl
  | n + 1, h => by
    rw [flatC_succ, flatC_succ, flatC_congr L M S T n fun i hi => h i (by omega)]
    obtain ⟨h1, h2⟩ := h n (by omega)
    unfold choCell
    rw [h1, h2]
theorem cho_snoc (L : List Cho) (x : Cho) (i : Nat) : cho (L ++ [x]) i = if i < L.length then cho L i else if i = L.length then x else (0, 0, []) := by
  unfold cho
  rw [List.getD_eq_getElem?_getD, List.getD_eq_getElem?_getD]
  by_cases h : i < L.length
  · rw [if_pos h, List.getElem?_append_left h]
  · rw [if_neg h, List.getElem?_append_right (by omega)]
    by_cases h2 : i = L.length
    · subst h2; rw [if_pos rfl, Nat.sub_self]; rfl
    · rw [if_neg h2, List.getElem?_eq_none (by simp; omega)]
      rfl
theorem tChoiceInfo1 : (Tryz.prog.info? 31).map (fun i => (i.zero, i.size, i.bytes)) = some (some (.agg #[.int .i64 0, .int .i64 0, .slice none 0 0]), 3, 40) := by kernel_rfl
set_option maxRecDepth 100000 in
theorem append_choG {ops : Array Oper} {rest : List Oper} {o : Oper} {a : Act} {Q : Exit → Act → World → Prop} (hgd : o.guard = none) (s x : Operand)
    (ho : o.op = .call { callee := .builtin .append, args := #[s, x], argTypes := #[22, 22] })
    {w : World} (base : Nat) (v : Value) (L : List Cho) (S : Nat → Value) (I J : Int) (u : Value) (sp : List Sp) (hs : a.eval s = v) (hown : OwnC w base v L S)
    (hx : a.eval x = .slice (some ⟨w.heap.size, 0, none⟩) 1 1) (hu : IsSpans w u sp) (hp : 0 < sp.length) (hub : ∀ g, v.ownBlock = some g → sblk u ≠ some g) (hlen : L.length < 100000000) (hbase : base ≤ w.heap.size)
    (h : ∀ v' w', OwnC w' base v' (L ++ [(I, J, sp)]) (fun i => if i = L.length then u else S i) → Below base w w' → (∀ b, b < w.heap.size → v.ownBlock ≠ some b → w'.heap[b]? = w.heap[b]?) → w.heap.size ≤ w'.heap.size → wpList Tryz.prog ops Q rest (a.put o.dst v') w') :
    wpList Tryz.prog ops Q (o :: rest) a (w.alloc (.cells #[.int .i64 I, .int .i64 J, u] 31)) := by
  obtain ⟨i, hi, hz, hsz, hby⟩ := info_parts tChoiceInfo1
  obtain ⟨Au, cu, hue, _, _⟩ := hu.form
  refine wpList_append_own_at (w.alloc (.cells #[.int .i64 I, .int .i64 J, u] 31)) hgd s x 22 ho base 31 i _ 3 40 Tryz.underlying22 hi hz hsz hby rfl (by omega) v L.length (flatC L S L.length) hs (hown.own.alloc _) ⟨w.heap.size, 0, none⟩ 1 1
    [.int .i64 I, .int .i64 J, u] hx rfl ?_ (by rw [hue]; simp [Value.oneCell']) (by unfold maxLen; omega) (by omega) (by simp; omega) ?_
  · intro j q hq
    rcases j with _ | _ | _ | j <;> simp at hq
    · subst hq; simp [Addr.add]
    · subst hq; simp [Addr.add]
    · subst hq; simp [Addr.add]
  · intro v' w' hown' hg _ hob
    have hblk : ∀ b, b < w.heap.size → v.ownBlock ≠ some b → w'.heap[b]? = w.heap[b]? ∧ v'.ownBlock ≠ some b := fun b hb hne => by
      refine ⟨?_, ?_⟩
      · exact (hg.block b (by simp; omega) (fun e => hne e.symm)).trans (((Below.refl w.heap.size w).alloc (Nat.le_refl _) _).block b hb)
      · rcases hob with e | e
        · rw [e]; exact hne
        · rw [e]; intro e'; have := Option.some.inj e'; simp at this; omega
    have hsz2 : w.heap.size ≤ w'.heap.size := by have := hg.size; simp at this; omega
    have hkeep : ∀ (t : Value) (l : List Sp), IsSpans w t l → 0 < l.length → (∀ g, v.ownBlock = some g → sblk t ≠ some g) → IsSpans w' t l ∧ ∀ g, v'.ownBlock = some g → sblk t ≠ some g := fun t l ht hl hn => by
      refine ⟨ht.blocks hsz2 fun b hb => ?_, fun g hg' e => ?_⟩
      · exact (hblk b (ht.blk_lt hl b hb) (fun e => hn b e hb)).1
      · exact (hblk g (ht.blk_lt hl g e) (fun e2 => hn g e2 e)).2 hg'
    refine h v' w' ⟨?_, fun k hk => ?_, fun k hk => ?_, fun k hk => ?_⟩ ?_ (fun b hb hne => (hblk b hb hne).1) hsz2
    · have e : flatC (L ++ [(I, J, sp)]) (fun i => if i = L.length then u else S i) (L ++ [(I, J, sp)]).length = flatC L S L.length ++ [.int .i64 I, .int .i64 J, u] := by
        rw [List.length_append, List.length_singleton, flatC_succ, flatC_congr (L ++ [(I, J, sp)]) L (fun i => if i = L.length then u else S i) S L.length fun i hi => ⟨by rw [cho_snoc, if_pos hi], by rw [if_neg (by omega)]⟩]
        congr 1
        unfold choCell
        rw [cho_snoc]
        simp
      rw [e, List.length_append, List.length_singleton]
      exact hown'
    · rw [List.length_append, List.length_singleton] at hk
      rw [cho_snoc]
      by_cases e : k < L.length
      · rw [if_pos e, if_neg (by omega)]
        exact (hkeep _ _ (hown.sp k e) (hown.pos k e) (hown.off k e)).1
      · rw [if_neg e, if_pos (by omega), if_pos (by omega)]
        exact (hkeep _ _ hu hp hub).1
    · rw [List.length_append, List.length_singleton] at hk
      rw [cho_snoc]
      by_cases e : k < L.length
      · rw [if_pos e]; exact hown.pos k e
      · rw [if_neg e, if_pos (by omega)]; exact hp
    · rw [List.length_append, List.length_singleton] at hk
      by_cases e : k < L.length
      · simp only [if_neg (show ¬ k = L.length by omega)]
        exact (hkeep _ _ (hown.sp k e) (hown.pos k e) (hown.off k e)).2
      · simp only [if_pos (show k = L.length by omega)]
        exact (hkeep _ _ hu hp hub).2
    · refine ((Below.refl base w).alloc hbase _).grown hg (by simp; omega) ?_
      intro k hk
      exact (hown.own.lt k hk).1
/-! ### the cut choices -/
noncomputable def outsC (M : Mat) (cs : List Cho) (i : Nat) : List Cho := (List.range i).map fun j => ((cho cs j).1, (cho cs j).2.1, cutC M (cho cs j))
theorem outsC_len (M : Mat) (cs : List Cho) (i : Nat) : (outsC M cs i).length = i := by unfold outsC; simp
theorem outsC_succ (M : Mat) (cs : List Cho) (i : Nat) : outsC M cs (i + 1) = outsC M cs i ++ [((cho cs i).1, (cho cs i).2.1, cutC M (cho cs i))] := by unfold outsC; rw [List.range_succ, List.map_append]; rfl
theorem outsC_get (M : Mat) (cs : List Cho) {i j : Nat} (h : j < i) : cho (outsC M cs i) j = ((cho cs j).1, (cho cs j).2.1, cutC M (cho cs j)) := by
  unfold outsC
  conv => lhs; unfold cho
  rw [List.getD_eq_getElem?_getD, List.getElem?_map, List.getElem?_range h]
  rfl
theorem outsC_all (M : Mat) (cs : List Cho) : outsC M cs cs.length = roundTo M cs cs.length :=
  cho_ext (by rw [outsC_len, roundTo_len]) fun i hi => by
    rw [outsC_len] at hi
    rw [outsC_get M cs hi, roundTo_all M i hi]
theorem same_ch (M : Mat) (cs : List Cho) : sameC cs (roundTo M cs cs.length) = !chTo M cs cs.length := by
  cases h : chTo M cs cs.length
  · unfold sameC
    rw [decide_eq_true_iff.2]
    · rfl
    · symm
      refine cho_ext (roundTo_len _ _ _) fun i hi => ?_
      rw [roundTo_len] at hi
      rw [roundTo_all M i hi, chTo_false h i hi]
  · obtain ⟨i, hi, h2⟩ := chTo_true h
    unfold sameC
    rw [decide_eq_false_iff_not.2]
    · rfl
    · intro e
      have h3 := roundTo_all (cs := cs) M i hi
      rw [← e] at h3
      exact h2 (by
        have h4 : (cho cs i).2.2 = (((cho cs i).1, (cho cs i).2.1, cutC M (cho cs i)) : Cho).2.2 := congrArg (fun c : Cho => c.2.2) h3
        exact h4.symm)
/-! ### the matrix of the hulls -/
theorem startF_app (l m : List Bnd) : ∀ k, k ≤ l.length → startF (l ++ m) k = startF l k
  | 0, _ => rfl
  | k + 1, hk => by
    rw [startF, startF, startF_app l m k (by omega)]
    congr 1
    unfold bnd
    rw [List.getD_eq_getElem?_getD, List.getD_eq_getElem?_getD, List.getElem?_append_left (by omega)]
theorem startF_two (l : List Bnd) (x y : Bnd) : startF (l ++ [x, y]) (l.length + 2) = bindF (bindF (startF l l.length) x) y := by
  rw [startF, startF, startF_app l _ _ (Nat.le_refl _)]
  congr 1
  · congr 1
    unfold bnd
    rw [List.getD_eq_getElem?_getD, List.getElem?_append_right (by omega), Nat.sub_self]
    rfl
  · unfold bnd
    rw [List.getD_eq_getElem?_getD, List.getElem?_append_right (by omega), show l.length + 1 - l.length = 1 from by omega]
    rfl
theorem hull_step (cs : List Cho) (k p q : Nat) (sp : List Sp) (hc : cho cs k = ((p : Int), (q : Int), sp)) : startF (hullsF cs (k + 1)) (2 * (k + 1)) = bind2 (startF (hullsF cs k) (2 * k)) p q (loH sp sp.length) (hiH sp sp.length - 1) := by
  have e := hullsF_len cs k
  rw [hullsF, show 2 * (k + 1) = (hullsF cs k).length + 2 from by omega, ← e]
  unfold hull2
  rw [startF_two, hc]
  simp only
  unfold bind2 bindF
  simp only [Int.toNat_natCast]
end Go.Proofs.YtcppcfinnbeboaaGreat
