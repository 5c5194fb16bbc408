/- Law 47: slices.Clone at choices; runs.Meet with a result of its own. -/
import Derived.Test.YtcppcfinnbeboaaGreatDjU
import Derived.Test.YtcppcfinnbeboaaGreatSwU
namespace Go.Proofs.YtcppcfinnbeboaaGreat
open Go.RowKit Go.Shelf

theorem rMeetO_c (v1 v2 : Value) (a b : List Sp) (w : World) (h1 : IsSpans w v1 a) (h2 : IsSpans w v2 b) (ha : validB a = true) (hb : validB b = true) : Calls Tryz.prog 43 #[v1, v2] w (fun e w' => ∃ r, OpSpec gMeet a b r ∧ RetLEO w r e w') := by
  go_enter Tryz.func43, Tryz.ntmps43
  go_wp2_with fail
  refine (rcombineO_ok _ ent_rMeet1 gMeet rMeet1_c _ _ a b w h1 h2 ha hb).mono ?_
  rintro e w1 ⟨m, hoff, hinv, hres⟩
  generalize hr : (if (cIter gMeet a b m).out.length ≤ 2000 then ((cIter gMeet a b m).out, (0 : Int)) else ([], 5)) = r at hres
  obtain ⟨v, rfl, hv, hbw⟩ := hres
  have Hr := Lib.hid hr
  clear hr
  go_wp2
  go_ret2
  refine ⟨r, ?_, v, rfl, hv, hbw⟩
  rw [← Hr.out, OpSpec, if_pos (by rw [ha, hb]; rfl)]
  exact ⟨_, merge_isOp rfl ha hb hinv hoff, by have := hinv.out; have := hinv.i; have := hinv.k; omega, rfl⟩
theorem sblk_own {w : World} {base n : Nat} {e : TypeId} {v : Value} {xs : List Value} {size : Nat} (h : w.ownsRow base e size v n xs) : ∀ b, sblk v = some b → base ≤ b := fun b hb => by
  obtain ⟨_, h2⟩ := h
  rcases h2 with ⟨rfl, _⟩ | ⟨g, cap, cur, rfl, hg, _⟩
  · cases hb
  · have e : g = b := Option.some.inj hb
    omega
/-! ### slices.Clone at choices -/
theorem tChoiceInfo : (Tryz.prog.info? 31).map (fun i => (i.zero, i.size, i.bytes)) = some (some (.agg #[.int .i64 0, .int .i64 0, .slice none 0 0]), 3, 40) := by kernel_rfl
theorem tChoices : Tryz.prog.underlying 22 = some (.slice 31) := Tryz.underlying22
theorem eql_nilC (a : Option Addr) (n c : Nat) (w : World) : (binOp .eql 22 (.slice a n c) (.slice none 0 0)).run Tryz.prog w = .ok (.bool a.isNone) w := by
  simp only [binOp]
  simp [run_equal_slice_nil (P := Tryz.prog) w 22 31 a n c tChoices]
attribute [local go_sem ↓] eql_nilC
def flatC (L : List Cho) (S : Nat → Value) (n : Nat) : List Value := (List.range n).flatMap fun i => [choCell L S i 0, choCell L S i 1, choCell L S i 2]
theorem flatC_succ (L : List Cho) (S : Nat → Value) (n : Nat) : flatC L S (n + 1) = flatC L S n ++ [choCell L S n 0, choCell L S n 1, choCell L S n 2] := by
  unfold flatC
  rw [List.range_succ, List.flatMap_append]
  simp
theorem flatC_len (L : List Cho) (S : Nat → Value) : ∀ n, (flatC L S n).length = n * 3
  | 0 => rfl
  | n + 1 => by rw [flatC_succ, List.length_append, flatC_len L S n]; simp; omega
theorem flatC_get (L : List Cho) (S : Nat → Value) : ∀ n i j, i < n → j < 3 → (flatC L S n)[i * 3 + j]? = some (choCell L S i j)
  | 0, i, j, hi, _ => absurd hi (by omega)
  | n + 1, i, j, hi, hj => by
    rw [flatC_succ]
    by_cases h : i < n
    · rw [List.getElem?_append_left (by rw [flatC_len]; omega), flatC_get L S n i j h hj]
    · obtain rfl : i = n := by omega
      rw [List.getElem?_append_right (by rw [flatC_len]; omega), flatC_len]
      rcases (by omega : j = 0 ∨ j = 1 ∨ j = 2) with rfl | rfl | rfl
      · simp
      · rw [show i * 3 + 1 - i * 3 = 1 from by omega]; rfl
      · rw [show i * 3 + 2 - i * 3 = 2 from by omega]; rfl
/-- A list of choices of the function's own. -/
def OutAt (w : World) (base : Nat) (v : Value) (L : List Cho) (S : Nat → Value) : Prop :=
  (L = [] ∧ ∃ A c, v = .slice A 0 c ∧ c ≤ 9223372036854775807) ∨ ∃ g cap, v = .slice (some ⟨g, 0, none⟩) L.length cap ∧ L.length ≤ cap ∧ cap ≤ 9223372036854775807 ∧ base ≤ g ∧ ChosAt w g L S
theorem OutAt.below {w w' : World} {base : Nat} {v : Value} {L : List Cho} {S : Nat → Value} (h : OutAt w base v L S) (hb : Below w.heap.size w w') : OutAt w' base v L S := by
  rcases h with h | ⟨g, cap, h1, h2, h3, h4, h5⟩
  · exact .inl h
  · exact .inr ⟨g, cap, h1, h2, h3, h4, h5.below hb⟩
theorem OutAt.chos {w : World} {base : Nat} {v : Value} {L : List Cho} {S : Nat → Value} (h : OutAt w base v L S) : IsChos w v L := by
  rcases h with ⟨rfl, A, c, rfl, hc⟩ | ⟨g, cap, rfl, h2, h3, h4, h5⟩
  · exact ⟨S, ⟨A, c, rfl, Nat.zero_le _, hc, fun h => absurd h (by simp)⟩, fun i hi => absurd hi (by simp)⟩
  · exact ⟨S, h5.chos h2 h3⟩
def CloneRet (L : List Cho) (w : World) (e : Ending) (w' : World) : Prop := ∃ v S, e = .returned v ∧ OutAt w' w.heap.size v L S ∧ Below w.heap.size w w'
set_option maxRecDepth 100000 in
theorem slCloneChoice_c (v : Value) (L : List Cho) (w : World) (hs : IsChos w v L) (hl : L.length ≤ 100000) (hpos : ∀ i, i < L.length → 0 < (cho L i).2.2.length) : Calls Tryz.prog 39 #[v] w (CloneRet L w) := by
  obtain ⟨S, hs⟩ := hs
  obtain ⟨A, c, rfl, hnc, hc⟩ := hs.form
  cases A with
  | none =>
    have hz : L.length = 0 := by
      rcases Nat.eq_zero_or_pos L.length with h | h
      · exact h
      · obtain ⟨b, off, h1, _⟩ := hs.addr h; cases h1
    obtain rfl : L = [] := List.length_eq_zero_iff.1 hz
    clear hs hnc hc hz
    go_enter Tryz.func39, Tryz.ntmps39
    go_wp2
    go_ret
    exact ⟨_, S, rfl, .inl ⟨rfl, none, 0, rfl, by omega⟩, Below.refl _ _⟩
  | some ad =>
    obtain ⟨i, hi, hz, hsz, hby⟩ := info_parts tChoiceInfo
    have hbA := (Below.refl w.heap.size w).alloc (Nat.le_refl _) (.cells #[] 31)
    have hsA := hs.below hbA
    have hone : ∀ u ∈ flatC L S L.length, u.oneCell' = true := fun u hu => by
      unfold flatC at hu
      obtain ⟨k, hk, hu⟩ := List.mem_flatMap.1 hu
      have hk := List.mem_range.1 hk
      obtain ⟨A2, c2, e2, _, _⟩ := (hs.2 k hk).form
      simp only [choCell, List.mem_cons, List.not_mem_nil, or_false] at hu
      rcases hu with rfl | rfl | rfl
      · rfl
      · rfl
      · simp only [if_true]; rw [e2]; rfl
    have hnews : ∀ j u, (flatC L S L.length)[j]? = some u → (w.alloc (.cells #[] 31)).cell? (ad.add j) = some u := fun j u hu => by
      have hj : j < L.length * 3 := by
        rcases Nat.lt_or_ge j (L.length * 3) with h | h
        · exact h
        · rw [List.getElem?_eq_none (by rw [flatC_len]; exact h)] at hu; cases hu
      obtain ⟨b, off, hb, _⟩ := hsA.addr (by omega)
      injection hb with hb
      subst hb
      have h1 := RowsIn.cells hsA.1 (j / 3) (j % 3) (by omega) (by omega)
      have h2 := flatC_get L S L.length (j / 3) (j % 3) (by omega) (by omega)
      rw [show j / 3 * 3 + j % 3 = j from by omega] at h2
      rw [h2] at hu
      rw [← Option.some.inj hu, ← h1]
      have e2 : (⟨b, off, none⟩ : Addr).add j = ⟨b, off + j, none⟩ := by simp [Addr.add]
      rw [e2, Nat.add_assoc off, show j / 3 * 3 + j % 3 = j from by omega]
    have Hone := Lib.hid hone; have Hnews := Lib.hid hnews; have HbA := Lib.hid hbA; have HsA := Lib.hid hsA; have Hs := Lib.hid hs; have Hl := Lib.hid hl
    clear hone hnews hbA hsA hs
    go_enter Tryz.func39, Tryz.ntmps39
    go_wp2_with (at_builtin; refine wpList_append_own_at (w := w.alloc (.cells #[] 31)) rfl _ _ 22 rfl w.heap.size 31 i _ 3 40 tChoices hi hz hsz hby rfl (by omega) _ 0 [] rfl (World.ownsRow_made w #[] 0 (Nat.le_refl _) (by unfold maxLen; omega) rfl) ad L.length c (flatC L S L.length) rfl (flatC_len _ _ _) Hnews.out Hone.out (by unfold maxLen; have := Hl.out; omega) (by have := Hl.out; omega) (by simp) ?_; intro v3 w1 hown1 hg1 _ _)
    go_ret
    have hb1 : Below w.heap.size w w1 := HbA.out.grown hg1 (by simp) (fun k hk => by
      have e : some w.heap.size = some k := hk
      injection e with e
      omega)
    refine ⟨v3, S, rfl, ?_, hb1⟩
    rw [Nat.zero_add, List.nil_append] at hown1
    obtain ⟨h0, h2⟩ := hown1
    rcases h2 with ⟨rfl, h3⟩ | ⟨g, cap, cur, rfl, hg, hh, h4, h5, h6, h7⟩
    · exact .inl ⟨List.length_eq_zero_iff.1 h3, none, 0, rfl, by omega⟩
    · refine .inr ⟨g, cap, rfl, h4, by unfold maxLen at h5; exact h5, hg, ⟨cur, hh, fun i j hi hj => ?_⟩, fun i hi => (Hs.out.2 i hi).below hb1, fun i hi e => ?_⟩
      · have e := flatC_get L S L.length i j hi hj
        rw [← h7, List.getElem?_take_of_lt (by omega), Array.getElem?_toList] at e
        exact e
      · have := (Hs.out.2 i hi).blk_lt (hpos i hi) g e
        omega
end Go.Proofs.YtcppcfinnbeboaaGreat
