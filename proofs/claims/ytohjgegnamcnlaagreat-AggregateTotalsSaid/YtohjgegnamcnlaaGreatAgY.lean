/- Law 39: groups in memory. -/
import Derived.Test.YtohjgegnamcnlaaGreatAgR
import Derived.Test.YtohjgegnamcnlaaGreatAgX
namespace Go.Proofs.YtohjgegnamcnlaaGreat
open Go.RowKit Go.Shelf

def kK (Ks : List VRow) (i : Nat) : VRow := Ks.getD i []
theorem kK_at {Ks : List VRow} {i : Nat} (h : i < Ks.length) : Ks[i] = kK Ks i := by simp [kK, h]
theorem kK_mem {Ks : List VRow} {i : Nat} (h : i < Ks.length) : kK Ks i ∈ Ks := by rw [← kK_at h]; exact List.getElem_mem h
def idxK (Ks : List VRow) (s : ByteArray) : Option Nat := (List.range Ks.length).find? fun i => decide (encR (kK Ks i) = s)
theorem idxK_some {Ks : List VRow} {s : ByteArray} {i : Nat} (h : idxK Ks s = some i) : i < Ks.length ∧ encR (kK Ks i) = s := by
  unfold idxK at h
  have h1 := List.mem_of_find?_eq_some h
  have h2 := List.find?_some h
  exact ⟨List.mem_range.1 h1, of_decide_eq_true h2⟩
theorem idxK_none {Ks : List VRow} {s : ByteArray} (h : idxK Ks s = none) (i : Nat) (hi : i < Ks.length) : encR (kK Ks i) ≠ s := fun e => by
  unfold idxK at h
  have := List.find?_eq_none.1 h i (List.mem_range.2 hi)
  simp [e] at this
def lookK (Ks : List VRow) (V : Nat → Value) (s : ByteArray) : Option Value := (idxK Ks s).map V
structure KeyOk (Ks : List VRow) : Prop where
  ok : ∀ k ∈ Ks, okR k ∧ k.length ≤ 100
  nd : Ks.Nodup
theorem KeyOk.inj {Ks : List VRow} (h : KeyOk Ks) {i j : Nat} (hi : i < Ks.length) (hj : j < Ks.length) (e : encR (kK Ks i) = encR (kK Ks j)) : i = j := by
  have e2 := encR_inj (h.ok _ (kK_mem hi)).1 (h.ok _ (kK_mem hj)).1 e
  rw [← kK_at hi, ← kK_at hj] at e2
  exact (List.getElem_inj h.nd).1 e2
theorem KeyOk.idx {Ks : List VRow} (h : KeyOk Ks) {i : Nat} (hi : i < Ks.length) : idxK Ks (encR (kK Ks i)) = some i := by
  cases q : idxK Ks (encR (kK Ks i)) with
  | none => exact absurd rfl (idxK_none q i hi)
  | some j =>
    obtain ⟨h1, h2⟩ := idxK_some q
    rw [h.inj h1 hi h2]
theorem KeyOk.look {Ks : List VRow} (h : KeyOk Ks) (V : Nat → Value) {i : Nat} (hi : i < Ks.length) : lookK Ks V (encR (kK Ks i)) = some (V i) := by unfold lookK; rw [h.idx hi]; rfl
theorem lookK_none {Ks : List VRow} (V : Nat → Value) {s : ByteArray} (h : ∀ i, i < Ks.length → encR (kK Ks i) ≠ s) : lookK Ks V s = none := by
  unfold lookK
  cases q : idxK Ks s with
  | none => rfl
  | some i => exact absurd (idxK_some q).2 (h i (idxK_some q).1)
theorem kK_app {Ks : List VRow} {k : VRow} {i : Nat} (h : i < Ks.length) : kK (Ks ++ [k]) i = kK Ks i := by
  unfold kK
  simp [List.getElem?_append_left h]
theorem kK_last (Ks : List VRow) (k : VRow) : kK (Ks ++ [k]) Ks.length = k := by simp [kK]
theorem lookK_app {Ks : List VRow} {V : Nat → Value} {k : VRow} (h : KeyOk Ks) (h2 : KeyOk (Ks ++ [k])) (v : Value) (s : ByteArray) : updF (lookK Ks V) (encR k) (some v) s = lookK (Ks ++ [k]) (updI V Ks.length v) s := by
  have hl : (Ks ++ [k]).length = Ks.length + 1 := by simp
  unfold updF
  by_cases e : s = encR k
  · subst e
    rw [if_pos rfl]
    have := h2.look (updI V Ks.length v) (i := Ks.length) (by omega)
    rw [kK_last, updI_at] at this
    exact this.symm
  · rw [if_neg e]
    by_cases q : ∃ i, i < Ks.length ∧ encR (kK Ks i) = s
    · obtain ⟨i, hi, rfl⟩ := q
      rw [h.look V hi]
      have := h2.look (updI V Ks.length v) (i := i) (by omega)
      rw [kK_app hi, updI_ne _ _ (by omega)] at this
      exact this.symm
    · rw [lookK_none V (fun i hi e => q ⟨i, hi, e⟩), lookK_none _ (fun i hi e2 => ?_)]
      rcases Nat.lt_or_ge i Ks.length with h1 | h1
      · rw [kK_app h1] at e2
        exact q ⟨i, h1, e2⟩
      · obtain rfl : i = Ks.length := by omega
        rw [kK_last] at e2
        exact e e2.symm
theorem lookK_upd {Ks : List VRow} {V : Nat → Value} (h : KeyOk Ks) {i : Nat} (hi : i < Ks.length) (v : Value) (s : ByteArray) : updF (lookK Ks V) (encR (kK Ks i)) (some v) s = lookK Ks (updI V i v) s := by
  by_cases q : ∃ j, j < Ks.length ∧ encR (kK Ks j) = s
  · obtain ⟨j, hj, rfl⟩ := q
    rw [h.look _ hj]
    unfold updF
    by_cases e : j = i
    · subst e; rw [updI_at]; exact if_pos rfl
    · rw [h.look V hj, updI_ne _ _ e]; exact if_neg (fun e2 => e (h.inj hj hi e2))
  · rw [lookK_none _ (fun j hj e => q ⟨j, hj, e⟩)]
    unfold updF
    rw [if_neg (fun e => q ⟨i, hi, e.symm⟩), lookK_none V (fun i hi e => q ⟨i, hi, e⟩)]
/-! ### the members -/
def idxG (ks : List Int) (R : List VRow) (m : Nat) (k : VRow) : List Nat := (List.range m).filter fun j => decide (pickR (vr R j) ks = k)
theorem idxG_succ (ks : List Int) (R : List VRow) (m : Nat) (k : VRow) : idxG ks R (m + 1) k = if pickR (vr R m) ks = k then idxG ks R m k ++ [m] else idxG ks R m k := by
  unfold idxG
  rw [List.range_succ, List.filter_append]
  by_cases h : pickR (vr R m) ks = k
  · rw [if_pos h]; simp [h]
  · rw [if_neg h]; simp [h]
theorem idxG_mem {ks : List Int} {R : List VRow} {m : Nat} {k : VRow} {j : Nat} : j ∈ idxG ks R m k ↔ j < m ∧ pickR (vr R j) ks = k := by
  unfold idxG
  rw [List.mem_filter, List.mem_range, decide_eq_true_eq]
theorem idxG_all (ks : List Int) (R : List VRow) (k : VRow) : (idxG ks R R.length k).map (vr R) = memG ks R k := by
  have hR : R = (List.range R.length).map (vr R) := by
    apply List.ext_getElem
    · simp
    · intro i h1 h2
      simp [vr_at h1]
  unfold memG
  conv => rhs; rw [hR]
  rw [List.filter_map]
  rfl
/-- The groups of the first m rows; S: the rows' slices. -/
structure GrpAt (q : Nat) (X : World) (bg n m : Nat) (ks : List Int) (S : Nat → Value) (R : List VRow) (Ks : List VRow) (V : Nat → Value) : Prop where
  map : MapIs X bg n (lookK Ks V)
  kok : KeyOk Ks
  keys : ∀ i, i < m → pickR (vr R i) ks ∈ Ks
  from_ : ∀ k ∈ Ks, ∃ i, i < m ∧ pickR (vr R i) ks = k
  own : ∀ i, i < Ks.length → X.ownsRow q 47 1 (V i) (idxG ks R m (kK Ks i)).length ((idxG ks R m (kK Ks i)).map S)
  apart : ∀ i j, i < Ks.length → j < Ks.length → i ≠ j → (V i).ownBlock ≠ (V j).ownBlock
  lo : bg < q
section
variable {q bg n m : Nat} {X W : World} {ks : List Int} {S : Nat → Value} {R Ks : List VRow} {V : Nat → Value}
theorem GrpAt.start (h : MapIs X bg n fun _ => none) (hq : bg < q) : GrpAt q X bg n 0 ks S R [] V :=
  ⟨h, ⟨fun k hk => absurd hk (by simp), List.nodup_nil⟩, fun i hi => absurd hi (by omega), fun k hk => absurd hk (by simp), fun i hi => absurd hi (by simp), fun i j hi => absurd hi (by simp), hq⟩
theorem GrpAt.pos (h : GrpAt q X bg n m ks S R Ks V) {i : Nat} (hi : i < Ks.length) : 0 < (idxG ks R m (kK Ks i)).length := by
  obtain ⟨j, hj, e⟩ := h.from_ _ (kK_mem hi)
  exact List.length_pos_of_mem (idxG_mem.2 ⟨hj, e⟩)
theorem GrpAt.cur (h : GrpAt q X bg n m ks S R Ks V) (k : VRow) : X.ownsRow q 47 1 ((lookK Ks V (encR k)).getD (.slice none 0 0)) (if (idxK Ks (encR k)).isSome = true then (idxG ks R m k).length else 0) (if (idxK Ks (encR k)).isSome = true then (idxG ks R m k).map S else []) ∨ ¬ okR k := by
  by_cases hk : okR k
  · refine .inl ?_
    unfold lookK
    cases e : idxK Ks (encR k) with
    | none => exact own_nil _ _ _ _
    | some i =>
      obtain ⟨h1, h2⟩ := idxK_some e
      have := h.own i h1
      rw [encR_inj (h.kok.ok _ (kK_mem h1)).1 hk h2] at this
      exact this
  · exact .inr hk
theorem GrpAt.none_idx (h : GrpAt q X bg n m ks S R Ks V) {k : VRow} (e : idxK Ks (encR k) = none) : idxG ks R m k = [] := by
  rw [List.eq_nil_iff_forall_not_mem]
  intro j hj
  obtain ⟨h1, h2⟩ := idxG_mem.1 hj
  have := h.keys j h1
  obtain ⟨i, hi, e2⟩ := List.getElem_of_mem this
  rw [kK_at hi] at e2
  exact idxK_none e i hi (by rw [e2, h2])
/-- What is held of the row's group. -/
theorem GrpAt.held (h : GrpAt q X bg n m ks S R Ks V) {k : VRow} (hk : okR k) : X.ownsRow q 47 1 ((lookK Ks V (encR k)).getD (.slice none 0 0)) (idxG ks R m k).length ((idxG ks R m k).map S) := by
  rcases h.cur k with e | e
  · cases q : idxK Ks (encR k) with
    | none =>
      rw [q] at e
      rw [h.none_idx q]
      exact e
    | some i => rw [q] at e; exact e
  · exact absurd hk e
theorem GrpAt.step (h : GrpAt q X bg n m ks S R Ks V) {k : VRow} (hk : okR k ∧ k.length ≤ 100) (hkm : pickR (vr R m) ks = k) {v7 : Value}
    (hmap : MapIs W bg (n + 1) (updF (lookK Ks V) (encR k) (some v7))) (hown : W.ownsRow q 47 1 v7 ((idxG ks R m k).length + 1) ((idxG ks R m k).map S ++ [S m]))
    (hoth : ∀ b, b < X.heap.size → b ≠ bg → ((lookK Ks V (encR k)).getD (.slice none 0 0)).ownBlock ≠ some b → W.heap[b]? = X.heap[b]?)
    (hnew : ∀ b, v7.ownBlock = some b → ((lookK Ks V (encR k)).getD (.slice none 0 0)).ownBlock = some b ∨ X.heap.size ≤ b) : ∃ Ks' V', GrpAt q W bg (n + 1) (m + 1) ks S R Ks' V' := by
  have hlo := h.lo
  have hlt : ∀ {i}, i < Ks.length → ∀ g, (V i).ownBlock = some g → q ≤ g ∧ g < X.heap.size := fun {i} hi g hg => World.ownsRow.lt (h.own i hi) g hg
  have hvp : ∀ {i}, i < Ks.length → ∃ g, (V i).ownBlock = some g := fun {i} hi => by
    rcases (h.own i hi).2 with ⟨_, h0⟩ | ⟨g, cap, cur, hv7, _⟩
    · have := h.pos hi
      omega
    · exact ⟨g, by rw [hv7]; rfl⟩
  have hv7p : ∃ g, v7.ownBlock = some g := by
    rcases hown.2 with ⟨_, h0⟩ | ⟨g, cap, cur, hv7, _⟩
    · omega
    · exact ⟨g, by rw [hv7]; rfl⟩
  have hS : (idxG ks R m k).map S ++ [S m] = (idxG ks R (m + 1) k).map S := by rw [idxG_succ, if_pos hkm, List.map_append]; rfl
  have hL : (idxG ks R m k).length + 1 = (idxG ks R (m + 1) k).length := by rw [idxG_succ, if_pos hkm, List.length_append]; rfl
  rw [hS, hL] at hown
  have hsame : ∀ {k'}, k' ≠ k → idxG ks R (m + 1) k' = idxG ks R m k' := fun {k'} hne => by rw [idxG_succ, if_neg (fun e => hne (e.symm.trans hkm))]
  cases e : idxK Ks (encR k) with
  | none =>
    have hno : k ∉ Ks := fun hin => by
      obtain ⟨i, hi, e2⟩ := List.getElem_of_mem hin
      rw [kK_at hi] at e2
      exact idxK_none e i hi (by rw [e2])
    have hl0 : (lookK Ks V (encR k)).getD (.slice none 0 0) = .slice none 0 0 := by unfold lookK; rw [e]; rfl
    rw [hl0] at hoth hnew
    have hkok2 : KeyOk (Ks ++ [k]) := ⟨fun x hx => by
      rcases List.mem_append.1 hx with e | e
      · exact h.kok.ok x e
      · rw [List.mem_singleton] at e
        rw [e]; exact hk, List.nodup_append.2 ⟨h.kok.nd, by simp, fun a ha b hb e => by
        rw [List.mem_singleton] at hb
        rw [e, hb] at ha
        exact hno ha⟩⟩
    have cas : ∀ {i}, i < (Ks ++ [k]).length → i < Ks.length ∨ i = Ks.length := fun {i} hi => by simp at hi; omega
    refine ⟨Ks ++ [k], updI V Ks.length v7, hmap.congr fun x _ => lookK_app h.kok hkok2 v7 x, hkok2, fun i hi => ?_, fun x hx => ?_, fun i hi => ?_, fun i j hi hj hij => ?_, hlo⟩
    · rcases Nat.lt_or_ge i m with q | q
      · exact List.mem_append_left _ (h.keys i q)
      · obtain rfl : i = m := by omega
        rw [hkm]; simp
    · rcases List.mem_append.1 hx with q | q
      · obtain ⟨i, hi, e2⟩ := h.from_ x q
        exact ⟨i, by omega, e2⟩
      · rw [List.mem_singleton] at q
        exact ⟨m, by omega, by rw [hkm, q]⟩
    · rcases cas hi with q | q
      · have hne : kK Ks i ≠ k := fun e2 => hno (e2 ▸ kK_mem q)
        rw [updI_ne _ _ (by omega), kK_app q, hsame hne]
        refine own_blocks (h.own i q) fun g hg => ?_
        have := hlt q g hg
        exact hoth g this.2 (by omega) (fun e => by cases e)
      · subst q
        rw [updI_at, kK_last]
        exact hown
    · have new : ∀ i, i < Ks.length → (V i).ownBlock ≠ v7.ownBlock := fun i hi e2 => by
        obtain ⟨g, hg⟩ := hvp hi
        rw [hg] at e2
        have h1 := (hlt hi g hg).2
        rcases hnew g e2.symm with q | q
        · cases q
        · omega
      rcases cas hi with q | q <;> rcases cas hj with q2 | q2
      · rw [updI_ne _ _ (by omega), updI_ne _ _ (by omega)]; exact h.apart i j q q2 hij
      · subst q2
        rw [updI_ne _ _ (by omega), updI_at]
        exact new i q
      · subst q
        rw [updI_at, updI_ne _ _ (by omega)]
        exact fun e => new j q2 e.symm
      · omega
  | some i =>
    obtain ⟨hi, hc⟩ := idxK_some e
    have hki : kK Ks i = k := encR_inj (h.kok.ok _ (kK_mem hi)).1 hk.1 hc
    have hl0 : (lookK Ks V (encR k)).getD (.slice none 0 0) = V i := by unfold lookK; rw [e]; rfl
    rw [hl0] at hoth hnew
    refine ⟨Ks, updI V i v7, hmap.congr fun x _ => by rw [← hki]; exact lookK_upd h.kok hi v7 x, h.kok, fun j hj => ?_, fun x hx => ?_, fun j hj => ?_, fun j l hj hl hjl => ?_, hlo⟩
    · rcases Nat.lt_or_ge j m with q | q
      · exact h.keys j q
      · obtain rfl : j = m := by omega
        rw [hkm, ← hki]; exact kK_mem hi
    · obtain ⟨j, hj, e2⟩ := h.from_ x hx
      exact ⟨j, by omega, e2⟩
    · by_cases q : j = i
      · subst q
        rw [updI_at, hki]
        exact hown
      · have hne : kK Ks j ≠ k := fun e2 => q (h.kok.inj hj hi (by rw [e2, hki]))
        rw [updI_ne _ _ q, hsame hne]
        refine own_blocks (h.own j hj) fun g hg => ?_
        have := hlt hj g hg
        exact hoth g this.2 (by omega) (fun e => h.apart j i hj hi q (hg.trans e.symm))
    · have new : ∀ j, j < Ks.length → j ≠ i → (V j).ownBlock ≠ v7.ownBlock := fun j hj hji e2 => by
        obtain ⟨g, hg⟩ := hvp hj
        rw [hg] at e2
        have h1 := (hlt hj g hg).2
        rcases hnew g e2.symm with q | q
        · exact h.apart j i hj hi hji (hg.trans q.symm)
        · omega
      by_cases q : j = i
      · subst q
        rw [updI_at, updI_ne _ _ (fun e => hjl e.symm)]
        exact fun e => new l hl (fun e => hjl e.symm) e.symm
      · rw [updI_ne _ _ q]
        by_cases q2 : l = i
        · subst q2
          rw [updI_at]
          exact new j hj q
        · rw [updI_ne _ _ q2]
          exact h.apart j l hj hl hjl
end
end Go.Proofs.YtohjgegnamcnlaaGreat
