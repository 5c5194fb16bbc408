/- The plain law of sweep.Depth: sorted events, their sums, and the facts between the points where the sum changes. -/
import Derived.Test.YtahpcepnagpbdaaRunsW
import Derived.Test.YtahpcepnagpbdaaOrd
namespace Go.Proofs.Ytahpcepnagpbdaa

/-- How many spans contain a point. -/
def atS : List Sp → Int → Int
  | [], _ => 0
  | s :: l, x => (if s.1 ≤ x ∧ x < s.2 then 1 else 0) + atS l x
theorem atS_nonneg (l : List Sp) (x : Int) : 0 ≤ atS l x ∧ atS l x ≤ l.length := by
  induction l with
  | nil => simp [atS]
  | cons s l ih => simp only [atS, List.length_cons]; split <;> omega

abbrev Ev := Int × Int
/-- The events of some spans. -/
def evL (l : List Sp) : List Ev := l.flatMap fun s => [(s.1, 1), (s.2, -1)]
theorem evL_snoc (l : List Sp) (s : Sp) : evL (l ++ [s]) = evL l ++ [(s.1, 1), (s.2, -1)] := by simp [evL]
theorem evL_len (l : List Sp) : (evL l).length = l.length * 2 := by
  induction l with
  | nil => rfl
  | cons s l ih => simp only [evL, List.flatMap_cons, List.length_append, List.length_cons, List.length_nil] at *; omega
def stepTo : List Ev → Int → Int
  | [], _ => 0
  | e :: l, x => (if e.1 ≤ x then e.2 else 0) + stepTo l x
def sumS : List Ev → Int
  | [] => 0
  | e :: l => e.2 + sumS l
theorem stepTo_perm {a b : List Ev} (h : a.Perm b) (x : Int) : stepTo a x = stepTo b x := by
  induction h with
  | nil => rfl
  | cons e _ ih => simp only [stepTo, ih]
  | swap e e' l => simp only [stepTo]; omega
  | trans _ _ h1 h2 => exact h1.trans h2
theorem stepTo_append (a b : List Ev) (x : Int) : stepTo (a ++ b) x = stepTo a x + stepTo b x := by
  induction a with
  | nil => simp [stepTo]
  | cons e a ih => simp only [List.cons_append, stepTo, ih]; omega
theorem sumS_append (a b : List Ev) : sumS (a ++ b) = sumS a + sumS b := by
  induction a with
  | nil => simp [sumS]
  | cons e a ih => simp only [List.cons_append, sumS, ih]; omega
theorem stepTo_all {a : List Ev} {x : Int} (h : ∀ e ∈ a, e.1 ≤ x) : stepTo a x = sumS a := by
  induction a with
  | nil => rfl
  | cons e a ih => simp only [stepTo, sumS, if_pos (h e (by simp)), ih (fun e he => h e (by simp [he]))]
theorem stepTo_none {a : List Ev} {x : Int} (h : ∀ e ∈ a, x < e.1) : stepTo a x = 0 := by
  induction a with
  | nil => rfl
  | cons e a ih => simp only [stepTo, if_neg (Int.not_le.2 (h e (by simp))), ih (fun e he => h e (by simp [he]))]; omega
theorem stepTo_evL {l : List Sp} (h : ∀ s ∈ l, s.1 < s.2) (x : Int) : stepTo (evL l) x = atS l x := by
  induction l with
  | nil => rfl
  | cons s l ih =>
    have h1 := h s (by simp)
    have h2 := ih (fun s hs => h s (by simp [hs]))
    simp only [evL, List.flatMap_cons, List.cons_append, List.nil_append, stepTo, atS] at *
    rw [h2]
    split <;> split <;> split <;> omega
theorem sumS_evL (l : List Sp) : sumS (evL l) = 0 := by
  induction l with
  | nil => rfl
  | cons s l ih => simp only [evL, List.flatMap_cons, List.cons_append, List.nil_append, sumS] at *; omega
theorem sumS_perm {a b : List Ev} (h : a.Perm b) : sumS a = sumS b := by
  induction h with
  | nil => rfl
  | cons e _ ih => simp only [sumS, ih]
  | swap e e' l => simp only [sumS]; omega
  | trans _ _ h1 h2 => exact h1.trans h2
theorem evL_one {l : List Sp} {e : Ev} (h : e ∈ evL l) : e.2 = 1 ∨ e.2 = -1 := by
  simp only [evL, List.mem_flatMap, List.mem_cons, List.not_mem_nil, or_false] at h
  obtain ⟨s, _, rfl | rfl⟩ := h
  · exact .inl rfl
  · exact .inr rfl
theorem evL_mem {l : List Sp} {x : Int} : (∃ e ∈ evL l, x = e.1) ↔ ∃ s ∈ l, x = s.1 ∨ x = s.2 := by
  constructor
  · rintro ⟨e, he, rfl⟩
    simp only [evL, List.mem_flatMap, List.mem_cons, List.not_mem_nil, or_false] at he
    obtain ⟨s, hs, rfl | rfl⟩ := he
    · exact ⟨s, hs, .inl rfl⟩
    · exact ⟨s, hs, .inr rfl⟩
  · rintro ⟨s, hs, h⟩
    rcases h with h | h
    · exact ⟨(s.1, 1), by simp only [evL, List.mem_flatMap]; exact ⟨s, hs, by simp⟩, h⟩
    · exact ⟨(s.2, -1), by simp only [evL, List.mem_flatMap]; exact ⟨s, hs, by simp⟩, h⟩
theorem sumS_bound {a : List Ev} (h : ∀ e ∈ a, e.2 = 1 ∨ e.2 = -1) : -(a.length : Int) ≤ sumS a ∧ sumS a ≤ a.length := by
  induction a with
  | nil => simp [sumS]
  | cons e a ih =>
    have := ih (fun e he => h e (by simp [he]))
    have := h e (by simp)
    simp only [sumS, List.length_cons]
    omega

/-- A fact of the depth: its number, its span. -/
abbrev Dep := Int × Sp
structure DSt where
  out : List Dep
  depth : Int
  frm : Int
def dStep (l : List Sp) (s : DSt) (p : Int) : DSt :=
  if atS l p = s.depth then s else ⟨if 0 < s.depth then s.out ++ [(s.depth, (s.frm, p))] else s.out, atS l p, p⟩
def dRun (l : List Sp) (E : List Int) : DSt := E.foldl (dStep l) ⟨[], 0, 0⟩
theorem dRun_snoc (l : List Sp) (E : List Int) (p : Int) : dRun l (E ++ [p]) = dStep l (dRun l E) p := by simp [dRun]
/-- What Depth answers. -/
structure IsEnds (l : List Sp) (E : List Int) : Prop where
  asc : Asc E
  mem : ∀ x, x ∈ E ↔ ∃ s ∈ l, x = s.1 ∨ x = s.2
def DepRes (l : List Sp) (F : List Dep) : Prop := ∃ E, IsEnds l E ∧ F = (dRun l E).out
theorem asc_one : ∀ {E E' : List Int}, Asc E → Asc E' → (∀ x, x ∈ E ↔ x ∈ E') → E = E'
  | [], [], _, _, _ => rfl
  | [], b :: E', _, _, h => absurd ((h b).2 (by simp)) (by simp)
  | a :: E, [], _, _, h => absurd ((h a).1 (by simp)) (by simp)
  | a :: E, b :: E', h1, h2, h => by
    obtain ⟨h1a, h1b⟩ := List.pairwise_cons.1 h1
    obtain ⟨h2a, h2b⟩ := List.pairwise_cons.1 h2
    have ha := (h a).1 (by simp)
    have hb := (h b).2 (by simp)
    obtain rfl : a = b := by
      rcases List.mem_cons.1 ha with e | e
      · exact e
      · rcases List.mem_cons.1 hb with e' | e'
        · exact e'.symm
        · have := h1a b e'; have := h2a a e; omega
    rw [asc_one h1b h2b (fun x => ?_)]
    constructor
    · intro hx
      rcases List.mem_cons.1 ((h x).1 (by simp [hx])) with e | e
      · have := h1a x hx; omega
      · exact e
    · intro hx
      rcases List.mem_cons.1 ((h x).2 (by simp [hx])) with e | e
      · have := h2a x hx; omega
      · exact e
theorem ends_one {l : List Sp} {E E' : List Int} (h : IsEnds l E) (k : IsEnds l E') : E = E' := asc_one h.asc k.asc fun x => (h.mem x).trans (k.mem x).symm
theorem dep_one {l : List Sp} {F F' : List Dep} (h : DepRes l F) (k : DepRes l F') : F = F' := by
  obtain ⟨E, hE, rfl⟩ := h
  obtain ⟨E', hE', rfl⟩ := k
  rw [ends_one hE hE']

def eAt (ev : List Ev) (i : Nat) : Int := (ev.getD i (0, 0)).1
def eSt (ev : List Ev) (i : Nat) : Int := (ev.getD i (0, 0)).2
theorem ev_at {ev : List Ev} {i : Nat} (h : i < ev.length) : ev[i] = (eAt ev i, eSt ev i) := by simp [eAt, eSt, h]
theorem ev_take {ev : List Ev} {i : Nat} (h : i < ev.length) : ev.take (i + 1) = ev.take i ++ [(eAt ev i, eSt ev i)] := by
  rw [List.take_succ_eq_append_getElem h, ev_at h]
theorem ev_mem {ev : List Ev} {i : Nat} (h : i < ev.length) : (eAt ev i, eSt ev i) ∈ ev := by rw [← ev_at h]; exact List.getElem_mem h

/-- The sorted events of some spans. -/
structure EvOf (l : List Sp) (ev : List Ev) : Prop where
  perm : ev.Perm (evL l)
  asc : ev.Pairwise fun e f => e.1 ≤ f.1
  ok : ∀ s ∈ l, s.1 < s.2
theorem EvOf.len {l : List Sp} {ev : List Ev} (h : EvOf l ev) : ev.length = l.length * 2 := h.perm.length_eq.trans (evL_len l)
theorem EvOf.one {l : List Sp} {ev : List Ev} (h : EvOf l ev) : ∀ e ∈ ev, e.2 = 1 ∨ e.2 = -1 := fun _ he => evL_one (h.perm.mem_iff.1 he)
theorem EvOf.step1 {l : List Sp} {ev : List Ev} (h : EvOf l ev) {i : Nat} (hi : i < ev.length) : eSt ev i = 1 ∨ eSt ev i = -1 := h.one _ (ev_mem hi)
theorem EvOf.sum_bd {l : List Sp} {ev : List Ev} (h : EvOf l ev) (i : Nat) : -(i : Int) ≤ sumS (ev.take i) ∧ sumS (ev.take i) ≤ i := by
  have := sumS_bound (a := ev.take i) (fun e he => h.one e (List.mem_of_mem_take he))
  have : (ev.take i).length ≤ i := by simp; omega
  omega
theorem EvOf.at_le {l : List Sp} {ev : List Ev} (h : EvOf l ev) {i j : Nat} (hij : i ≤ j) (hj : j < ev.length) : eAt ev i ≤ eAt ev j := by
  rcases Nat.eq_or_lt_of_le hij with rfl | hlt
  · exact Int.le_refl _
  · have := List.pairwise_iff_getElem.1 h.asc i j (by omega) hj hlt
    rw [ev_at (by omega), ev_at hj] at this
    exact this

/-- Behind i events, all those at some points. -/
structure DInv (l : List Sp) (ev : List Ev) (i : Nat) (E : List Int) : Prop where
  le : i ≤ ev.length
  asc : Asc E
  mem : ∀ x, x ∈ E ↔ ∃ e ∈ ev.take i, x = e.1
  sep : i < ev.length → ∀ e ∈ ev.take i, e.1 < eAt ev i
  sum : (dRun l E).depth = sumS (ev.take i)
theorem dinv_zero (l : List Sp) (ev : List Ev) : DInv l ev 0 [] := ⟨Nat.zero_le _, List.Pairwise.nil, fun x => by simp, fun _ e he => by simp at he, by simp [dRun, sumS]⟩
/-- Within the group of a point: i0 to i are at the point. -/
structure DGrp (ev : List Ev) (i0 i : Nat) (at_ : Int) : Prop where
  le : i0 ≤ i
  all : ∀ k, i0 ≤ k → k < i → eAt ev k = at_
theorem dgrp_zero (ev : List Ev) (i : Nat) (x : Int) : DGrp ev i i x := ⟨Nat.le_refl _, fun k h1 h2 => absurd h1 (by omega)⟩
theorem dgrp_step {ev : List Ev} {i0 i : Nat} {x : Int} (h : DGrp ev i0 i x) (he : eAt ev i = x) : DGrp ev i0 (i + 1) x := ⟨Nat.le_succ_of_le h.le, fun k h1 h2 => by
  rcases Nat.eq_or_lt_of_le (show k ≤ i by omega) with rfl | h3
  · exact he
  · exact h.all k h1 h3⟩
theorem sum_step {ev : List Ev} {i : Nat} (hi : i < ev.length) : sumS (ev.take (i + 1)) = sumS (ev.take i) + eSt ev i := by
  rw [ev_take hi, sumS_append]; simp [sumS]
theorem mem_take_at {ev : List Ev} {i : Nat} {e : Ev} (h : e ∈ ev.take i) : ∃ k, k < i ∧ k < ev.length ∧ e = (eAt ev k, eSt ev k) := by
  obtain ⟨k, hk, rfl⟩ := List.mem_iff_getElem.1 h
  have hk' : k < i ∧ k < ev.length := by simp at hk; omega
  exact ⟨k, hk'.1, hk'.2, by rw [← ev_at hk'.2]; simp⟩
theorem at_mem_take {ev : List Ev} {i k : Nat} (hk : k < i) (hk2 : k < ev.length) : (eAt ev k, eSt ev k) ∈ ev.take i := by
  rw [← ev_at hk2, List.mem_iff_getElem]
  exact ⟨k, by simp; omega, by simp⟩
theorem dinv_group {l : List Sp} {ev : List Ev} {i0 i : Nat} {E : List Int} {x : Int} (hv : EvOf l ev) (h : DInv l ev i0 E) (hg : DGrp ev i0 i x) (hlt : i0 < i) (hi : i ≤ ev.length) (hx : i < ev.length → eAt ev i ≠ x) :
    sumS (ev.take i) = atS l x ∧ DInv l ev i (E ++ [x]) := by
  have h0 : eAt ev i0 = x := hg.all i0 (Nat.le_refl _) hlt
  have hle : ∀ e ∈ ev.take i, e.1 ≤ x := fun e he => by
    obtain ⟨k, hk1, hk2, rfl⟩ := mem_take_at he
    have := hv.at_le (i := k) (j := i - 1) (by omega) (by omega)
    rw [hg.all (i - 1) (by omega) (by omega)] at this
    exact this
  have hgt : ∀ e ∈ ev.drop i, x < e.1 := fun e he => by
    obtain ⟨k, hk, rfl⟩ := List.mem_iff_getElem.1 he
    have hk' : i + k < ev.length := by simp at hk; omega
    have h1 := hv.at_le (i := i) (j := i + k) (by omega) hk'
    have h2 := hx (by omega)
    have h3 := hv.at_le (i := i - 1) (j := i) (by omega) (by omega)
    rw [hg.all (i - 1) (by omega) (by omega)] at h3
    have : (ev.drop i)[k] = (eAt ev (i + k), eSt ev (i + k)) := by rw [← ev_at hk']; simp
    rw [this]
    show x < eAt ev (i + k)
    omega
  have hsum : sumS (ev.take i) = atS l x := by
    have e1 : stepTo ev x = stepTo (ev.take i) x + stepTo (ev.drop i) x := by
      have := stepTo_append (ev.take i) (ev.drop i) x
      rwa [List.take_append_drop] at this
    rw [stepTo_all hle, stepTo_none hgt, stepTo_perm hv.perm, stepTo_evL hv.ok] at e1
    omega
  refine ⟨hsum, hi, ?_, fun y => ?_, fun hl e he => ?_, ?_⟩
  · unfold Asc
    rw [List.pairwise_append]
    refine ⟨h.asc, by simp, fun a ha b hb => ?_⟩
    obtain rfl := List.mem_singleton.1 hb
    obtain ⟨e, he, rfl⟩ := (h.mem a).1 ha
    have := h.sep (by omega) e he
    omega
  · rw [List.mem_append, h.mem, List.mem_singleton]
    constructor
    · rintro (⟨e, he, rfl⟩ | rfl)
      · obtain ⟨k, hk1, hk2, rfl⟩ := mem_take_at he
        exact ⟨_, at_mem_take (show k < i by omega) hk2, rfl⟩
      · exact ⟨_, at_mem_take hlt (by omega), h0.symm⟩
    · rintro ⟨e, he, rfl⟩
      obtain ⟨k, hk1, hk2, rfl⟩ := mem_take_at he
      by_cases hk : k < i0
      · exact .inl ⟨_, at_mem_take hk hk2, rfl⟩
      · exact .inr (hg.all k (by omega) hk1)
  · have h1 := hle e he
    have h2 := hv.at_le (i := i - 1) (j := i) (by omega) hl
    rw [hg.all (i - 1) (by omega) (by omega)] at h2
    have := hx hl
    omega
  · rw [dRun_snoc, dStep]
    split
    · rename_i hd; rw [← hd, hsum]
    · exact hsum.symm
theorem dinv_done {l : List Sp} {ev : List Ev} {E : List Int} (hv : EvOf l ev) (h : DInv l ev ev.length E) : DepRes l (dRun l E).out := by
  refine ⟨E, ⟨h.asc, fun x => ?_⟩, rfl⟩
  rw [h.mem, List.take_length, ← evL_mem]
  constructor
  · rintro ⟨e, he, rfl⟩; exact ⟨e, hv.perm.mem_iff.1 he, rfl⟩
  · rintro ⟨e, he, rfl⟩; exact ⟨e, hv.perm.mem_iff.2 he, rfl⟩
theorem ends_ex : ∀ l : List Sp, ∃ E, IsEnds l E := by
  refine snocRec ⟨[], List.Pairwise.nil, fun x => by simp⟩ ?_
  intro l s ⟨E, hE⟩
  have step : ∀ (E : List Int) (x : Int), Asc E → ∃ E', Asc E' ∧ ∀ y, y ∈ E' ↔ y ∈ E ∨ y = x := fun E x hE => by
    by_cases hx : x ∈ E
    · exact ⟨E, hE, fun y => ⟨.inl, fun h => h.elim id (fun e => e ▸ hx)⟩⟩
    · refine ⟨E.filter (fun y => decide (y < x)) ++ [x] ++ E.filter (fun y => decide (x < y)), ?_, fun y => ?_⟩
      · unfold Asc
        rw [List.append_assoc, List.pairwise_append]
        refine ⟨hE.filter _, ?_, ?_⟩
        · rw [List.singleton_append, List.pairwise_cons]
          exact ⟨fun y hy => by simpa using (List.mem_filter.1 hy).2, hE.filter _⟩
        · intro a ha b hb
          have h1 : a < x := by simpa using (List.mem_filter.1 ha).2
          rw [List.singleton_append, List.mem_cons] at hb
          rcases hb with rfl | hb
          · exact h1
          · have h2 : x < b := by simpa using (List.mem_filter.1 hb).2
            omega
      · simp only [List.mem_append, List.mem_filter, List.mem_singleton, decide_eq_true_eq]
        constructor
        · rintro ((h | h) | h)
          · exact .inl h.1
          · exact .inr h
          · exact .inl h.1
        · rintro (h | h)
          · rcases Int.lt_trichotomy y x with h1 | h1 | h1
            · exact .inl (.inl ⟨h, h1⟩)
            · exact .inl (.inr h1)
            · exact .inr ⟨h, h1⟩
          · exact .inl (.inr h)
  obtain ⟨E1, a1, m1⟩ := step E s.1 hE.asc
  obtain ⟨E2, a2, m2⟩ := step E1 s.2 a1
  refine ⟨E2, a2, fun x => ?_⟩
  rw [m2, m1, hE.mem]
  constructor
  · rintro ((⟨t, ht, h⟩ | h) | h)
    · exact ⟨t, by simp [ht], h⟩
    · exact ⟨s, by simp, .inl h⟩
    · exact ⟨s, by simp, .inr h⟩
  · rintro ⟨t, ht, h⟩
    rcases List.mem_append.1 ht with ht | ht
    · exact .inl (.inl ⟨t, ht, h⟩)
    · rw [List.mem_singleton.1 ht] at h
      rcases h with h | h
      · exact .inl (.inr h)
      · exact .inr h
theorem dep_ex (l : List Sp) : ∃ F, DepRes l F := by
  obtain ⟨E, hE⟩ := ends_ex l
  exact ⟨_, E, hE, rfl⟩
theorem dep_nil : DepRes [] [] := ⟨[], ⟨List.Pairwise.nil, fun x => by simp⟩, rfl⟩

theorem dRun_end {l : List Sp} {E : List Int} (hok : ∀ s ∈ l, s.1 < s.2) (hE : IsEnds l E) : (dRun l E).depth = 0 := by
  rcases List.eq_nil_or_concat E with rfl | ⟨E', p, rfl⟩
  · rfl
  · have hp := hE.asc
    rw [List.concat_eq_append] at *
    rw [dRun_snoc, dStep]
    have hz : atS l p = 0 := by
      have hle : ∀ s ∈ l, s.2 ≤ p := fun s hs => by
        have h1 := (hE.mem s.2).2 ⟨s, hs, .inr rfl⟩
        rw [List.mem_append, List.mem_singleton] at h1
        rcases h1 with h1 | h1
        · have := (List.pairwise_append.1 hp).2.2 _ h1 p (by simp)
          omega
        · omega
      clear hE hok
      induction l with
      | nil => rfl
      | cons s l ih =>
        have h1 := hle s (by simp)
        have h2 := ih (fun s hs => hle s (by simp [hs]))
        simp only [atS, h2]
        rw [if_neg (by omega)]; omega
    split
    · rename_i hd; rw [← hd, hz]
    · exact hz
/-- The numbers of the facts are depths, and each positive depth is one. -/
theorem dRun_nums (l : List Sp) : ∀ E : List Int, (∀ F ∈ (dRun l E).out, 0 < F.1 ∧ ∃ p ∈ E, F.1 = atS l p) ∧ (∀ p ∈ E, 0 < atS l p → (∃ F ∈ (dRun l E).out, F.1 = atS l p) ∨ (dRun l E).depth = atS l p) ∧ ((dRun l E).depth = 0 ∨ ∃ p ∈ E, (dRun l E).depth = atS l p) := by
  refine snocRec ?_ ?_
  · exact ⟨by simp [dRun], by simp, .inl rfl⟩
  · intro E p ⟨h1, h2, h3⟩
    rw [dRun_snoc, dStep]
    split
    · rename_i hd
      refine ⟨fun F hF => ⟨(h1 F hF).1, (h1 F hF).2.imp fun q hq => ⟨by simp [hq.1], hq.2⟩⟩, fun q hq hp => ?_, .inr ⟨p, by simp, hd.symm⟩⟩
      rcases List.mem_append.1 hq with hq | hq
      · exact h2 q hq hp
      · obtain rfl := List.mem_singleton.1 hq
        exact .inr hd.symm
    · rename_i hd
      refine ⟨fun F hF => ?_, fun q hq hp => ?_, .inr ⟨p, by simp, rfl⟩⟩
      · have hF' : F ∈ (dRun l E).out ∨ (0 < (dRun l E).depth ∧ F.1 = (dRun l E).depth) := by
          revert hF; dsimp only; split
          · rename_i h0
            intro hF
            rcases List.mem_append.1 hF with h | h
            · exact .inl h
            · obtain rfl := List.mem_singleton.1 h
              exact .inr ⟨h0, rfl⟩
          · exact .inl
        rcases hF' with h | ⟨h0, h⟩
        · exact ⟨(h1 F h).1, (h1 F h).2.imp fun q hq => ⟨by simp [hq.1], hq.2⟩⟩
        · rcases h3 with h3 | ⟨q, hq, h3⟩
          · omega
          · exact ⟨by omega, q, by simp [hq], by omega⟩
      · rcases List.mem_append.1 hq with hq | hq
        · rcases h2 q hq hp with ⟨F, hF, he⟩ | h
          · refine .inl ⟨F, ?_, he⟩
            dsimp only; split
            · simp [hF]
            · exact hF
          · refine .inl ⟨((dRun l E).depth, ((dRun l E).frm, p)), ?_, h⟩
            dsimp only
            rw [if_pos (by omega)]; simp
        · obtain rfl := List.mem_singleton.1 hq
          exact .inr rfl
theorem dep_nums {l : List Sp} {F : List Dep} (hok : ∀ s ∈ l, s.1 < s.2) (h : DepRes l F) : (∀ f ∈ F, 0 < f.1 ∧ ∃ p, f.1 = atS l p) ∧ ∀ s ∈ l, 0 < atS l s.1 → ∃ f ∈ F, f.1 = atS l s.1 := by
  obtain ⟨E, hE, rfl⟩ := h
  obtain ⟨h1, h2, _⟩ := dRun_nums l E
  refine ⟨fun f hf => ⟨(h1 f hf).1, (h1 f hf).2.imp fun p hp => hp.2⟩, fun s hs hp => ?_⟩
  rcases h2 s.1 ((hE.mem _).2 ⟨s, hs, .inl rfl⟩) hp with h | h
  · exact h
  · rw [dRun_end hok hE] at h; omega
end Go.Proofs.Ytahpcepnagpbdaa
