/- First fit needs as many rooms as the greatest depth. Plain law. -/
import Derived.Test.YtahpcepnagpbdaaDepP
import Derived.Test.YtahpcepnagpbdaaRoomP
import Derived.Test.YtahpcepnagpbdaaMostP
namespace Go.Proofs.Ytahpcepnagpbdaa

/-- The indices of the spans that contain a point. -/
def inAtJ (l : List Sp) (x : Int) (j : Nat) : Bool := decide (fr l j ≤ x) && decide (x < tt l j)
theorem sp_snoc_lt {l : List Sp} {s : Sp} {j : Nat} (h : j < l.length) : fr (l ++ [s]) j = fr l j ∧ tt (l ++ [s]) j = tt l j := by
  simp [fr, tt, List.getElem?_append_left h]
theorem sp_snoc_at (l : List Sp) (s : Sp) : fr (l ++ [s]) l.length = s.1 ∧ tt (l ++ [s]) l.length = s.2 := by simp [fr, tt]
theorem atS_append (l m : List Sp) (x : Int) : atS (l ++ m) x = atS l x + atS m x := by
  induction l with
  | nil => simp [atS]
  | cons s l ih => simp only [List.cons_append, atS, ih]; omega
theorem atS_range (x : Int) : ∀ l : List Sp, atS l x = (((List.range l.length).filter (inAtJ l x)).length : Int) := by
  refine snocRec rfl ?_
  intro l s ih
  rw [atS_append, ih, List.length_append, List.length_singleton, List.range_succ, List.filter_append, List.length_append]
  have e1 : (List.range l.length).filter (inAtJ (l ++ [s]) x) = (List.range l.length).filter (inAtJ l x) := by
    apply List.filter_congr
    intro j hj
    have := sp_snoc_lt (s := s) (List.mem_range.1 hj)
    simp only [inAtJ, this.1, this.2]
  rw [e1]
  have e2 : inAtJ (l ++ [s]) x l.length = (decide (s.1 ≤ x) && decide (x < s.2)) := by
    have := sp_snoc_at l s
    simp only [inAtJ, this.1, this.2]
  by_cases h : s.1 ≤ x ∧ x < s.2
  · have : inAtJ (l ++ [s]) x l.length = true := by rw [e2]; simp [h]
    simp [atS, h, this]
  · have : inAtJ (l ++ [s]) x l.length = false := by rw [e2]; simp; omega
    simp [atS, h, this]
theorem nodup_atS {l : List Sp} {x : Int} {M : List Nat} (hn : M.Nodup) (h : ∀ j ∈ M, j < l.length ∧ inAtJ l x j = true) : (M.length : Int) ≤ atS l x := by
  rw [atS_range]
  exact Int.ofNat_le.2 (nodup_sub hn fun j hj => List.mem_filter.2 ⟨List.mem_range.2 (h j hj).1, (h j hj).2⟩)

/-- Two spans of one room are apart. -/
theorem rooms_apart {l : List Sp} {L : List Nat} {A : List (Nat × Nat)} (h : RoomsOf l L A) : A.Pairwise fun p q => p.2 = q.2 → comSp (sp l p.1) (sp l q.1) = false := by
  induction h with
  | nil => exact List.Pairwise.nil
  | @snoc L A i r h1 h2 ih =>
    rw [List.pairwise_append]
    refine ⟨ih, by simp, fun p hp q hq hpq => ?_⟩
    obtain rfl := List.mem_singleton.1 hq
    have := List.any_eq_false.1 h2.free p hp
    simp only [Bool.and_eq_true, beq_iff_eq, not_and] at this
    exact Bool.eq_false_iff.2 (this hpq)
theorem pairwise_any {α : Type} {R : α → α → Prop} (hsym : ∀ a b, R a b → R b a) {A : List α} (h : A.Pairwise R) {p q : α} (hp : p ∈ A) (hq : q ∈ A) (hne : p ≠ q) : R p q := by
  obtain ⟨i, hi, rfl⟩ := List.mem_iff_getElem.1 hp
  obtain ⟨j, hj, rfl⟩ := List.mem_iff_getElem.1 hq
  rcases Nat.lt_trichotomy i j with h1 | rfl | h1
  · exact List.pairwise_iff_getElem.1 h i j hi hj h1
  · exact absurd rfl hne
  · exact hsym _ _ (List.pairwise_iff_getElem.1 h j i hj hi h1)
theorem rooms_apart2 {l : List Sp} {L : List Nat} {A : List (Nat × Nat)} (h : RoomsOf l L A) {p q : Nat × Nat} (hp : p ∈ A) (hq : q ∈ A) (hne : p ≠ q) (hr : p.2 = q.2) : comSp (sp l p.1) (sp l q.1) = false :=
  pairwise_any (R := fun p q : Nat × Nat => p.2 = q.2 → comSp (sp l p.1) (sp l q.1) = false) (fun a b hab e => by rw [com_comm]; exact hab e.symm) (rooms_apart h) hp hq hne hr
/-- The room r is given where r + 1 spans meet. -/
theorem rooms_deep {l : List Sp} {L : List Nat} {A : List (Nat × Nat)} (h : RoomsOf l L A) : L.Nodup → (∀ j ∈ L, j < l.length ∧ fr l j < tt l j) → L.Pairwise (fun i j => fr l i ≤ fr l j) → ∀ p ∈ A, (p.2 : Int) + 1 ≤ atS l (fr l p.1) := by
  induction h with
  | nil => intro _ _ _ p hp; simp at hp
  | @snoc L A i r h1 h2 ih =>
    intro hn hok ho p hp
    rw [List.pairwise_append] at ho
    have hn' := (List.nodup_append.1 hn)
    rcases List.mem_append.1 hp with hp | hp
    · exact ih hn'.1 (fun j hj => hok j (by simp [hj])) ho.1 p hp
    · obtain rfl := List.mem_singleton.1 hp
      have hf := rooms_fst h1
      let B := A.filter fun q => inAtJ l (fr l i) q.1
      have hBm : ∀ q ∈ B, q ∈ A ∧ inAtJ l (fr l i) q.1 = true := fun q hq => List.mem_filter.1 hq
      have hr : r ≤ B.length := by
        have := nodup_sub (L := List.range r) (M := B.map (·.2)) List.nodup_range (fun q hq => by
          obtain ⟨p, hp, hc⟩ := List.any_eq_true.1 (h2.least q (List.mem_range.1 hq))
          simp only [Bool.and_eq_true, beq_iff_eq] at hc
          obtain ⟨hc1, hc2⟩ := hc
          have hpL : p.1 ∈ L := by rw [← hf]; exact List.mem_map.2 ⟨p, hp, rfl⟩
          have hle := ho.2.2 p.1 hpL i (by simp)
          replace hc2 := com_true hc2
          simp only [sp] at hc2
          exact List.mem_map.2 ⟨p, List.mem_filter.2 ⟨hp, by simp [inAtJ]; omega⟩, hc1⟩)
        simpa using this
      have hBn : (B.map (·.1)).Nodup := by
        have : (A.map (·.1)).Nodup := by rw [hf]; exact hn'.1
        exact this.sublist ((List.filter_sublist).map _)
      have hni : i ∉ B.map (·.1) := fun hi => by
        obtain ⟨q, hq, he⟩ := List.mem_map.1 hi
        have : q.1 ∈ L := by rw [← hf]; exact List.mem_map.2 ⟨q, (hBm q hq).1, rfl⟩
        exact hn'.2.2 q.1 this i (by simp) he
      have := nodup_atS (l := l) (x := fr l i) (M := i :: B.map (·.1)) (List.nodup_cons.2 ⟨hni, hBn⟩) (fun j hj => by
        rcases List.mem_cons.1 hj with rfl | hj
        · have := hok j (by simp)
          exact ⟨this.1, by simp [inAtJ]; exact this.2⟩
        · obtain ⟨q, hq, rfl⟩ := List.mem_map.1 hj
          have : q.1 ∈ L := by rw [← hf]; exact List.mem_map.2 ⟨q, (hBm q hq).1, rfl⟩
          exact ⟨(hok q.1 (by simp [this])).1, (hBm q hq).2⟩)
      simp only [List.length_cons, List.length_map] at this
      show (r : Int) + 1 ≤ atS l (fr l i)
      omega
theorem cntR_le : ∀ (A : List (Nat × Nat)) (p : Nat × Nat), p ∈ A → (p.2 : Int) + 1 ≤ cntR A := by
  refine snocRec (by simp) ?_
  rintro A ⟨i, r⟩ ih p hp
  rw [cntR_snoc]
  rcases List.mem_append.1 hp with hp | hp
  · have := ih p hp; omega
  · obtain rfl := List.mem_singleton.1 hp; omega
theorem cntR_at : ∀ A : List (Nat × Nat), cntR A = 0 ∨ ∃ p ∈ A, cntR A = (p.2 : Int) + 1 := by
  refine snocRec (.inl rfl) ?_
  rintro A ⟨i, r⟩ ih
  rw [cntR_snoc]
  rcases Int.le_total (cntR A) ((r : Int) + 1) with h | h
  · exact .inr ⟨(i, r), by simp, by omega⟩
  · rcases ih with e | ⟨p, hp, e⟩
    · exact .inl (by omega)
    · exact .inr ⟨p, by simp [hp], by omega⟩
theorem nodup_map_on {α β : Type} {f : α → β} : ∀ {L : List α}, L.Nodup → (∀ x ∈ L, ∀ y ∈ L, f x = f y → x = y) → (L.map f).Nodup
  | [], _, _ => by simp
  | a :: L, hn, h => by
    have hn' := List.nodup_cons.1 hn
    rw [List.map_cons, List.nodup_cons]
    refine ⟨fun ha => ?_, nodup_map_on hn'.2 fun x hx y hy => h x (by simp [hx]) y (by simp [hy])⟩
    obtain ⟨b, hb, e⟩ := List.mem_map.1 ha
    exact hn'.1 (h b (by simp [hb]) a (by simp) e ▸ hb)
theorem cntR_nonneg (A : List (Nat × Nat)) : 0 ≤ cntR A := by
  rcases cntR_at A with h | ⟨p, _, h⟩ <;> omega
theorem depth_rooms {l : List Sp} {L : List Nat} {A : List (Nat × Nat)} (h : RoomsOf l L A) (hL : ∀ j, j < l.length → j ∈ L) (hok : ∀ j, j < l.length → fr l j < tt l j) (x : Int) : atS l x ≤ cntR A := by
  have hf := rooms_fst h
  rw [atS_range]
  have hroom : ∀ j, j < l.length → ∃ r, (j, r) ∈ A := fun j hj => by
    have := hL j hj
    rw [← hf] at this
    obtain ⟨p, hp, rfl⟩ := List.mem_map.1 this
    exact ⟨p.2, hp⟩
  let rm : Nat → Nat := fun j => ((A.find? fun p => p.1 == j).map (·.2)).getD 0
  have hrm : ∀ j, j < l.length → (j, rm j) ∈ A := fun j hj => by
    obtain ⟨r, hr⟩ := hroom j hj
    cases hfd : A.find? fun p => p.1 == j with
    | none => have := List.find?_eq_none.1 hfd (j, r) hr; simp at this
    | some p =>
      have h1 := List.find?_some hfd
      have h2 := List.mem_of_find?_eq_some hfd
      simp only [beq_iff_eq] at h1
      show (j, rm j) ∈ A
      have : rm j = p.2 := by simp [rm, hfd]
      rw [this, ← h1]; exact h2
  have h1 : (((List.range l.length).filter (inAtJ l x)).map rm).Nodup := by
    refine nodup_map_on (List.nodup_range.filter _) fun a ha b hb e => ?_
    have ha' := List.mem_filter.1 ha
    have hb' := List.mem_filter.1 hb
    apply Classical.byContradiction
    intro hne
    have := rooms_apart2 h (hrm a (List.mem_range.1 ha'.1)) (hrm b (List.mem_range.1 hb'.1)) (by simp [hne]) e
    have h2 := ha'.2; have h3 := hb'.2
    have h4 := com_false this (hok a (List.mem_range.1 ha'.1)) (hok b (List.mem_range.1 hb'.1))
    simp only [inAtJ, Bool.and_eq_true, decide_eq_true_eq] at h2 h3
    simp only [sp] at h4
    omega
  have h2 := nodup_sub h1 (M := List.range (cntR A).toNat) (fun r hr => by
    obtain ⟨j, hj, rfl⟩ := List.mem_map.1 hr
    have := cntR_le A _ (hrm j (List.mem_range.1 (List.mem_filter.1 hj).1))
    simp only at this
    rw [List.mem_range]; omega)
  rw [List.length_map, List.length_range] at h2
  have := cntR_nonneg A
  omega

/-- What Fewest asks of Rooms. -/
structure FewRes (l : List Sp) (R : List Int) (c : Int) (F : List Dep) : Prop where
  len : R.length = l.length
  room : ∀ i, i < l.length → 0 ≤ iv R i ∧ iv R i < c
  apart : ∀ i k, i < l.length → k < i → iv R i = iv R k → comSp (sp l i) (sp l k) = false
  most : F.foldl (fun m f => max m f.1) 0 = c
theorem foldl_max : ∀ (F : List Dep) (m : Int), m ≤ F.foldl (fun m f => max m f.1) m ∧ (∀ f ∈ F, f.1 ≤ F.foldl (fun m f => max m f.1) m) ∧ (F.foldl (fun m f => max m f.1) m = m ∨ ∃ f ∈ F, F.foldl (fun m f => max m f.1) m = f.1)
  | [], m => ⟨Int.le_refl _, by simp, .inl rfl⟩
  | f :: F, m => by
    obtain ⟨h1, h2, h3⟩ := foldl_max F (max m f.1)
    simp only [List.foldl_cons]
    refine ⟨by omega, fun g hg => ?_, ?_⟩
    · rcases List.mem_cons.1 hg with rfl | hg
      · omega
      · exact h2 g hg
    · rcases h3 with h3 | ⟨g, hg, h3⟩
      · rcases Int.le_total m f.1 with h | h
        · exact .inr ⟨f, by simp, by omega⟩
        · exact .inl (by omega)
      · exact .inr ⟨g, by simp [hg], h3⟩
theorem few_res {l : List Sp} {R : List Int} {c : Int} {F : List Dep} (hok : ∀ j, j < l.length → fr l j < tt l j) (hs : ∀ s ∈ l, s.1 < s.2) (h : RoomsRes l R c) (hF : DepRes l F) : FewRes l R c F := by
  obtain ⟨L, A, hL, hA, rfl, rfl⟩ := h
  have hLn : L.Nodup := hL.perm.symm.nodup List.nodup_range
  have hLm : ∀ j, j ∈ L ↔ j < l.length := fun j => (hL.perm.mem_iff).trans List.mem_range
  have hf := rooms_fst hA
  have hlt : ∀ p ∈ A, p.1 < l.length := fun p hp => (hLm _).1 (by rw [← hf]; exact List.mem_map.2 ⟨p, hp, rfl⟩)
  have hget := roomArr_get (n := l.length) (A := A) (by rw [hf]; exact hLn) hlt
  have hex : ∀ j, j < l.length → ∃ p ∈ A, p.1 = j := fun j hj => by
    have := (hLm j).2 hj
    rw [← hf] at this
    obtain ⟨p, hp, e⟩ := List.mem_map.1 this
    exact ⟨p, hp, e⟩
  refine ⟨roomArr_len _ _, fun i hi => ?_, fun i k hi hk e => ?_, ?_⟩
  · obtain ⟨p, hp, rfl⟩ := hex i hi
    rw [hget p hp]
    have := cntR_le A p hp
    omega
  · obtain ⟨p, hp, rfl⟩ := hex i hi
    obtain ⟨q, hq, rfl⟩ := hex k (by omega)
    rw [hget p hp, hget q hq] at e
    exact rooms_apart2 hA hp hq (fun e' => by rw [e'] at hk; omega) (by omega)
  · obtain ⟨h1, h2, h3⟩ := foldl_max F 0
    obtain ⟨n1, n2⟩ := dep_nums hs hF
    apply Int.le_antisymm
    · rcases h3 with h3 | ⟨f, hf, h3⟩
      · rw [h3]; exact cntR_nonneg A
      · obtain ⟨_, p, hp⟩ := n1 f hf
        rw [h3, hp]
        exact depth_rooms hA (fun j hj => (hLm j).2 hj) hok p
    · rcases cntR_at A with h | ⟨p, hp, h⟩
      · omega
      · have hd := rooms_deep hA hLn (fun j hj => ⟨(hLm j).1 hj, hok j ((hLm j).1 hj)⟩) (hL.asc.imp fun h => lex_le h) p hp
        have hpl := hlt p hp
        have hmem : (fr l p.1, tt l p.1) ∈ l := by
          have : l[p.1] = (fr l p.1, tt l p.1) := by simp [fr, tt, hpl]
          rw [← this]; exact List.getElem_mem hpl
        obtain ⟨f, hf, e⟩ := n2 _ hmem (by show 0 < atS l (fr l p.1); omega)
        have := h2 f hf
        simp only at e
        omega
end Go.Proofs.Ytahpcepnagpbdaa
