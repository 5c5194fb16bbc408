/- Law 39: the plain law of aggregate.each. -/
import Derived.Test.YtohjgegnamcnlaaGreatAgF
namespace Go.Proofs.YtohjgegnamcnlaaGreat
open Go.RowKit Go.Shelf

/-- A visit: a span, and the rows there. -/
abbrev Vis := Sp × List VRow
def actF (F : List Fct) (r : VRow) (t : Int) : Prop := ∃ f ∈ F, f.1 = r ∧ f.2.1 ≤ t ∧ t < f.2.2
def Tm (F : List Fct) (t : Int) : Prop := ∃ f ∈ F, t = f.2.1 ∨ t = f.2.2
/-- The visits so far: they cover the times of which P holds. -/
structure VisOk (F : List Fct) (Vs : List Vis) (P : Int → Prop) : Prop where
  span : ∀ v ∈ Vs, v.1.1 < v.1.2 ∧ Tm F v.1.1 ∧ Tm F v.1.2
  inP : ∀ v ∈ Vs, ∀ t, v.1.1 ≤ t → t < v.1.2 → P t
  ord : Vs.Pairwise fun a b => a.1.2 ≤ b.1.1
  rows : ∀ v ∈ Vs, v.2.Nodup ∧ v.2 ≠ [] ∧ ∀ t, v.1.1 ≤ t → t < v.1.2 → ∀ r, r ∈ v.2 ↔ actF F r t
  cover : ∀ t r, P t → actF F r t → ∃ v ∈ Vs, v.1.1 ≤ t ∧ t < v.1.2
/-- Facts as the code has them valid: each ends behind its beginning. -/
def Up39 (F : List Fct) : Prop := ∀ f ∈ F, f.2.1 < f.2.2
def evL (i : Nat) (L : List EvA) : EvA := L.getD i (0, true)
/-- A list of events in order. -/
structure EvOk (F : List Fct) (L : List EvA) : Prop where
  perm : L.Perm (evAll F.length)
  srt : L.Pairwise fun s t => evt F s ≤ evt F t
theorem mem_evAll {n : Nat} {x : EvA} : x ∈ evAll n ↔ x.1 < n := by
  obtain ⟨i, b⟩ := x
  unfold evAll
  rw [List.mem_flatMap]
  constructor
  · rintro ⟨j, hj, h⟩
    simp only [List.mem_range] at hj
    simp only [List.mem_cons, Prod.mk.injEq, List.not_mem_nil, or_false] at h
    rcases h with h | h <;> (simp only; omega)
  · intro h
    refine ⟨i, List.mem_range.2 h, ?_⟩
    cases b <;> simp
theorem nodup_evAll : ∀ n, (evAll n).Nodup
  | 0 => List.nodup_nil
  | n + 1 => by
    rw [evAll_succ]
    refine List.nodup_append.2 ⟨nodup_evAll n, by simp, fun a ha b hb e => ?_⟩
    subst e
    have := mem_evAll.1 ha
    simp only [List.mem_cons, List.not_mem_nil, or_false] at hb
    rcases hb with e | e <;> (rw [e] at this; simp only at this; omega)
section
variable {F : List Fct} {L : List EvA}
theorem EvOk.nodup (h : EvOk F L) : L.Nodup := h.perm.nodup_iff.2 (nodup_evAll _)
theorem EvOk.mem (h : EvOk F L) {x : EvA} : x ∈ L ↔ x.1 < F.length := by rw [h.perm.mem_iff, mem_evAll]
theorem EvOk.len (h : EvOk F L) : L.length = 2 * F.length := by rw [h.perm.length_eq, evAll_len]
theorem take_split {L : List EvA} {k : Nat} (h : k < L.length) : L = L.take k ++ L[k] :: L.drop (k + 1) := by rw [← List.drop_eq_getElem_cons h, List.take_append_drop]
/-- What lies ahead of a place is not later; what lies behind it is not earlier. -/
theorem EvOk.ahead (h : EvOk F L) {k : Nat} (hk : k < L.length) : (∀ x ∈ L.take k, evt F x ≤ evt F L[k]) ∧ ∀ x ∈ L.drop (k + 1), evt F L[k] ≤ evt F x := by
  have h1 := h.srt
  rw [take_split hk, List.pairwise_append] at h1
  obtain ⟨_, h2, h3⟩ := h1
  refine ⟨fun x hx => h3 x hx _ (List.mem_cons_self ..), fun x hx => (List.pairwise_cons.1 h2).1 x hx⟩
theorem EvOk.apart (h : EvOk F L) {k : Nat} (hk : k < L.length) : L[k] ∉ L.take k ∧ L[k] ∉ L.drop (k + 1) ∧ ∀ x, x ∈ L.take k → x ∉ L.drop (k + 1) := by
  have h1 := h.nodup
  rw [take_split hk, List.nodup_append] at h1
  obtain ⟨_, h2, h3⟩ := h1
  refine ⟨fun hx => h3 _ hx _ (List.mem_cons_self ..) rfl, (List.nodup_cons.1 h2).1, fun x hx hy => h3 x hx x (List.mem_cons_of_mem _ hy) rfl⟩
theorem EvOk.where (h : EvOk F L) {k : Nat} (hk : k < L.length) {x : EvA} (hx : x.1 < F.length) : x ∈ L.take k ∨ x = L[k] ∨ x ∈ L.drop (k + 1) := by
  have h1 := h.mem.2 hx
  rw [take_split hk] at h1
  rcases List.mem_append.1 h1 with e | e
  · exact .inl e
  · rcases List.mem_cons.1 e with e | e
    · exact .inr (.inl e)
    · exact .inr (.inr e)
/-- The k-th event is an end: its beginning lies ahead of it. -/
theorem EvOk.begun (h : EvOk F L) (hu : Up39 F) {k i : Nat} (hk : k < L.length) (he : L[k] = (i, false)) : (i, true) ∈ L.take k := by
  have hi : i < F.length := by
    have := h.mem.1 (List.getElem_mem hk)
    rw [he] at this
    exact this
  rcases h.where hk (x := (i, true)) hi with e | e | e
  · exact e
  · rw [he] at e
    cases e
  · have h1 := (h.ahead hk).2 _ e
    rw [he] at h1
    have h2 := hu _ (fc_mem hi)
    unfold evt at h1
    simp only [if_true, Bool.false_eq_true, if_false] at h1
    omega
/-- The k-th event is a beginning: its end does not lie ahead of it. -/
theorem EvOk.unended (h : EvOk F L) (hu : Up39 F) {k i : Nat} (hk : k < L.length) (he : L[k] = (i, true)) : (i, false) ∉ L.take k := fun e => by
  have hi : i < F.length := by
    have := h.mem.1 (List.getElem_mem hk)
    rw [he] at this
    exact this
  have h1 := (h.ahead hk).1 _ e
  rw [he] at h1
  have h2 := hu _ (fc_mem hi)
  unfold evt at h1
  simp only [if_true, Bool.false_eq_true, if_false] at h1
  omega
end
/-! ### how many facts of a code are open -/
def codeF (F : List Fct) (i : Nat) : ByteArray := encR (fc F i).1
def opn (F : List Fct) (pre : List EvA) (s : ByteArray) (i : Nat) : Bool := decide (codeF F i = s) && decide ((i, true) ∈ pre) && !decide ((i, false) ∈ pre)
def cntS (F : List Fct) (pre : List EvA) (s : ByteArray) : Nat := (List.range F.length).countP (opn F pre s)
theorem countP_turn {p q : Nat → Bool} {i : Nat} (hp : p i = false) (hq : q i = true) (he : ∀ j, j ≠ i → p j = q j) : ∀ n, i < n → (List.range n).countP q = (List.range n).countP p + 1
  | 0, h => absurd h (by omega)
  | n + 1, h => by
    rw [List.range_succ, List.countP_append, List.countP_append]
    rcases Nat.eq_or_lt_of_le (show i ≤ n by omega) with e | e
    · subst e
      have key : (List.range i).countP q = (List.range i).countP p := List.countP_congr fun j hj => by
        have := List.mem_range.1 hj
        rw [he j (by omega)]
      rw [key]
      simp [hp, hq]
    · rw [countP_turn hp hq he n e]
      have : p n = q n := he n (by omega)
      simp only [List.countP_cons, List.countP_nil, this]
      omega
theorem countP_same {p q : Nat → Bool} (he : ∀ j, p j = q j) (n : Nat) : (List.range n).countP q = (List.range n).countP p := List.countP_congr fun j _ => by rw [he j]
section
variable {F : List Fct} {L : List EvA}
theorem take_succE {k : Nat} (hk : k < L.length) : L.take (k + 1) = L.take k ++ [L[k]] := List.take_succ_eq_append_getElem hk
theorem cnt_begin (h : EvOk F L) (hu : Up39 F) {k i : Nat} (hk : k < L.length) (he : L[k] = (i, true)) (s : ByteArray) : cntS F (L.take (k + 1)) s = cntS F (L.take k) s + if codeF F i = s then 1 else 0 := by
  have hi : i < F.length := by
    have := h.mem.1 (List.getElem_mem hk)
    rw [he] at this
    exact this
  have h1 := (h.apart hk).1
  have h2 := h.unended hu hk he
  rw [he] at h1
  have hoth : ∀ j, j ≠ i → opn F (L.take k) s j = opn F (L.take (k + 1)) s j := fun j hj => by
    unfold opn
    rw [take_succE hk, he]
    simp [hj]
  unfold cntS
  by_cases hc : codeF F i = s
  · rw [if_pos hc]
    refine countP_turn (i := i) ?_ ?_ hoth _ hi
    · unfold opn; simp [h1]
    · unfold opn
      rw [take_succE hk, he]
      simp [hc, h2]
  · rw [if_neg hc]
    refine countP_same (fun j => ?_) _
    by_cases hj : j = i
    · subst hj; unfold opn; simp [hc]
    · exact hoth j hj
theorem cnt_end (h : EvOk F L) (hu : Up39 F) {k i : Nat} (hk : k < L.length) (he : L[k] = (i, false)) (s : ByteArray) : cntS F (L.take k) s = cntS F (L.take (k + 1)) s + if codeF F i = s then 1 else 0 := by
  have hi : i < F.length := by
    have := h.mem.1 (List.getElem_mem hk)
    rw [he] at this
    exact this
  have h1 := (h.apart hk).1
  have h2 := h.begun hu hk he
  rw [he] at h1
  have hoth : ∀ j, j ≠ i → opn F (L.take (k + 1)) s j = opn F (L.take k) s j := fun j hj => by
    unfold opn
    rw [take_succE hk, he]
    simp [hj]
  unfold cntS
  by_cases hc : codeF F i = s
  · rw [if_pos hc]
    refine countP_turn (i := i) ?_ ?_ hoth _ hi
    · unfold opn
      rw [take_succE hk, he]
      simp
    · unfold opn
      simp [hc, h1, h2]
  · rw [if_neg hc]
    refine countP_same (fun j => ?_) _
    by_cases hj : j = i
    · subst hj; unfold opn; simp [hc]
    · exact hoth j hj
theorem cnt_le (F : List Fct) (pre : List EvA) (s : ByteArray) : cntS F pre s ≤ F.length := by
  unfold cntS
  have := List.countP_le_length (p := opn F pre s) (l := List.range F.length)
  simpa using this
theorem cnt_pos {pre : List EvA} {s : ByteArray} : 0 < cntS F pre s ↔ ∃ i, i < F.length ∧ opn F pre s i = true := by
  unfold cntS
  rw [List.countP_pos_iff]
  constructor
  · rintro ⟨i, h1, h2⟩
    exact ⟨i, List.mem_range.1 h1, h2⟩
  · rintro ⟨i, h1, h2⟩
    exact ⟨i, List.mem_range.2 h1, h2⟩
/-- The map 'many'. -/
def manyF (F : List Fct) (pre : List EvA) (s : ByteArray) : Option Value := if cntS F pre s = 0 then none else some (.int .i64 ((cntS F pre s : Nat) : Int))
theorem many_get (F : List Fct) (pre : List EvA) (s : ByteArray) : (manyF F pre s).getD (.int .i64 0) = .int .i64 ((cntS F pre s : Nat) : Int) := by
  unfold manyF
  by_cases h : cntS F pre s = 0
  · rw [if_pos h, h]; rfl
  · rw [if_neg h]; rfl
theorem many_begin (h : EvOk F L) (hu : Up39 F) {k i : Nat} (hk : k < L.length) (he : L[k] = (i, true)) (x : ByteArray) :
    updF (manyF F (L.take k)) (codeF F i) (some (.int .i64 ((cntS F (L.take k) (codeF F i) : Int) + 1))) x = manyF F (L.take (k + 1)) x := by
  have h1 := cnt_begin h hu hk he x
  unfold updF manyF
  by_cases e : x = codeF F i
  · subst e
    rw [if_pos rfl] at h1 ⊢
    rw [h1, if_neg (by omega)]
    rfl
  · rw [if_neg (fun e2 => e e2.symm)] at h1
    rw [if_neg e, h1, Nat.add_zero]
theorem many_end (h : EvOk F L) (hu : Up39 F) {k i : Nat} (hk : k < L.length) (he : L[k] = (i, false)) {c : Nat} (hc : cntS F (L.take k) (codeF F i) = c + 1) (x : ByteArray) :
    updF (manyF F (L.take k)) (codeF F i) (if c = 0 then none else some (.int .i64 (c : Int))) x = manyF F (L.take (k + 1)) x := by
  have h1 := cnt_end h hu hk he x
  have h2 := cnt_end h hu hk he (codeF F i)
  rw [if_pos rfl, hc] at h2
  have h3 : cntS F (L.take (k + 1)) (codeF F i) = c := by omega
  unfold updF manyF
  by_cases e : x = codeF F i
  · subst e
    rw [if_pos rfl, h3]
  · rw [if_neg (fun e2 => e e2.symm), Nat.add_zero] at h1
    rw [if_neg e, h1]
/-! ### the first fact of a code -/
def firstN (F : List Fct) : Nat → ByteArray → Option Nat
  | 0, _ => none
  | k + 1, s => match firstN F k s with
    | some i => some i
    | none => if codeF F k = s then some k else none
theorem firstN_some : ∀ {k : Nat} {s : ByteArray} {i : Nat}, firstN F k s = some i → i < k ∧ codeF F i = s
  | 0, _, _, h => by cases h
  | k + 1, s, i, h => by
    unfold firstN at h
    split at h
    · rename_i j hj
      injection h with h
      subst h
      have := firstN_some hj
      exact ⟨by omega, this.2⟩
    · split at h
      · injection h with h
        subst h
        exact ⟨by omega, by assumption⟩
      · cases h
theorem firstN_has : ∀ {k i : Nat}, i < k → ∃ j, firstN F k (codeF F i) = some j
  | 0, i, h => absurd h (by omega)
  | k + 1, i, h => by
    unfold firstN
    cases q : firstN F k (codeF F i) with
    | some j => exact ⟨j, rfl⟩
    | none =>
      rcases Nat.eq_or_lt_of_le (show i ≤ k by omega) with e | e
      · subst e
        exact ⟨i, if_pos rfl⟩
      · obtain ⟨j, hj⟩ := firstN_has (k := k) e
        rw [q] at hj
        cases hj
def firstF (F : List Fct) (k : Nat) (s : ByteArray) : Option Value := (firstN F k s).map fun i : Nat => Value.int .i64 (i : Int)
/-! ### between two batches -/
/-- At the place k no batch is under way: T was the last time. -/
structure Gap (F : List Fct) (L : List EvA) (k : Nat) (T : Int) : Prop where
  lo : ∀ x ∈ L.take k, evt F x ≤ T
  hi : ∀ x ∈ L.drop k, T < evt F x
theorem opn_gap (h : EvOk F L) {k : Nat} {T : Int} (hg : Gap F L k T) {s : ByteArray} {i : Nat} (hi : i < F.length) : opn F (L.take k) s i = (decide (codeF F i = s) && decide ((fc F i).2.1 ≤ T) && decide (T < (fc F i).2.2)) := by
  have key : ∀ b, decide ((i, b) ∈ L.take k) = decide (evt F (i, b) ≤ T) := fun b => by
    rw [decide_eq_decide]
    constructor
    · exact fun hx => hg.lo _ hx
    · intro hle
      have h1 : (i, b) ∈ L := h.mem.2 hi
      rw [← List.take_append_drop k L] at h1
      rcases List.mem_append.1 h1 with e | e
      · exact e
      · have := hg.hi _ e
        omega
  unfold opn
  rw [key true, key false]
  unfold evt
  simp only [if_true, Bool.false_eq_true, if_false]
  congr 1
  rw [← decide_not, decide_eq_decide]
  omega
/-- Between two times of events nothing turns. -/
theorem act_still (h : EvOk F L) {k : Nat} {T t : Int} (hg : Gap F L k T) (h1 : T ≤ t) (h2 : ∀ x ∈ L.drop k, t < evt F x) (r : VRow) : actF F r t ↔ actF F r T := by
  have hg2 : Gap F L k t := ⟨fun x hx => Int.le_trans (hg.lo x hx) h1, h2⟩
  have key : ∀ i, i < F.length → ((fc F i).2.1 ≤ t ∧ t < (fc F i).2.2 ↔ (fc F i).2.1 ≤ T ∧ T < (fc F i).2.2) := fun i hi => by
    have e1 := opn_gap h hg (s := codeF F i) hi
    have e2 := opn_gap h hg2 (s := codeF F i) hi
    rw [e1] at e2
    simp only [decide_true, Bool.true_and] at e2
    constructor
    · rintro ⟨a, b⟩
      rw [decide_eq_true a, decide_eq_true b] at e2
      simpa using e2
    · rintro ⟨a, b⟩
      rw [decide_eq_true a, decide_eq_true b] at e2
      simpa using e2.symm
  unfold actF
  constructor
  · rintro ⟨f, hf, e, h3⟩
    obtain ⟨i, hi, rfl⟩ := List.getElem_of_mem hf
    rw [fc_at hi] at e h3 hf
    exact ⟨_, hf, e, (key i hi).1 h3⟩
  · rintro ⟨f, hf, e, h3⟩
    obtain ⟨i, hi, rfl⟩ := List.getElem_of_mem hf
    rw [fc_at hi] at e h3 hf
    exact ⟨_, hf, e, (key i hi).2 h3⟩
/-- The rows that are gathered: one for each code that is open. -/
structure RowsOf (F : List Fct) (pre : List EvA) (R : List VRow) (todo : ByteArray → Bool) : Prop where
  nd : R.Nodup
  from_ : ∀ r ∈ R, ∃ i, i < F.length ∧ (fc F i).1 = r
  iff : ∀ i, i < F.length → ((fc F i).1 ∈ R ↔ (cntS F pre (codeF F i) ≠ 0 ∧ todo (codeF F i) = false))
def OkF (F : List Fct) : Prop := ∀ f ∈ F, okR f.1
theorem code_inj (hok : OkF F) {i j : Nat} (hi : i < F.length) (hj : j < F.length) (h : codeF F i = codeF F j) : (fc F i).1 = (fc F j).1 := encR_inj (hok _ (fc_mem hi)) (hok _ (fc_mem hj)) h
theorem RowsOf.start (F : List Fct) (pre : List EvA) : RowsOf F pre [] (fun s => (manyF F pre s).isSome) :=
  ⟨List.nodup_nil, fun r hr => absurd hr (by simp), fun i hi => by
    constructor
    · intro h; exact absurd h (by simp)
    · rintro ⟨h1, h2⟩
      unfold manyF at h2
      rw [if_neg h1] at h2
      cases h2⟩
theorem RowsOf.step (hok : OkF F) {pre : List EvA} {R : List VRow} {todo : ByteArray → Bool} (h : RowsOf F pre R todo) {s : ByteArray} (hs : todo s = true) (hm : (manyF F pre s).isSome = true) {j : Nat} (hj : j < F.length) (hc : codeF F j = s) :
    RowsOf F pre (R ++ [(fc F j).1]) (fun x => todo x && !decide (x = s)) := by
  subst hc
  have hnot : (fc F j).1 ∉ R := fun hin => by
    have := ((h.iff j hj).1 hin).2
    rw [hs] at this
    cases this
  have hcn : cntS F pre (codeF F j) ≠ 0 := fun e => by
    unfold manyF at hm
    rw [if_pos e] at hm
    cases hm
  refine ⟨?_, ?_, ?_⟩
  · refine List.nodup_append.2 ⟨h.nd, by simp, fun a ha b hb e => ?_⟩
    rw [List.mem_singleton] at hb
    rw [e, hb] at ha
    exact hnot ha
  · intro r hr
    rcases List.mem_append.1 hr with e | e
    · exact h.from_ r e
    · rw [List.mem_singleton] at e
      exact ⟨j, hj, e.symm⟩
  · intro i hi
    rw [List.mem_append, List.mem_singleton, h.iff i hi]
    constructor
    · rintro (⟨h1, h2⟩ | e)
      · exact ⟨h1, by rw [h2]; rfl⟩
      · have e2 : codeF F i = codeF F j := by unfold codeF; rw [e]
        rw [e2]
        exact ⟨hcn, by simp⟩
    · rintro ⟨h1, h2⟩
      by_cases e : codeF F i = codeF F j
      · exact .inr (code_inj hok hi hj e)
      · refine .inl ⟨h1, ?_⟩
        rw [decide_eq_false e] at h2
        simpa using h2
theorem VisOk.congr {Vs : List Vis} {P Q : Int → Prop} (h : VisOk F Vs P) (hpq : ∀ t, P t ↔ Q t) : VisOk F Vs Q :=
  ⟨h.span, fun v hv t h1 h2 => (hpq t).1 (h.inP v hv t h1 h2), h.ord, h.rows, fun t r hq => h.cover t r ((hpq t).2 hq)⟩
/-- The times ahead of all events from the place k on. -/
def Bef (F : List Fct) (L : List EvA) (k : Nat) (t : Int) : Prop := ∀ x ∈ L.drop k, t < evt F x
theorem bef39_lt (h : EvOk F L) {k : Nat} (hk : k < L.length) (t : Int) : Bef F L k t ↔ t < evt F L[k] := by
  unfold Bef
  rw [List.drop_eq_getElem_cons hk]
  constructor
  · exact fun hx => hx _ (List.mem_cons_self ..)
  · intro hx x hm
    rcases List.mem_cons.1 hm with e | e
    · rw [e]; exact hx
    · have := (h.ahead hk).2 x e
      omega
theorem cnt_gap (h : EvOk F L) {k : Nat} {T : Int} (hg : Gap F L k T) (i : Nat) : cntS F (L.take k) (codeF F i) ≠ 0 ↔ ∃ j, j < F.length ∧ codeF F j = codeF F i ∧ (fc F j).2.1 ≤ T ∧ T < (fc F j).2.2 := by
  rw [← Nat.pos_iff_ne_zero, cnt_pos]
  constructor
  · rintro ⟨j, hj, ho⟩
    rw [opn_gap h hg hj] at ho
    simp only [Bool.and_eq_true, decide_eq_true_eq] at ho
    exact ⟨j, hj, ho.1.1, ho.1.2, ho.2⟩
  · rintro ⟨j, hj, a, b, c⟩
    refine ⟨j, hj, ?_⟩
    rw [opn_gap h hg hj, decide_eq_true a, decide_eq_true b, decide_eq_true c]
    rfl
theorem cnt_act (h : EvOk F L) (hok : OkF F) {k : Nat} {T : Int} (hg : Gap F L k T) {i : Nat} (hi : i < F.length) : cntS F (L.take k) (codeF F i) ≠ 0 ↔ actF F (fc F i).1 T := by
  rw [cnt_gap h hg]
  constructor
  · rintro ⟨j, hj, a, b, c⟩
    exact ⟨_, fc_mem hj, code_inj hok hj hi a, b, c⟩
  · rintro ⟨f, hf, e, b, c⟩
    obtain ⟨j, hj, rfl⟩ := List.getElem_of_mem hf
    rw [fc_at hj] at e b c
    refine ⟨j, hj, ?_, b, c⟩
    unfold codeF
    rw [e]
/-- The visit at a gap. -/
theorem visit_ok (h : EvOk F L) (hok : OkF F) {k : Nat} {T : Int} (hg : Gap F L k T) (hk : k < L.length) (hT : Tm F T) {Vs : List Vis} (hV : VisOk F Vs (· < T)) {R : List VRow} {todo : ByteArray → Bool} (hR : RowsOf F (L.take k) R todo) (hd : ∀ i, i < F.length → todo (codeF F i) = false) (hne : ∃ i, i < F.length ∧ cntS F (L.take k) (codeF F i) ≠ 0) :
    VisOk F (Vs ++ [((T, evt F L[k]), R)]) (Bef F L k) := by
  have hmem : L[k] ∈ L.drop k := by rw [List.drop_eq_getElem_cons hk]; exact List.mem_cons_self ..
  have hlt := hg.hi _ hmem
  have hbf := bef39_lt h hk
  have hdrop : ∀ x ∈ L.drop k, evt F L[k] ≤ evt F x := fun x hx => by
    rw [List.drop_eq_getElem_cons hk] at hx
    rcases List.mem_cons.1 hx with e | e
    · rw [e]; omega
    · exact (h.ahead hk).2 x e
  have hrows : ∀ t, T ≤ t → t < evt F L[k] → ∀ r, r ∈ R ↔ actF F r t := fun t h1 h2 r => by
    rw [act_still h hg h1 (fun x hx => by have := hdrop x hx; omega) r]
    constructor
    · intro hr
      obtain ⟨i, hi, rfl⟩ := hR.from_ r hr
      exact (cnt_act h hok hg hi).1 ((hR.iff i hi).1 hr).1
    · intro ha
      obtain ⟨f, hf, e, h3⟩ := ha
      obtain ⟨i, hi, rfl⟩ := List.getElem_of_mem hf
      rw [fc_at hi] at e hf h3
      subst e
      exact (hR.iff i hi).2 ⟨(cnt_act h hok hg hi).2 ⟨_, hf, rfl, h3⟩, hd i hi⟩
  have hTm : Tm F (evt F L[k]) := by
    have hm : L[k].1 < F.length := h.mem.1 (List.getElem_mem hk)
    refine ⟨_, fc_mem hm, ?_⟩
    unfold evt
    split
    · exact .inl rfl
    · exact .inr rfl
  refine ⟨?_, ?_, ?_, ?_, ?_⟩
  · intro v hv
    rcases List.mem_append.1 hv with e | e
    · exact hV.span v e
    · rw [List.mem_singleton] at e
      subst e
      exact ⟨hlt, hT, hTm⟩
  · intro v hv t h1 h2
    rw [hbf]
    rcases List.mem_append.1 hv with e | e
    · have := hV.inP v e t h1 h2
      omega
    · rw [List.mem_singleton] at e
      subst e
      exact h2
  · rw [List.pairwise_append]
    refine ⟨hV.ord, List.pairwise_singleton _ _, fun v hv x hx => ?_⟩
    rw [List.mem_singleton] at hx
    subst hx
    have h1 := (hV.span v hv).1
    have := hV.inP v hv (v.1.2 - 1) (by omega) (by omega)
    show v.1.2 ≤ T
    omega
  · intro v hv
    rcases List.mem_append.1 hv with e | e
    · exact hV.rows v e
    · rw [List.mem_singleton] at e
      subst e
      refine ⟨hR.nd, ?_, hrows⟩
      obtain ⟨i, hi, hc⟩ := hne
      have := (hR.iff i hi).2 ⟨hc, hd i hi⟩
      exact List.ne_nil_of_mem this
  · intro t r hp ha
    rw [hbf] at hp
    by_cases ht : t < T
    · obtain ⟨v, hv, h1⟩ := hV.cover t r ht ha
      exact ⟨v, List.mem_append_left _ hv, h1⟩
    · exact ⟨_, List.mem_append_right _ (List.mem_singleton.2 rfl), by simp only; omega, hp⟩
/-- No visit at a gap: nothing holds there. -/
theorem novisit_ok (h : EvOk F L) (hok : OkF F) {k : Nat} {T : Int} (hg : Gap F L k T) {Vs : List Vis} (hV : VisOk F Vs (· < T)) (hz : ∀ i, i < F.length → cntS F (L.take k) (codeF F i) = 0) : VisOk F Vs (Bef F L k) := by
  refine ⟨hV.span, fun v hv t h1 h2 => ?_, hV.ord, hV.rows, fun t r hp ha => ?_⟩
  · have := hV.inP v hv t h1 h2
    intro x hx
    have := hg.hi x hx
    omega
  · by_cases ht : t < T
    · exact hV.cover t r ht ha
    · rw [act_still h hg (by omega) hp r] at ha
      obtain ⟨f, hf, e, h3⟩ := ha
      obtain ⟨i, hi, rfl⟩ := List.getElem_of_mem hf
      rw [fc_at hi] at e hf h3
      exact absurd (hz i hi) ((cnt_act h hok hg hi).2 ⟨_, hf, rfl, h3⟩)
theorem VisOk.start (F : List Fct) (L : List EvA) (h : EvOk F L) : VisOk F [] (Bef F L 0) := by
  refine ⟨fun v hv => absurd hv (by simp), fun v hv => absurd hv (by simp), List.Pairwise.nil, fun v hv => absurd hv (by simp), fun t r hp ha => ?_⟩
  obtain ⟨f, hf, e, h1, h2⟩ := ha
  obtain ⟨i, hi, rfl⟩ := List.getElem_of_mem hf
  rw [fc_at hi] at h1
  have := hp (i, true) (by rw [List.drop_zero]; exact h.mem.2 hi)
  unfold evt at this
  simp only [if_true] at this
  omega
/-- All events are behind: nothing is open. -/
theorem cnt_all (h : EvOk F L) (s : ByteArray) : cntS F (L.take L.length) s = 0 := by
  unfold cntS
  rw [List.countP_eq_zero]
  intro i hi
  have := List.mem_range.1 hi
  unfold opn
  have h1 : (i, false) ∈ L := h.mem.2 this
  simp [h1]
/-- A batch: from k0 to k the time is T. -/
structure Batch (F : List Fct) (L : List EvA) (k0 k : Nat) (T : Int) : Prop where
  le : k0 ≤ k ∧ k ≤ L.length
  lo : ∀ x ∈ L.take k, evt F x ≤ T
  at_ : k0 < L.length ∧ evt F (evL k0 L) = T
theorem evL_at {k : Nat} (hk : k < L.length) : evL k L = L[k] := by simp [evL, hk]
theorem Batch.start (h : EvOk F L) {k : Nat} (hk : k < L.length) : Batch F L k k (evt F L[k]) := ⟨⟨Nat.le_refl _, Nat.le_of_lt hk⟩, (h.ahead hk).1, hk, by rw [evL_at hk]⟩
theorem Batch.step {k0 k : Nat} {T : Int} (hb : Batch F L k0 k T) (hk : k < L.length) (he : evt F L[k] = T) : Batch F L k0 (k + 1) T := by
  refine ⟨⟨by have := hb.le; omega, hk⟩, fun x hx => ?_, hb.at_⟩
  rw [take_succE hk] at hx
  rcases List.mem_append.1 hx with e | e
  · exact hb.lo x e
  · rw [List.mem_singleton] at e
    rw [e, he]; omega
theorem Batch.gap (h : EvOk F L) {k0 k : Nat} {T : Int} (hb : Batch F L k0 k T) (hend : k = L.length ∨ ∃ hk : k < L.length, evt F L[k] ≠ T) (hlt : k0 < k) : Gap F L k T := by
  refine ⟨hb.lo, fun x hx => ?_⟩
  rcases hend with e | ⟨hk, hne⟩
  · subst e
    rw [List.drop_length] at hx
    exact absurd hx (by simp)
  · have h1 : evL k0 L ∈ L.take k := by
      rw [evL_at hb.at_.1]
      exact List.mem_take_iff_getElem.2 ⟨k0, by have := hb.at_.1; omega, rfl⟩
    have h2 := (h.ahead hk).1 _ h1
    rw [hb.at_.2] at h2
    rw [List.drop_eq_getElem_cons hk] at hx
    rcases List.mem_cons.1 hx with e | e
    · rw [e]; omega
    · have := (h.ahead hk).2 x e
      omega
theorem evt_tm (h : EvOk F L) {k : Nat} (hk : k < L.length) : Tm F (evt F L[k]) := by
  have hm : L[k].1 < F.length := h.mem.1 (List.getElem_mem hk)
  refine ⟨_, fc_mem hm, ?_⟩
  unfold evt
  split
  · exact .inl rfl
  · exact .inr rfl
end
end Go.Proofs.YtohjgegnamcnlaaGreat
