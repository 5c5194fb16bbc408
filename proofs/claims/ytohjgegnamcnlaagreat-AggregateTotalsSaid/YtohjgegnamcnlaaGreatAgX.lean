/- Law 39: the rows at a time, their groups, the results of groups. Plain law. -/
import Derived.Test.YtohjgegnamcnlaaGreatAgH
import Derived.Test.YtohjgegnamcnlaaGreatAgW
namespace Go.Proofs.YtohjgegnamcnlaaGreat
open Go.RowKit Go.Shelf

/-! ### the order of the rows does not matter -/
theorem sumI_perm {a b : List Int} (h : a.Perm b) : sumI a = sumI b := by
  induction h with
  | nil => rfl
  | cons x _ ih => show x + sumI _ = x + sumI _; rw [ih]
  | swap x y l => show y + (x + sumI l) = x + (y + sumI l); omega
  | trans _ _ h1 h2 => exact h1.trans h2
theorem resS_perm {a b : List Int} (h : a.Perm b) : resS a = resS b := by unfold resS; rw [sumI_perm h]
theorem cmpV_le {a b d : Val} (h : cmpV a b ≤ 0) (k : cmpV b d ≤ 0) : cmpV a d ≤ 0 := by
  rcases Int.lt_or_eq_of_le h with h | h
  · rcases Int.lt_or_eq_of_le k with k | k
    · exact Int.le_of_lt (ordV.trans _ _ _ h k)
    · rw [(ordV.eq _ _).1 k] at h; exact Int.le_of_lt h
  · rw [(ordV.eq _ _).1 h]; exact k
/-- Worse or equal, for the least (3) or the greatest (4). -/
def lev (fn : Int) (a b : Val) : Prop := if fn = 3 then cmpV a b ≤ 0 else cmpV b a ≤ 0
theorem lev_refl (fn : Int) (a : Val) : lev fn a a := by unfold lev; split <;> (rw [ordV.refl]; exact Int.le_refl _)
theorem lev_trans {fn : Int} {a b d : Val} (h : lev fn a b) (k : lev fn b d) : lev fn a d := by
  unfold lev at *
  split at h
  · rename_i e; rw [if_pos e] at k; rw [if_pos e]; exact cmpV_le h k
  · rename_i e; rw [if_neg e] at k; rw [if_neg e]; exact cmpV_le k h
theorem lev_anti {fn : Int} {a b : Val} (h : lev fn a b) (k : lev fn b a) : a = b := by
  have e1 := ordV.anti a b
  have key : cmpV a b = 0 := by
    unfold lev at h k
    split at h
    · rename_i e; rw [if_pos e] at k; omega
    · rename_i e; rw [if_neg e] at k; omega
  exact (ordV.eq _ _).1 key
theorem bst_lev {fn : Int} (hf : fn = 3 ∨ fn = 4) (b x : Val) : lev fn (bst fn b x) b ∧ lev fn (bst fn b x) x ∧ (bst fn b x = b ∨ bst fn b x = x) := by
  have e1 := ordV.anti b x
  unfold bst
  by_cases h : (fn = 3 ∧ cmpV x b < 0) ∨ (fn = 4 ∧ 0 < cmpV x b)
  · rw [if_pos h]
    refine ⟨?_, lev_refl _ _, .inr rfl⟩
    unfold lev
    rcases h with ⟨e, h⟩ | ⟨e, h⟩
    · rw [if_pos e]; omega
    · rw [if_neg (by omega)]; omega
  · rw [if_neg h]
    refine ⟨lev_refl _ _, ?_, .inl rfl⟩
    unfold lev
    rcases hf with e | e
    · rw [if_pos e]
      have : ¬ cmpV x b < 0 := fun q => h (.inl ⟨e, q⟩)
      omega
    · rw [if_neg (by omega)]
      have : ¬ 0 < cmpV x b := fun q => h (.inr ⟨e, q⟩)
      omega
theorem foldl_best {fn : Int} (hf : fn = 3 ∨ fn = 4) : ∀ (l : List Val) (b : Val), lev fn (l.foldl (bst fn) b) b ∧ (∀ x ∈ l, lev fn (l.foldl (bst fn) b) x) ∧ (l.foldl (bst fn) b = b ∨ l.foldl (bst fn) b ∈ l)
  | [], b => ⟨lev_refl _ _, fun x hx => absurd hx (by simp), .inl rfl⟩
  | y :: l, b => by
    obtain ⟨h1, h2, h3⟩ := foldl_best hf l (bst fn b y)
    obtain ⟨k1, k2, k3⟩ := bst_lev hf b y
    rw [List.foldl_cons]
    refine ⟨lev_trans h1 k1, fun x hx => ?_, ?_⟩
    · rcases List.mem_cons.1 hx with e | e
      · rw [e]; exact lev_trans h1 k2
      · exact h2 x e
    · rcases h3 with e | e
      · rcases k3 with q | q
        · exact .inl (e.trans q)
        · exact .inr (by rw [e, q]; exact List.mem_cons_self ..)
      · exact .inr (List.mem_cons_of_mem _ e)
theorem best_spec {fn : Int} (hf : fn = 3 ∨ fn = 4) {l : List Val} (h : l ≠ []) : bestV fn l ∈ l ∧ ∀ x ∈ l, lev fn (bestV fn l) x := by
  cases l with
  | nil => exact absurd rfl h
  | cons v l =>
    obtain ⟨h1, h2, h3⟩ := foldl_best hf l v
    show l.foldl (bst fn) v ∈ v :: l ∧ _
    refine ⟨?_, fun x hx => ?_⟩
    · rcases h3 with e | e
      · rw [e]; exact List.mem_cons_self ..
      · exact List.mem_cons_of_mem _ e
    · rcases List.mem_cons.1 hx with e | e
      · rw [e]; exact h1
      · exact h2 x e
theorem best_uniq {fn : Int} (hf : fn = 3 ∨ fn = 4) {l : List Val} {b : Val} (hb : b ∈ l) (h : ∀ x ∈ l, lev fn b x) : bestV fn l = b := by
  obtain ⟨h1, h2⟩ := best_spec hf (List.ne_nil_of_mem hb)
  exact lev_anti (h2 b hb) (h _ h1)
theorem best_perm {fn : Int} (hf : fn = 3 ∨ fn = 4) {a b : List Val} (h : a.Perm b) : bestV fn a = bestV fn b := by
  by_cases hn : b = []
  · subst hn
    rw [h.eq_nil]
  · obtain ⟨h1, h2⟩ := best_spec hf hn
    exact best_uniq hf (h.mem_iff.2 h1) fun x hx => h2 x (h.mem_iff.1 hx)
/-! ### groups -/
def memG (ks : List Int) (R : List VRow) (k : VRow) : List VRow := R.filter fun r => decide (pickR r ks = k)
/-- The result of a group, and the error code. -/
def resR (fn : Int) (col : Nat) (G : List VRow) : Val × Int :=
  if fn = 1 then ((1, (G.length : Int), ⟨#[]⟩), 0) else if fn = 2 then ((1, (resS (colN G col)).1, ⟨#[]⟩), (resS (colN G col)).2) else (bestV fn (colV G col), 0)
def FnOk (fn : Int) : Prop := fn = 1 ∨ fn = 2 ∨ fn = 3 ∨ fn = 4
theorem resR_perm {fn : Int} (hf : FnOk fn) {col : Nat} {G H : List VRow} (h : G.Perm H) : resR fn col G = resR fn col H := by
  unfold resR
  by_cases h1 : fn = 1
  · rw [if_pos h1, if_pos h1, h.length_eq]
  · rw [if_neg h1, if_neg h1]
    by_cases h2 : fn = 2
    · rw [if_pos h2, if_pos h2, resS_perm (a := colN G col) (b := colN H col) (h.map _)]
    · rw [if_neg h2, if_neg h2, best_perm (by unfold FnOk at hf; omega) (a := colV G col) (b := colV H col) (h.map _)]
theorem resR_code (fn : Int) (col : Nat) (G : List VRow) : (resR fn col G).2 = 0 ∨ (fn = 2 ∧ (resR fn col G).2 = 9) := by
  unfold resR
  split
  · exact .inl rfl
  · split
    · unfold resS
      split
      · exact .inl rfl
      · exact .inr ⟨by assumption, rfl⟩
    · exact .inl rfl
def outR (ks : List Int) (fn : Int) (col : Nat) (R : List VRow) (k : VRow) : VRow := k ++ [(resR fn col (memG ks R k)).1]
def OutIn (ks : List Int) (fn : Int) (col : Nat) (R : List VRow) (x : VRow) : Prop := ∃ r ∈ R, x = outR ks fn col R (pickR r ks)
def ErrIn (ks : List Int) (fn : Int) (col : Nat) (R : List VRow) : Prop := ∃ r ∈ R, (resR fn col (memG ks R (pickR r ks))).2 ≠ 0
section
variable {ks : List Int} {fn : Int} {col : Nat} {R Q : List VRow}
theorem outR_perm (hf : FnOk fn) (h : R.Perm Q) (k : VRow) : resR fn col (memG ks R k) = resR fn col (memG ks Q k) := resR_perm hf (h.filter _)
theorem OutIn.perm (hf : FnOk fn) (h : R.Perm Q) {x : VRow} (hx : OutIn ks fn col R x) : OutIn ks fn col Q x := by
  obtain ⟨r, hr, e⟩ := hx
  refine ⟨r, h.mem_iff.1 hr, ?_⟩
  rw [e]
  unfold outR
  rw [outR_perm hf h]
theorem ErrIn.perm (hf : FnOk fn) (h : R.Perm Q) (hx : ErrIn ks fn col R) : ErrIn ks fn col Q := by
  obtain ⟨r, hr, e⟩ := hx
  exact ⟨r, h.mem_iff.1 hr, by rw [← outR_perm hf h]; exact e⟩
end
/-! ### the rows at a time -/
def actB (f : Fct) (t : Int) : Bool := decide (f.2.1 ≤ t) && decide (t < f.2.2)
def hasR (R : List VRow) (r : VRow) : Bool := R.any fun x => decide (x = r)
theorem hasR_iff {R : List VRow} {r : VRow} : hasR R r = true ↔ r ∈ R := by
  unfold hasR
  rw [List.any_eq_true]
  constructor
  · rintro ⟨x, hx, e⟩
    rw [← of_decide_eq_true e]; exact hx
  · exact fun h => ⟨r, h, decide_eq_true rfl⟩
theorem hasR_not {R : List VRow} {r : VRow} : hasR R r = false ↔ r ∉ R := by
  rw [← hasR_iff]
  cases hasR R r <;> simp
def rowsN (F : List Fct) (t : Int) : Nat → List VRow
  | 0 => []
  | k + 1 => if actB (fc F k) t = true ∧ hasR (rowsN F t k) (fc F k).1 = false then rowsN F t k ++ [(fc F k).1] else rowsN F t k
theorem rowsN_succ (F : List Fct) (t : Int) (k : Nat) : rowsN F t (k + 1) = if actB (fc F k) t = true ∧ hasR (rowsN F t k) (fc F k).1 = false then rowsN F t k ++ [(fc F k).1] else rowsN F t k := rfl
def rowsAt (F : List Fct) (t : Int) : List VRow := rowsN F t F.length
theorem rowsN_nodup (F : List Fct) (t : Int) : ∀ k, (rowsN F t k).Nodup
  | 0 => List.nodup_nil
  | k + 1 => by
    have h := rowsN_nodup F t k
    rw [rowsN_succ]
    split
    · rename_i hc
      refine List.nodup_append.2 ⟨h, by simp, fun a ha b hb e => ?_⟩
      rw [List.mem_singleton] at hb
      rw [e, hb] at ha
      exact hasR_not.1 hc.2 ha
    · exact h
theorem rowsN_mem (F : List Fct) (t : Int) : ∀ k (r : VRow), r ∈ rowsN F t k ↔ ∃ i, i < k ∧ (fc F i).1 = r ∧ actB (fc F i) t = true
  | 0, r => by simp [rowsN]
  | k + 1, r => by
    have h := rowsN_mem F t k
    have key : (∃ i, i < k + 1 ∧ (fc F i).1 = r ∧ actB (fc F i) t = true) ↔ (∃ i, i < k ∧ (fc F i).1 = r ∧ actB (fc F i) t = true) ∨ ((fc F k).1 = r ∧ actB (fc F k) t = true) := by
      constructor
      · rintro ⟨i, hi, q⟩
        rcases Nat.lt_or_ge i k with e | e
        · exact .inl ⟨i, e, q⟩
        · obtain rfl : i = k := by omega
          exact .inr q
      · rintro (⟨i, hi, q⟩ | q)
        · exact ⟨i, by omega, q⟩
        · exact ⟨k, by omega, q⟩
    rw [key, ← h r, rowsN_succ]
    split
    · rename_i hc
      rw [List.mem_append, List.mem_singleton]
      constructor
      · rintro (e | e)
        · exact .inl e
        · exact .inr ⟨e.symm, hc.1⟩
      · rintro (e | e)
        · exact .inl e
        · exact .inr e.1.symm
    · rename_i hc
      constructor
      · exact .inl
      · rintro (e | ⟨e, e2⟩)
        · exact e
        · by_cases q : (fc F k).1 ∈ rowsN F t k
          · rw [← e]; exact q
          · exact absurd ⟨e2, hasR_not.2 q⟩ hc
theorem rowsAt_mem {F : List Fct} {t : Int} {r : VRow} : r ∈ rowsAt F t ↔ actF F r t := by
  unfold rowsAt actF
  rw [rowsN_mem]
  constructor
  · rintro ⟨i, hi, e, h⟩
    unfold actB at h
    simp only [Bool.and_eq_true, decide_eq_true_eq] at h
    exact ⟨_, fc_mem hi, e, h.1, h.2⟩
  · rintro ⟨f, hf, e, h1, h2⟩
    obtain ⟨i, hi, rfl⟩ := List.getElem_of_mem hf
    rw [fc_at hi] at e h1 h2
    refine ⟨i, hi, e, ?_⟩
    unfold actB
    rw [decide_eq_true h1, decide_eq_true h2]
    rfl
theorem vis_perm {F : List Fct} {Vs : List Vis} {P : Int → Prop} (h : VisOk F Vs P) {v : Vis} (hv : v ∈ Vs) {t : Int} (h1 : v.1.1 ≤ t) (h2 : t < v.1.2) : v.2.Perm (rowsAt F t) := by
  obtain ⟨h3, _, h4⟩ := h.rows v hv
  refine (List.perm_ext_iff_of_nodup h3 (rowsN_nodup _ _ _)).2 fun r => ?_
  rw [h4 t h1 h2 r]
  exact rowsAt_mem.symm
/-- What is said of all visits, for each time. -/
def DGrp (F : List Fct) (ks : List Int) (fn : Int) (col : Nat) (r : VRow) (t : Int) : Prop := OutIn ks fn col (rowsAt F t) r
/-- What the visits have added. -/
def GrpA (ks : List Int) (fn : Int) (col : Nat) (Vs : List Vis) (A : List Fct) : Prop := ∀ a, a ∈ A ↔ ∃ v ∈ Vs, v.1 = a.2 ∧ OutIn ks fn col v.2 a.1
theorem grp_norm {F A G : List Fct} {Vs : List Vis} {ks : List Int} {fn : Int} {col : Nat} (hf : FnOk fn) (hV : VisOk F Vs fun _ => True) (hA : GrpA ks fn col Vs A) (hG : NormOf G fun r t => ∃ a ∈ A, a.1 = r ∧ a.2.1 ≤ t ∧ t < a.2.2) : NormOf G (DGrp F ks fn col) := by
  refine ⟨hG.srt, hG.can, fun r t => ?_⟩
  rw [hG.pts]
  constructor
  · rintro ⟨a, ha, rfl, h1, h2⟩
    obtain ⟨v, hv, e, ho⟩ := (hA a).1 ha
    exact ho.perm hf (vis_perm hV hv (by rw [e]; exact h1) (by rw [e]; exact h2))
  · intro ho
    obtain ⟨q, hq, e⟩ := ho
    obtain ⟨v, hv, h1, h2⟩ := hV.cover t q trivial (rowsAt_mem.1 hq)
    exact ⟨(r, v.1), (hA _).2 ⟨v, hv, rfl, OutIn.perm hf (vis_perm hV hv h1 h2).symm ⟨q, hq, e⟩⟩, rfl, h1, h2⟩
theorem grp_err {F : List Fct} {Vs : List Vis} {P : Int → Prop} {ks : List Int} {fn : Int} {col : Nat} (hf : FnOk fn) (hV : VisOk F Vs P) {v : Vis} (hv : v ∈ Vs) (he : ErrIn ks fn col v.2) : ∃ t, ErrIn ks fn col (rowsAt F t) :=
  ⟨v.1.1, he.perm hf (vis_perm hV hv (Int.le_refl _) (hV.span v hv).1)⟩
theorem grp_noerr {F : List Fct} {Vs : List Vis} {ks : List Int} {fn : Int} {col : Nat} (hf : FnOk fn) (hV : VisOk F Vs fun _ => True) (hn : ∀ v ∈ Vs, ¬ ErrIn ks fn col v.2) : ¬ ∃ t, ErrIn ks fn col (rowsAt F t) := by
  rintro ⟨t, ht⟩
  have ht' := ht
  obtain ⟨r, hr, _⟩ := ht'
  obtain ⟨v, hv, h1, h2⟩ := hV.cover t r trivial (rowsAt_mem.1 hr)
  exact hn v hv (ErrIn.perm hf (vis_perm hV hv h1 h2).symm ht)
end Go.Proofs.YtohjgegnamcnlaaGreat
