/- Law 39: plain law of AggregateForm: the order of the facts, and how one is divided, do not matter; a list in normal form falls into canonical runs. -/
import Derived.Test.YtohjgegnamcnlaaAhw
namespace Go.Proofs.Ytohjgegnamcnlaa
open Go.RowKit Go.Shelf

/-- The two parts of a fact: the earlier one, the later one. -/
def cutA (f : Fct) (cut : Int) : Fct := if f.2.1 < cut ∧ cut < f.2.2 then (f.1, (f.2.1, cut)) else f
def cutB (f : Fct) (cut : Int) : Fct := if f.2.1 < cut ∧ cut < f.2.2 then (f.1, (cut, f.2.2)) else f
theorem cut_row (f : Fct) (cut : Int) : (cutA f cut).1 = f.1 ∧ (cutB f cut).1 = f.1 := by
  unfold cutA cutB
  split <;> exact ⟨rfl, rfl⟩
def otherF (F : List Fct) (cut : Int) : List Fct := F.reverse.drop 1 ++ [cutB (fc F.reverse 0) cut, cutA (fc F.reverse 0) cut]
theorem rev_cons {F : List Fct} (hp : 0 < F.length) : F.reverse = fc F.reverse 0 :: F.reverse.drop 1 := by
  cases h : F.reverse with
  | nil => rw [List.reverse_eq_nil_iff] at h; subst h; exact absurd hp (by simp)
  | cons a l => rfl
theorem mem_rev {F : List Fct} (hp : 0 < F.length) {f : Fct} : f ∈ F ↔ f = fc F.reverse 0 ∨ f ∈ F.reverse.drop 1 := by
  rw [← List.mem_reverse, rev_cons hp, List.mem_cons]
  rfl
theorem mem_other {F : List Fct} {cut : Int} {f : Fct} : f ∈ otherF F cut ↔ f ∈ F.reverse.drop 1 ∨ f = cutB (fc F.reverse 0) cut ∨ f = cutA (fc F.reverse 0) cut := by
  unfold otherF
  simp
theorem other_len {F : List Fct} (hp : 0 < F.length) (cut : Int) : (otherF F cut).length = F.length + 1 := by
  unfold otherF
  simp
  omega
theorem cut_act (f : Fct) (cut : Int) (t : Int) : ((cutB f cut).2.1 ≤ t ∧ t < (cutB f cut).2.2) ∨ ((cutA f cut).2.1 ≤ t ∧ t < (cutA f cut).2.2) ↔ f.2.1 ≤ t ∧ t < f.2.2 := by
  unfold cutA cutB
  by_cases h : f.2.1 < cut ∧ cut < f.2.2
  · rw [if_pos h, if_pos h]
    simp only
    omega
  · rw [if_neg h, if_neg h]
    omega
theorem other_act {F : List Fct} (hp : 0 < F.length) (cut : Int) (r : VRow) (t : Int) : actF (otherF F cut) r t ↔ actF F r t := by
  have hc := cut_act (fc F.reverse 0) cut t
  have hr := cut_row (fc F.reverse 0) cut
  unfold actF
  constructor
  · rintro ⟨f, hf, e, h⟩
    rcases mem_other.1 hf with h1 | rfl | rfl
    · exact ⟨f, (mem_rev hp).2 (.inr h1), e, h⟩
    · exact ⟨_, (mem_rev hp).2 (.inl rfl), hr.2.symm.trans e, hc.1 (.inl h)⟩
    · exact ⟨_, (mem_rev hp).2 (.inl rfl), hr.1.symm.trans e, hc.1 (.inr h)⟩
  · rintro ⟨f, hf, e, h⟩
    rcases (mem_rev hp).1 hf with rfl | h1
    · rcases hc.2 h with h2 | h2
      · exact ⟨_, mem_other.2 (.inr (.inl rfl)), hr.2.trans e, h2⟩
      · exact ⟨_, mem_other.2 (.inr (.inr rfl)), hr.1.trans e, h2⟩
    · exact ⟨f, mem_other.2 (.inl h1), e, h⟩
theorem cut_span {f : Fct} {cut : Int} (h : spT f.2 = true) : spT (cutA f cut).2 = true ∧ spT (cutB f cut).2 = true := by
  unfold cutA cutB
  by_cases q : f.2.1 < cut ∧ cut < f.2.2
  · rw [if_pos q, if_pos q]
    unfold spT at h ⊢
    simp only [Bool.and_eq_true, decide_eq_true_eq] at h ⊢
    omega
  · rw [if_neg q, if_neg q]
    exact ⟨h, h⟩
/-- Each of the other facts has the row of one of the facts, and a span of time. -/
theorem other_from {F : List Fct} (hp : 0 < F.length) {cut : Int} (hs : ∀ f ∈ F, spT f.2 = true) {f : Fct} (hf : f ∈ otherF F cut) : spT f.2 = true ∧ ∃ g ∈ F, f.1 = g.1 := by
  have h0 : fc F.reverse 0 ∈ F := (mem_rev hp).2 (.inl rfl)
  have hr := cut_row (fc F.reverse 0) cut
  have hc := cut_span (cut := cut) (hs _ h0)
  rcases mem_other.1 hf with h1 | rfl | rfl
  · have := (mem_rev hp).2 (.inr h1)
    exact ⟨hs _ this, f, this, rfl⟩
  · exact ⟨hc.2, _, h0, hr.2⟩
  · exact ⟨hc.1, _, h0, hr.1⟩
theorem other_mach {F : List Fct} (hp : 0 < F.length) {cut : Int} (hm : MachF F) : MachF (otherF F cut) := fun f hf x hx => by
  have h0 : fc F.reverse 0 ∈ F := (mem_rev hp).2 (.inl rfl)
  have hr := cut_row (fc F.reverse 0) cut
  rcases mem_other.1 hf with h1 | rfl | rfl
  · exact hm f ((mem_rev hp).2 (.inr h1)) x hx
  · rw [hr.2] at hx; exact hm _ h0 x hx
  · rw [hr.1] at hx; exact hm _ h0 x hx
/-- Two lists of facts whose rows hold at the same times. -/
structure SameF (F G : List Fct) : Prop where
  pf : 0 < F.length
  pg : 0 < G.length
  vf : validF F = true
  vg : validF G = true
  len : (row0 G).length = (row0 F).length
  kind : ∀ k, k < (row0 F).length → (va (row0 G) k).1 = (va (row0 F) k).1
  act : ∀ r t, actF G r t ↔ actF F r t
theorem other_same {F : List Fct} (hp : 0 < F.length) (hl : F.length ≤ 15) (hv : validF F = true) (cut : Int) : SameF F (otherF F cut) := by
  obtain ⟨_, hr⟩ := valid_rows hv
  have hpo : 0 < (otherF F cut).length := by rw [other_len hp]; omega
  have hfrom := fun {f : Fct} => other_from hp (cut := cut) (fun f hf => (hr f hf).2.1) (f := f)
  obtain ⟨_, g0, hg0, e0⟩ := hfrom (fc_mem hpo)
  have e0' : row0 (otherF F cut) = g0.1 := e0
  have hlen : (row0 (otherF F cut)).length = (row0 F).length := by rw [e0']; exact (hr g0 hg0).1.2.2
  have hkind : ∀ k, k < (row0 F).length → (va (row0 (otherF F cut)) k).1 = (va (row0 F) k).1 := fun k hk => by
    rw [e0']
    exact ((hr g0 hg0).2.2 k (by rw [(hr g0 hg0).1.2.2]; exact hk)).2
  refine ⟨hp, hpo, hv, valid_yes (by rw [other_len hp]; omega) fun i hi => ?_, hlen, hkind, fun r t => other_act hp cut r t⟩
  obtain ⟨h1, g, hg, e⟩ := hfrom (fc_mem hi)
  obtain ⟨⟨g1, g2, g3⟩, _, g4⟩ := hr g hg
  unfold okFct
  rw [h1, e, decide_eq_true g1, decide_eq_true g2, decide_eq_true (g3.trans hlen.symm)]
  simp only [Bool.true_and]
  refine range_all fun k hk => ?_
  have h5 := g4 k hk
  unfold kindB
  rw [h5.1, Bool.true_and]
  refine decide_eq_true (h5.2.trans (hkind k (by omega)).symm)
theorem SameF.perm {F G : List Fct} (h : SameF F G) (t : Int) : (rowsAt G t).Perm (rowsAt F t) :=
  (List.perm_ext_iff_of_nodup (rowsN_nodup _ _ _) (rowsN_nodup _ _ _)).2 fun r => (rowsAt_mem.trans (h.act r t)).trans rowsAt_mem.symm
theorem SameF.has {F G : List Fct} (h : SameF F G) (k : Int) : hasB G k = hasB F k := by
  have h1 := h.pf; have h2 := h.pg
  unfold hasB
  rw [h.len, decide_eq_false (show ¬ F.length = 0 by omega), decide_eq_false (show ¬ G.length = 0 by omega)]
theorem SameF.bad {F G : List Fct} (h : SameF F G) (fn k : Int) : bad1 G fn k = bad1 F fn k := by
  unfold bad1
  rw [h.has, h.vf, h.vg]
theorem norm_congr {A : List Fct} {D E : VRow → Int → Prop} (h : NormOf A D) (he : ∀ r t, D r t ↔ E r t) : NormOf A E := ⟨h.srt, h.can, fun r t => (h.pts r t).trans (he r t)⟩
/-- Texts that are not too long. -/
def SmR (r : VRow) : Prop := ∀ x ∈ r, x.2.2.size ≤ 1000000000
theorem vB_small {v : Val} (h : vB v = true) : v.2.2.size ≤ 1000000000 := by
  have h0 : (ByteArray.mk #[]).size = 0 := rfl
  rcases vB_kind h with h | h | h | h
  · rw [h.2, h0]; omega
  · omega
  · rw [h.2.1, h0]; omega
  · rw [h.2, h0]; omega
theorem valid_small {F : List Fct} (h : validF F = true) : ∀ f ∈ F, SmR f.1 := fun f hf x hx => by
  obtain ⟨k, hk, rfl⟩ := List.getElem_of_mem hx
  rw [va_at hk]
  exact vB_small (((valid_rows h).2 f hf).2.2 k hk).1
theorem va_small {r : VRow} (h : SmR r) (k : Nat) : (va r k).2.2.size ≤ 1000000000 := by
  by_cases hk : k < r.length
  · exact h _ (va_mem hk)
  · unfold va
    rw [List.getD_eq_getElem?_getD, List.getElem?_eq_none (by omega)]
    show (ByteArray.mk #[]).size ≤ 1000000000
    have h0 : (ByteArray.mk #[]).size = 0 := rfl
    omega
theorem best_small {fn : Int} {l : List Val} (h : ∀ v ∈ l, v.2.2.size ≤ 1000000000) : (bestV fn l).2.2.size ≤ 1000000000 := by
  have h0 : (ByteArray.mk #[]).size = 0 := rfl
  cases l with
  | nil => show (ByteArray.mk #[]).size ≤ 1000000000; omega
  | cons a l =>
    show (l.foldl (bst fn) a).2.2.size ≤ 1000000000
    have key : ∀ (l : List Val) (a : Val), a.2.2.size ≤ 1000000000 → (∀ v ∈ l, v.2.2.size ≤ 1000000000) → (l.foldl (bst fn) a).2.2.size ≤ 1000000000 := fun l => by
      induction l with
      | nil => exact fun a ha _ => ha
      | cons b l ih =>
        intro a ha hl
        refine ih _ ?_ fun v hv => hl v (List.mem_cons_of_mem _ hv)
        unfold bst
        split
        · exact hl b (List.mem_cons_self ..)
        · exact ha
    exact key l a (h a (List.mem_cons_self ..)) fun v hv => h v (List.mem_cons_of_mem _ hv)
theorem res_small {fn : Int} {col : Nat} {G : List VRow} (h : ∀ r ∈ G, SmR r) : (resR fn col G).1.2.2.size ≤ 1000000000 := by
  have h0 : (ByteArray.mk #[]).size = 0 := rfl
  unfold resR
  split
  · show (ByteArray.mk #[]).size ≤ 1000000000; omega
  · split
    · show (ByteArray.mk #[]).size ≤ 1000000000; omega
    · refine best_small fun v hv => ?_
      obtain ⟨r, hr, rfl⟩ := List.mem_map.1 hv
      exact va_small (h r hr) _
theorem out_small {ks : List Int} {fn : Int} {col : Nat} {R : List VRow} {x : VRow} (h : ∀ r ∈ R, SmR r) (hx : OutIn ks fn col R x) : SmR x := by
  obtain ⟨r, hr, rfl⟩ := hx
  intro v hv
  unfold outR at hv
  rcases List.mem_append.1 hv with q | q
  · obtain ⟨k, _, rfl⟩ := List.mem_map.1 q
    exact va_small (h r hr) _
  · rw [List.mem_singleton] at q
    rw [q]
    exact res_small fun r hr => h r (List.mem_filter.1 hr).1
theorem at_small {F : List Fct} (h : validF F = true) (t : Int) : ∀ r ∈ rowsAt F t, SmR r := fun r hr => by
  obtain ⟨f, hf, rfl, _⟩ := rowsAt_mem.1 hr
  exact valid_small h f hf
theorem norm_small {A : List Fct} {D : VRow → Int → Prop} (h : NormOf A D) (hd : ∀ r t, D r t → SmR r) : ∀ f ∈ A, SmR f.1 := fun f hf => by
  have h1 := (h.can f.1).1 f.2 (List.mem_map.2 ⟨f, List.mem_filter.2 ⟨hf, decide_eq_true rfl⟩, rfl⟩)
  unfold OkSp at h1
  exact hd f.1 f.2.1 ((h.pts _ _).1 ⟨f, hf, rfl, Int.le_refl _, h1.2.1⟩)
/-- Both answers are one. -/
def OneAns (e e' : Int) (v v' : Value) (w w' : World) : Prop := e = e' ∧ ∃ A D, NormOf A D ∧ A.length ≤ 1000 ∧ (∀ f ∈ A, SmR f.1) ∧ IsFs w v A ∧ IsFs w' v' A
theorem norm_nil : NormOf [] (fun _ _ => False) := ⟨List.Pairwise.nil, fun v => ⟨fun s hs => absurd hs (by simp), List.Pairwise.nil⟩, fun v t => by simp⟩
theorem one_nil {e e' : Int} {v v' : Value} {w w' : World} (h : e = e') (hv : v = .slice none 0 0) (hv' : v' = .slice none 0 0) : OneAns e e' v v' w w' :=
  ⟨h, [], _, norm_nil, by simp, fun f hf => absurd hf (by simp), by rw [hv]; exact IsFs.nil, by rw [hv']; exact IsFs.nil⟩
theorem one_two {D : VRow → Int → Prop} {e e' : Int} {v v' : Value} {w w' : World} {A B : List Fct} (hA : NormOf A D) (hB : NormOf B D) (hd : ∀ r t, D r t → SmR r)
    (h : (1000 < A.length ∧ e = 5 ∧ v = .slice none 0 0) ∨ (A.length ≤ 1000 ∧ e = 0 ∧ IsFs w v A)) (h' : (1000 < B.length ∧ e' = 5 ∧ v' = .slice none 0 0) ∨ (B.length ≤ 1000 ∧ e' = 0 ∧ IsFs w' v' B)) : OneAns e e' v v' w w' := by
  obtain rfl := norm_unique hA hB
  rcases h with ⟨h1, h2, h3⟩ | ⟨h1, h2, h3⟩
  · rcases h' with ⟨g1, g2, g3⟩ | ⟨g1, _⟩
    · exact one_nil (h2.trans g2.symm) h3 g3
    · omega
  · rcases h' with ⟨g1, _⟩ | ⟨g1, g2, g3⟩
    · omega
    · exact ⟨h2.trans g2.symm, A, D, hA, h1, norm_small hA hd, h3, g3⟩
theorem form_grp {F G : List Fct} {ks : List Int} {fn colI e e' : Int} {v v' : Value} {w w' : World} (hs : SameF F G) (h : GrpSpec F ks fn colI e v w) (h' : GrpSpec G ks fn colI e' v' w') : OneAns e e' v v' w w' := by
  have h1 := hs.pf; have h2 := hs.pg
  unfold GrpSpec at h h'
  rw [hs.bad] at h'
  by_cases hb : bad1 F fn colI = true
  · rw [if_pos hb] at h h'
    exact one_nil (h.1.trans h'.1.symm) h.2 h'.2
  rw [if_neg hb, if_neg (by omega)] at h h'
  rw [hs.len] at h'
  by_cases hk : keyedB (row0 F).length ks = false
  · rw [if_pos hk] at h h'
    exact one_nil (h.1.trans h'.1.symm) h.2 h'.2
  rw [if_neg hk] at h h'
  by_cases h8 : 8 ≤ ks.length
  · rw [if_pos h8] at h h'
    exact one_nil (h.1.trans h'.1.symm) h.2 h'.2
  rw [if_neg h8] at h h'
  have hfn : FnOk fn := by
    unfold bad1 at hb
    simp only [Bool.or_eq_true, not_or, decide_eq_true_eq] at hb
    unfold FnOk
    omega
  have hkk : (fn = 2 ∧ (va (row0 G) colI.toNat).1 ≠ 1) ↔ (fn = 2 ∧ (va (row0 F) colI.toNat).1 ≠ 1) := by
    constructor
    all_goals
      rintro ⟨rfl, hne⟩
      refine ⟨rfl, ?_⟩
      have hh : hasB F colI = true := by
        unfold bad1 at hb
        simp only [Bool.or_eq_true, not_or] at hb
        have := hb.2
        simpa using this
      have hc := has_col (by omega) hh
      have := hs.kind colI.toNat (by omega)
      first
        | (rw [← this]; exact hne)
        | (rw [this]; exact hne)
  by_cases h3 : fn = 2 ∧ (va (row0 F) colI.toNat).1 ≠ 1
  · rw [if_pos h3] at h
    rw [if_pos (hkk.2 h3)] at h'
    exact one_nil (h.1.trans h'.1.symm) h.2 h'.2
  rw [if_neg h3] at h
  rw [if_neg (fun q => h3 (hkk.1 q))] at h'
  rcases h with ⟨⟨t, ht⟩, q1, q2⟩ | ⟨hn, A, hA, _, hc⟩
  · rcases h' with ⟨_, g1, g2⟩ | ⟨hn, _⟩
    · exact one_nil (q1.trans g1.symm) q2 g2
    · exact absurd ⟨t, ErrIn.perm hfn (hs.perm t).symm ht⟩ hn
  · rcases h' with ⟨⟨t, ht⟩, _⟩ | ⟨_, B, hB, _, hc'⟩
    · exact absurd ⟨t, ErrIn.perm hfn (hs.perm t) ht⟩ hn
    · exact one_two hA (norm_congr hB fun r t => ⟨fun x => OutIn.perm hfn (hs.perm t) x, fun x => OutIn.perm hfn (hs.perm t).symm x⟩) (fun r t h => out_small (at_small hs.vf t) h) hc hc'
theorem form_top {F G : List Fct} {colI e e' : Int} {v v' : Value} {w w' : World} (hs : SameF F G) (h : TopSpec F colI e v w) (h' : TopSpec G colI e' v' w') : OneAns e e' v v' w w' := by
  unfold TopSpec at h h'
  rw [hs.has, hs.vg] at h'
  rw [hs.vf] at h
  by_cases hb : hasB F colI = true
  · rw [if_pos ⟨rfl, hb⟩] at h h'
    obtain ⟨A, hA, _, hc⟩ := h
    obtain ⟨B, hB, _, hc'⟩ := h'
    exact one_two hA (norm_congr hB fun r t => ⟨fun x => TopIn.perm (hs.perm t) x, fun x => TopIn.perm (hs.perm t).symm x⟩) (fun r t h => at_small hs.vf t r h.1) hc hc'
  · rw [if_neg (fun q => hb q.2)] at h h'
    exact one_nil (h.1.trans h'.1.symm) h.2 h'.2
/-! ### the runs of a list in normal form -/
def seg (A : List Fct) (k i : Nat) : List Fct := (A.drop k).take (i - k)
theorem seg_self (A : List Fct) (k : Nat) : seg A k k = [] := by simp [seg]
theorem seg_succ {A : List Fct} {k i : Nat} (hk : k ≤ i) (hi : i < A.length) : seg A k (i + 1) = seg A k i ++ [fc A i] := by
  unfold seg
  have e : i + 1 - k = (i - k) + 1 := by omega
  have hl : i - k < (A.drop k).length := by rw [List.length_drop]; omega
  rw [e, List.take_succ_eq_append_getElem hl, List.getElem_drop]
  have e2 : k + (i - k) = i := by omega
  simp only [e2, fc_at hi]
theorem seg_len {A : List Fct} {k i : Nat} (hk : k ≤ i) (hi : i ≤ A.length) : (seg A k i).length = i - k := by
  unfold seg
  rw [List.length_take, List.length_drop]
  omega
theorem seg_valid {A : List Fct} {D : VRow → Int → Prop} (h : NormOf A D) (hl : A.length ≤ 1000) {k i : Nat} {r : VRow} (hs : ∀ f ∈ seg A k i, f.1 = r) : validB ((seg A k i).map (·.2)) = true := by
  have hsub : (seg A k i).Sublist A := (List.take_sublist _ _).trans (List.drop_sublist _ _)
  have hf : (seg A k i).filter (fun f => decide (f.1 = r)) = seg A k i := List.filter_eq_self.2 fun f hf => decide_eq_true (hs f hf)
  have h2 : ((seg A k i).map (·.2)).Sublist ((A.filter fun f => decide (f.1 = r)).map (·.2)) := by
    rw [← hf]
    exact (hsub.filter _).map _
  obtain ⟨h3, h4⟩ := h.can r
  refine (validB_iff _).2 ⟨?_, fun s hs => h3 s (h2.subset hs), h4.sublist h2⟩
  rw [List.length_map]
  have := hsub.length_le
  omega
theorem norm_next {A : List Fct} {D : VRow → Int → Prop} (h : NormOf A D) {k : Nat} (hk : k + 1 < A.length) (hne : (fc A (k + 1)).1 ≠ (fc A k).1) : cmpR (fc A k).1 (fc A (k + 1)).1 < 0 := by
  have h1 := List.pairwise_iff_getElem.1 h.srt k (k + 1) (by omega) hk (by omega)
  rw [fc_at (by omega), fc_at hk] at h1
  unfold cmpF lexC at h1
  simp only at h1
  rw [if_pos (fun e => hne ((ordR.eq _ _).1 e).symm)] at h1
  exact h1
end Go.Proofs.Ytohjgegnamcnlaa
