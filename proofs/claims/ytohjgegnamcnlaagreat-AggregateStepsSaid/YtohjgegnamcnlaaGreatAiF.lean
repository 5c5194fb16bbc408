/- Law 39: plain law of AggregateSteps: the steps, the counts of groups, and Most belong together. -/
import Derived.Test.YtohjgegnamcnlaaGreatAiE
namespace Go.Proofs.YtohjgegnamcnlaaGreat
open Go.RowKit Go.Shelf

/-- The rows with a value in a column. -/
def keyC (c : Nat) (R : List VRow) (k : Val) : List VRow := R.filter fun r => decide (va r c = k)
theorem memG_keyC (c : Nat) (R : List VRow) (k : Val) : memG [(c : Int)] R [k] = keyC c R k := by
  unfold memG keyC
  congr 1
  funext r
  have : pickR r [(c : Int)] = [va r c] := rfl
  rw [this]
  by_cases h : va r c = k
  · rw [decide_eq_true h, decide_eq_true (by rw [h])]
  · rw [decide_eq_false h, decide_eq_false (fun e => h (List.cons.inj e).1)]
theorem outC_iff {c : Nat} {R : List VRow} {x : VRow} : OutIn [(c : Int)] 1 0 R x ↔ ∃ r ∈ R, x = [va r c, (1, ((keyC c R (va r c)).length : Int), ⟨#[]⟩)] := by
  have key : ∀ r, outR [(c : Int)] 1 0 R (pickR r [(c : Int)]) = [va r c, (1, ((keyC c R (va r c)).length : Int), ⟨#[]⟩)] := fun r => by
    have : pickR r [(c : Int)] = [va r c] := rfl
    rw [this]
    unfold outR
    rw [memG_keyC]
    rfl
  unfold OutIn
  simp only [key]
def keysC (A : List VRow) : List Val := A.map fun x => va x 0
/-- The number of rows with one of some values. -/
def sumC (c : Nat) (R : List VRow) : List Val → Nat
  | [] => 0
  | k :: l => (keyC c R k).length + sumC c R l
theorem sumC_app (c : Nat) (R : List VRow) : ∀ a b : List Val, sumC c R (a ++ b) = sumC c R a + sumC c R b
  | [], b => by simp [sumC]
  | x :: a, b => by
    show (keyC c R x).length + sumC c R (a ++ b) = (keyC c R x).length + sumC c R a + sumC c R b
    rw [sumC_app c R a b]
    omega
def inC (l : List Val) (x : Val) : Bool := l.any fun k => decide (x = k)
theorem inC_iff {l : List Val} {x : Val} : inC l x = true ↔ x ∈ l := by
  unfold inC
  rw [List.any_eq_true]
  constructor
  · rintro ⟨k, hk, e⟩
    rw [of_decide_eq_true e]
    exact hk
  · intro h
    exact ⟨x, h, decide_eq_true rfl⟩
theorem inC_cons (k : Val) (l : List Val) (x : Val) : inC (k :: l) x = (decide (x = k) || inC l x) := rfl
theorem sumC_some (c : Nat) (R : List VRow) : ∀ l : List Val, l.Nodup → sumC c R l = (R.filter fun r => inC l (va r c)).length
  | [], _ => by
    rw [List.filter_eq_nil_iff.2 (fun r _ => by simp [inC])]
    rfl
  | k :: l, h => by
    obtain ⟨h1, h2⟩ := List.nodup_cons.1 h
    have ih := sumC_some c R l h2
    have key : ∀ Q : List VRow, (keyC c Q k).length + (Q.filter fun r => inC l (va r c)).length = (Q.filter fun r => inC (k :: l) (va r c)).length := fun Q => by
      induction Q with
      | nil => rfl
      | cons q Q ih2 =>
        unfold keyC at ih2 ⊢
        simp only [List.filter_cons, inC_cons] at ih2 ⊢
        by_cases c1 : va q c = k
        · have c2 : inC l (va q c) = false := by
            rw [Bool.eq_false_iff]
            intro h
            rw [c1] at h
            exact h1 (inC_iff.1 h)
          rw [decide_eq_true c1, c2]
          simp only [Bool.true_or, if_true, List.length_cons]
          rw [if_neg (by decide)]
          omega
        · rw [decide_eq_false c1, Bool.false_or]
          cases c2 : inC l (va q c)
          · rw [if_neg (by decide), if_neg (by decide), if_neg (by decide)]
            exact ih2
          · rw [if_neg (by decide), if_pos rfl, if_pos rfl]
            simp only [List.length_cons]
            omega
    rw [← key R, ← ih]
    rfl
/-- The rows of the counts by a column, at one time. -/
structure CntOk (c : Nat) (R A : List VRow) : Prop where
  row : ∀ x ∈ A, ∃ k0, x = [k0, (1, ((keyC c R k0).length : Int), ⟨#[]⟩)]
  sum : sumC c R (keysC A) = R.length
theorem cnt_ok {F A : List Fct} {c : Nat} (h : NormOf A (DGrp F [(c : Int)] 1 0)) (t : Int) : CntOk c (rowsAt F t) (rowsAt A t) := by
  have hA : ∀ x, x ∈ rowsAt A t ↔ OutIn [(c : Int)] 1 0 (rowsAt F t) x := fun x => rowsAt_mem.trans (h.pts x t)
  have hn := rowsN_nodup A t A.length
  refine ⟨fun x hx => ?_, ?_⟩
  · obtain ⟨r, _, e⟩ := outC_iff.1 ((hA x).1 hx)
    exact ⟨_, e⟩
  · have hnd : (keysC (rowsAt A t)).Nodup := by
      unfold keysC
      rw [List.nodup_iff_pairwise_ne, List.pairwise_map]
      rw [List.nodup_iff_pairwise_ne] at hn
      refine List.Pairwise.imp_of_mem (fun {a b} ha hb hne e => ?_) hn
      obtain ⟨r, _, rfl⟩ := outC_iff.1 ((hA a).1 ha)
      obtain ⟨q, _, rfl⟩ := outC_iff.1 ((hA b).1 hb)
      have e2 : va r c = va q c := e
      exact hne (by rw [e2])
    rw [sumC_some c _ _ hnd, List.filter_eq_self.2 fun r hr => inC_iff.2 ?_]
    unfold keysC
    exact List.mem_map.2 ⟨_, (hA _).2 (outC_iff.2 ⟨r, hr, rfl⟩), rfl⟩
theorem keysC_take {A : List VRow} {q : Nat} (hq : q < A.length) : (keysC A).take (q + 1) = (keysC A).take q ++ [va (vr A q) 0] := by
  have hl : q < (keysC A).length := by simpa [keysC] using hq
  rw [List.take_succ_eq_append_getElem hl]
  simp [keysC, vr_at hq]
theorem sumC_next {c : Nat} {R A : List VRow} {q : Nat} (hq : q < A.length) : sumC c R ((keysC A).take (q + 1)) = sumC c R ((keysC A).take q) + (keyC c R (va (vr A q) 0)).length := by
  rw [keysC_take hq, sumC_app]
  rfl
theorem keysC_all (A : List VRow) : (keysC A).take A.length = keysC A := by
  refine List.take_of_length_le ?_
  simp [keysC]
theorem sumC_le {c : Nat} {R A : List VRow} (h : CntOk c R A) (q : Nat) : sumC c R ((keysC A).take q) ≤ R.length := by
  rw [← h.sum]
  have e : keysC A = (keysC A).take q ++ (keysC A).drop q := (List.take_append_drop q _).symm
  conv => rhs; rw [e, sumC_app]
  omega
/-! ### the steps -/
theorem out_nil {R : List VRow} {x : VRow} : OutIn [] 1 0 R x ↔ R ≠ [] ∧ x = [(1, (R.length : Int), ⟨#[]⟩)] := by
  have hm : ∀ k, memG [] R k = R.filter fun _ => decide (([] : VRow) = k) := fun k => rfl
  have key : ∀ r, outR [] 1 0 R (pickR r []) = [(1, (R.length : Int), ⟨#[]⟩)] := fun r => by
    have : pickR r [] = [] := rfl
    rw [this]
    unfold outR
    rw [hm, List.filter_eq_self.2 fun _ _ => decide_eq_true rfl]
    rfl
  unfold OutIn
  simp only [key]
  constructor
  · rintro ⟨r, hr, e⟩
    exact ⟨List.ne_nil_of_mem hr, e⟩
  · rintro ⟨hne, e⟩
    obtain ⟨r, hr⟩ := List.exists_mem_of_ne_nil R hne
    exact ⟨r, hr, e⟩
theorem steps_row {F A : List Fct} (h : NormOf A (DGrp F [] 1 0)) {f : Fct} (hf : f ∈ A) : f.1 = [(1, ((rowsAt F f.2.1).length : Int), ⟨#[]⟩)] ∧ 0 < (rowsAt F f.2.1).length := by
  have h1 := (h.can f.1).1 f.2 (List.mem_map.2 ⟨f, List.mem_filter.2 ⟨hf, decide_eq_true rfl⟩, rfl⟩)
  unfold OkSp at h1
  obtain ⟨h2, h3⟩ := out_nil.1 ((h.pts f.1 f.2.1).1 ⟨f, hf, rfl, Int.le_refl _, h1.2.1⟩)
  exact ⟨h3, List.length_pos_iff.2 h2⟩
/-- The spans of the first steps that are n. -/
def topS (A : List Fct) (n : Nat) (i : Nat) : List Sp := ((A.take i).filter fun f => decide ((va f.1 0).2.1 = (n : Int))).map (·.2)
theorem topS_zero (A : List Fct) (n : Nat) : topS A n 0 = [] := by simp [topS]
theorem topS_yes {A : List Fct} {n i : Nat} (hi : i < A.length) (h : (va (fc A i).1 0).2.1 = (n : Int)) : topS A n (i + 1) = topS A n i ++ [(fc A i).2] := by
  unfold topS
  rw [List.take_succ_eq_append_getElem hi, fc_at hi, List.filter_append, List.map_append]
  simp [h]
theorem topS_no {A : List Fct} {n i : Nat} (hi : i < A.length) (h : (va (fc A i).1 0).2.1 ≠ (n : Int)) : topS A n (i + 1) = topS A n i := by
  unfold topS
  rw [List.take_succ_eq_append_getElem hi, fc_at hi, List.filter_append, List.map_append]
  simp [h]
theorem topS_len (A : List Fct) (n i : Nat) : (topS A n i).length ≤ A.length := by
  unfold topS
  rw [List.length_map]
  exact Nat.le_trans (List.length_filter_le _ _) (by rw [List.length_take]; exact Nat.min_le_right _ _)
theorem steps_top {F A : List Fct} {n : Nat} {L : List Sp} (h : NormOf A (DGrp F [] 1 0)) (hm : MostSpec F n L) : topS A n A.length = L := by
  have e : topS A n A.length = (A.filter fun f => decide (f.1 = [(1, (n : Int), ⟨#[]⟩)])).map (·.2) := by
    unfold topS
    rw [List.take_length]
    congr 1
    refine List.filter_congr fun f hf => ?_
    have h1 := (steps_row h hf).1
    rw [h1]
    by_cases q : (rowsAt F f.2.1).length = n
    · rw [q, decide_eq_true (show (va [(1, (n : Int), (⟨#[]⟩ : ByteArray))] 0).2.1 = (n : Int) from rfl), decide_eq_true rfl]
    · rw [decide_eq_false (fun e => q (by
        have e : ((rowsAt F f.2.1).length : Int) = (n : Int) := e
        omega)), decide_eq_false (fun e => q (by
        have e := (List.cons.inj e).1
        have e := congrArg (fun v : Val => v.2.1) e
        have e : ((rowsAt F f.2.1).length : Int) = (n : Int) := e
        omega))]
  rw [e]
  refine canon_ext (h.can _) hm.can fun x => ?_
  rw [Bool.eq_iff_iff, hm.mem, mem_iff]
  constructor
  · rintro ⟨s, hs, h1, h2⟩
    obtain ⟨f, hf, rfl⟩ := List.mem_map.1 hs
    obtain ⟨hf1, hf2⟩ := List.mem_filter.1 hf
    obtain ⟨g1, g2⟩ := out_nil.1 ((h.pts f.1 x).1 ⟨f, hf1, rfl, h1, h2⟩)
    rw [of_decide_eq_true hf2] at g2
    have g3 := congrArg (fun v : Val => v.2.1) (List.cons.inj g2).1
    have g3 : (n : Int) = ((rowsAt F x).length : Int) := g3
    have g4 := List.length_pos_iff.2 g1
    omega
  · rintro ⟨hn, hl⟩
    have hne : rowsAt F x ≠ [] := List.length_pos_iff.1 (by omega)
    obtain ⟨f, hf, e1, e2, e3⟩ := (h.pts [(1, (n : Int), ⟨#[]⟩)] x).2 (out_nil.2 ⟨hne, by rw [hl]⟩)
    exact ⟨f.2, List.mem_map.2 ⟨f, List.mem_filter.2 ⟨hf, decide_eq_true e1⟩, rfl⟩, e2, e3⟩
theorem most_pos {F : List Fct} {n : Nat} {L : List Sp} (hm : MostSpec F n L) (hv : validF F = true) (hp : 0 < F.length) : 0 < n := by
  have h0 := fc_mem hp
  have h1 := (spT_ok ((valid_rows hv).2 _ h0).2.1).1
  unfold OkSp at h1
  have h2 : (fc F 0).1 ∈ rowsAt F (fc F 0).2.1 := rowsAt_mem.2 ⟨_, h0, rfl, Int.le_refl _, h1.2.1⟩
  have h3 := List.length_pos_of_mem h2
  have := hm.le (fc F 0).2.1
  omega
/-- What Group answers, for few facts, when it counts. -/
theorem grp_count {F : List Fct} {ks : List Int} {e : Int} {v : Value} {w' : World} (hv : validF F = true) (hp : 0 < F.length) (hf : F.length ≤ 16) (hk : keyedB (row0 F).length ks = true) (h8 : ks.length < 8) (hg : GrpSpec F ks 1 0 e v w') :
    e = 0 ∧ ∃ A, NormOf A (DGrp F ks 1 0) ∧ A.length ≤ 1000 ∧ IsFs w' v A := by
  unfold GrpSpec at hg
  have hbad : bad1 F 1 0 = false := by unfold bad1; rw [hv]; rfl
  rw [if_neg (by rw [hbad]; decide), if_neg (by omega), if_neg (by rw [hk]; decide), if_neg (by omega), if_neg (by rintro ⟨h, _⟩; cases h)] at hg
  rcases hg with ⟨⟨t, r, hr, he⟩, _⟩ | ⟨_, A, hA, hl, h2⟩
  · exact absurd rfl he
  · have h3 : F.length * (2 * F.length) ≤ 16 * 32 := Nat.mul_le_mul hf (by omega)
    rcases h2 with ⟨h4, _⟩ | ⟨h4, h5, h6⟩
    · omega
    · exact ⟨h5, A, hA, h4, h6⟩
end Go.Proofs.YtohjgegnamcnlaaGreat
