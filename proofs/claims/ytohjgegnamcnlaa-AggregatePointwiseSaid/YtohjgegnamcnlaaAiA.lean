/- Law 39: plain law of AggregatePointwise: groups by the first column at one time. -/
import Derived.Test.YtohjgegnamcnlaaAhw
namespace Go.Proofs.Ytohjgegnamcnlaa
open Go.RowKit Go.Shelf

/-- The rows with a value in the first column. -/
def keyG (R : List VRow) (k : Val) : List VRow := R.filter fun r => decide (va r 0 = k)
theorem memG_key (R : List VRow) (k : Val) : memG [0] R [k] = keyG R k := by
  unfold memG keyG
  congr 1
  funext r
  have : pickR r [0] = [va r 0] := rfl
  rw [this]
  by_cases h : va r 0 = k
  · rw [decide_eq_true h, decide_eq_true (by rw [h])]
  · rw [decide_eq_false h, decide_eq_false (fun e => h (List.cons.inj e).1)]
theorem out_key (fn : Int) (col : Nat) (R : List VRow) (r : VRow) : outR [0] fn col R (pickR r [0]) = [va r 0, (resR fn col (keyG R (va r 0))).1] := by
  have : pickR r [0] = [va r 0] := rfl
  rw [this]
  unfold outR
  rw [memG_key]
  rfl
theorem outIn_key {fn : Int} {col : Nat} {R : List VRow} {x : VRow} : OutIn [0] fn col R x ↔ ∃ r ∈ R, x = [va r 0, (resR fn col (keyG R (va r 0))).1] := by
  unfold OutIn
  simp only [out_key]
/-- The keys of a list of such rows. -/
def keysL (A : List VRow) : List Val := A.map fun x => va x 0
theorem keys_nodup {fn : Int} {col : Nat} {R A : List VRow} (hA : ∀ x, x ∈ A ↔ OutIn [0] fn col R x) (hn : A.Nodup) : (keysL A).Nodup := by
  unfold keysL
  rw [List.nodup_iff_pairwise_ne, List.pairwise_map]
  rw [List.nodup_iff_pairwise_ne] at hn
  refine List.Pairwise.imp_of_mem (fun {a b} ha hb hne e => ?_) hn
  obtain ⟨r, _, rfl⟩ := outIn_key.1 ((hA a).1 ha)
  obtain ⟨q, _, rfl⟩ := outIn_key.1 ((hA b).1 hb)
  have e2 : va r 0 = va q 0 := e
  exact hne (by rw [e2])
theorem keys_mem {fn : Int} {col : Nat} {R A : List VRow} (hA : ∀ x, x ∈ A ↔ OutIn [0] fn col R x) (k : Val) : k ∈ keysL A ↔ ∃ r ∈ R, va r 0 = k := by
  unfold keysL
  rw [List.mem_map]
  constructor
  · rintro ⟨x, hx, rfl⟩
    obtain ⟨r, hr, rfl⟩ := outIn_key.1 ((hA x).1 hx)
    exact ⟨r, hr, rfl⟩
  · rintro ⟨r, hr, rfl⟩
    exact ⟨_, (hA _).2 (outIn_key.2 ⟨r, hr, rfl⟩), rfl⟩
theorem keys_len {fn gn : Int} {col cl : Nat} {R A B : List VRow} (hA : ∀ x, x ∈ A ↔ OutIn [0] fn col R x) (hB : ∀ x, x ∈ B ↔ OutIn [0] gn cl R x) (ha : A.Nodup) (hb : B.Nodup) : A.length = B.length := by
  have := ((List.perm_ext_iff_of_nodup (keys_nodup hA ha) (keys_nodup hB hb)).2 fun k => (keys_mem hA k).trans (keys_mem hB k).symm).length_eq
  simpa [keysL] using this
/-- The number of rows with one of some keys. -/
def sumK (R : List VRow) : List Val → Nat
  | [] => 0
  | k :: l => (keyG R k).length + sumK R l
theorem sumK_app (R : List VRow) : ∀ a b : List Val, sumK R (a ++ b) = sumK R a + sumK R b
  | [], b => by simp [sumK]
  | x :: a, b => by
    show (keyG R x).length + sumK R (a ++ b) = (keyG R x).length + sumK R a + sumK R b
    rw [sumK_app R a b]
    omega
def inK (l : List Val) (x : Val) : Bool := l.any fun k => decide (x = k)
theorem inK_iff {l : List Val} {x : Val} : inK l x = true ↔ x ∈ l := by
  unfold inK
  rw [List.any_eq_true]
  constructor
  · rintro ⟨k, hk, e⟩
    rw [of_decide_eq_true e]
    exact hk
  · intro h
    exact ⟨x, h, decide_eq_true rfl⟩
theorem inK_cons (k : Val) (l : List Val) (x : Val) : inK (k :: l) x = (decide (x = k) || inK l x) := rfl
theorem sumK_some (R : List VRow) : ∀ l : List Val, l.Nodup → sumK R l = (R.filter fun r => inK l (va r 0)).length
  | [], _ => by
    rw [List.filter_eq_nil_iff.2 (fun r _ => by simp [inK])]
    rfl
  | k :: l, h => by
    obtain ⟨h1, h2⟩ := List.nodup_cons.1 h
    have ih := sumK_some R l h2
    have key : ∀ Q : List VRow, (keyG Q k).length + (Q.filter fun r => inK l (va r 0)).length = (Q.filter fun r => inK (k :: l) (va r 0)).length := fun Q => by
      induction Q with
      | nil => rfl
      | cons q Q ih2 =>
        unfold keyG at ih2 ⊢
        simp only [List.filter_cons, inK_cons] at ih2 ⊢
        by_cases c1 : va q 0 = k
        · have c2 : inK l (va q 0) = false := by
            rw [Bool.eq_false_iff]
            intro h
            rw [c1] at h
            exact h1 (inK_iff.1 h)
          rw [decide_eq_true c1, c2]
          simp only [Bool.true_or, if_true, List.length_cons]
          rw [if_neg (by decide)]
          omega
        · rw [decide_eq_false c1, Bool.false_or]
          cases c2 : inK l (va q 0)
          · rw [if_neg (by decide), if_neg (by decide), if_neg (by decide)]
            exact ih2
          · rw [if_neg (by decide), if_pos rfl, if_pos rfl]
            simp only [List.length_cons]
            omega
    rw [← key R, ← ih]
    rfl
theorem sumK_all {fn : Int} {col : Nat} {R A : List VRow} (hA : ∀ x, x ∈ A ↔ OutIn [0] fn col R x) (hn : A.Nodup) : sumK R (keysL A) = R.length := by
  rw [sumK_some R _ (keys_nodup hA hn), List.filter_eq_self.2 fun r hr => inK_iff.2 ((keys_mem hA _).2 ⟨r, hr, rfl⟩)]
theorem key_take {R : List VRow} {i : Nat} (hi : i < R.length) (k : Val) : keyG (R.take (i + 1)) k = keyG (R.take i) k ++ if va (vr R i) 0 = k then [vr R i] else [] := by
  unfold keyG
  rw [List.take_succ_eq_append_getElem hi, vr_at hi, List.filter_append]
  by_cases h : va (vr R i) 0 = k
  · rw [if_pos h]; simp [h]
  · rw [if_neg h]; simp [h]
theorem best_app {fn : Int} {l : List Val} (h : l ≠ []) (x : Val) : bestV fn (l ++ [x]) = bst fn (bestV fn l) x := by
  cases l with
  | nil => exact absurd rfl h
  | cons a l =>
    show (l ++ [x]).foldl (bst fn) a = bst fn (l.foldl (bst fn) a) x
    rw [List.foldl_append]
    rfl
theorem best_one (fn : Int) (x : Val) : bestV fn [x] = x := rfl
theorem colV_app (G H : List VRow) (c : Nat) : colV (G ++ H) c = colV G c ++ colV H c := by unfold colV; rw [List.map_append]
/-- What Group answers, for few facts: counts, least and greatest values of groups by the first column. -/
theorem grp_point {F : List Fct} {fn colI e : Int} {v : Value} {w' : World} (hv : validF F = true) (hp : 0 < F.length) (hf : F.length ≤ 10) (hfn : fn = 1 ∨ fn = 3 ∨ fn = 4) (hc : fn ≠ 1 → hasB F colI = true) (hg : GrpSpec F [0] fn colI e v w') :
    e = 0 ∧ ∃ A, NormOf A (DGrp F [0] fn colI.toNat) ∧ A.length ≤ 1000 ∧ IsFs w' v A := by
  unfold GrpSpec at hg
  have hbad : bad1 F fn colI = false := by
    unfold bad1
    rw [hv]
    rcases hfn with rfl | rfl | rfl
    · rfl
    · rw [hc (by decide)]; rfl
    · rw [hc (by decide)]; rfl
  have hr0 : 1 ≤ (row0 F).length := ((valid_rows hv).2 _ (fc_mem hp)).1.1
  have hkey : keyedB (row0 F).length [0] = true := by
    refine range_all fun i hi => ?_
    obtain rfl : i = 0 := by simpa using hi
    have h1 : decide ((0 : Int) < ((row0 F).length : Int)) = true := decide_eq_true (by omega)
    have h2 : iv [(0 : Int)] 0 = (0 : Int) := by simp [iv]
    unfold keyB
    rw [h2, h1]
    rfl
  rw [if_neg (by rw [hbad]; decide), if_neg (by omega), if_neg (by rw [hkey]; decide), if_neg (by decide), if_neg (by rintro ⟨rfl, _⟩; rcases hfn with h | h | h <;> cases h)] at hg
  rcases hg with ⟨⟨t, r, hr, he⟩, _⟩ | ⟨_, A, hA, hl, h2⟩
  · exfalso
    refine he ?_
    unfold resR
    rcases hfn with rfl | rfl | rfl <;> rfl
  · have h3 : F.length * (2 * F.length) ≤ 10 * 20 := Nat.mul_le_mul hf (by omega)
    rcases h2 with ⟨h4, _⟩ | ⟨h4, h5, h6⟩
    · omega
    · exact ⟨h5, A, hA, h4, h6⟩
/-- The rows of such a list at a time. -/
theorem point_rows {F A : List Fct} {fn : Int} {col : Nat} (h : NormOf A (DGrp F [0] fn col)) (t : Int) (x : VRow) : x ∈ rowsAt A t ↔ OutIn [0] fn col (rowsAt F t) x := rowsAt_mem.trans (h.pts x t)
/-- The rows of counts, least and greatest values at one time, as the law reads them. -/
structure PtOk (R A B C : List VRow) (col : Nat) : Prop where
  row : ∀ x ∈ A, ∃ k0, x = [k0, (1, ((keyG R k0).length : Int), ⟨#[]⟩)] ∧ 0 < (keyG R k0).length ∧ [k0, bestV 3 (colV (keyG R k0) col)] ∈ B ∧ [k0, bestV 4 (colV (keyG R k0) col)] ∈ C
  sum : sumK R (keysL A) = R.length
  lb : A.length = B.length
  lc : A.length = C.length
theorem keyG_pos {R : List VRow} {r : VRow} (hr : r ∈ R) : 0 < (keyG R (va r 0)).length := List.length_pos_of_mem (List.mem_filter.2 ⟨hr, decide_eq_true rfl⟩)
theorem point_ok {F A B C : List Fct} {col : Nat} (hA : NormOf A (DGrp F [0] 1 0)) (hB : NormOf B (DGrp F [0] 3 col)) (hC : NormOf C (DGrp F [0] 4 col)) (t : Int) : PtOk (rowsAt F t) (rowsAt A t) (rowsAt B t) (rowsAt C t) col := by
  have pA := point_rows hA t; have pB := point_rows hB t; have pC := point_rows hC t
  have nA := rowsN_nodup A t A.length; have nB := rowsN_nodup B t B.length; have nC := rowsN_nodup C t C.length
  refine ⟨fun x hx => ?_, sumK_all pA nA, keys_len pA pB nA nB, keys_len pA pC nA nC⟩
  obtain ⟨r, hr, rfl⟩ := outIn_key.1 ((pA x).1 hx)
  exact ⟨va r 0, rfl, keyG_pos hr, (pB _).2 (outIn_key.2 ⟨r, hr, rfl⟩), (pC _).2 (outIn_key.2 ⟨r, hr, rfl⟩)⟩
theorem keysL_take {A : List VRow} {q : Nat} (hq : q < A.length) : (keysL A).take (q + 1) = (keysL A).take q ++ [va (vr A q) 0] := by
  have hl : q < (keysL A).length := by simpa [keysL] using hq
  rw [List.take_succ_eq_append_getElem hl]
  simp [keysL, vr_at hq]
theorem sumK_next {R A : List VRow} {q : Nat} (hq : q < A.length) : sumK R ((keysL A).take (q + 1)) = sumK R ((keysL A).take q) + (keyG R (va (vr A q) 0)).length := by
  rw [keysL_take hq, sumK_app]
  rfl
theorem keysL_all (A : List VRow) : (keysL A).take A.length = keysL A := by
  refine List.take_of_length_le ?_
  simp [keysL]
theorem any_mem {B : List VRow} {x : VRow} (h : x ∈ B) : (B.any fun y => decide (y = x)) = true := List.any_eq_true.2 ⟨x, h, decide_eq_true rfl⟩
end Go.Proofs.Ytohjgegnamcnlaa
