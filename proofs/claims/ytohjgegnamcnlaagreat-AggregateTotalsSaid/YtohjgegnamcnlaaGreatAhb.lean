/- Law 39: aggregate.Group. -/
import Derived.Test.YtohjgegnamcnlaaGreatAha
namespace Go.Proofs.YtohjgegnamcnlaaGreat
open Go.RowKit Go.Shelf

/-! ### slices.Contains at ints -/
def hasI (l : List Int) (x : Int) : Bool := l.any fun y => decide (y = x)
theorem hasI_yes {l : List Int} {x : Int} {i : Nat} (hi : i < l.length) (h : iv l i = x) : hasI l x = true := by
  unfold hasI
  rw [List.any_eq_true]
  exact ⟨iv l i, iv_mem' hi, decide_eq_true h⟩
theorem hasI_no {l : List Int} {x : Int} (h : ∀ i, i < l.length → iv l i ≠ x) : hasI l x = false := by
  unfold hasI
  rw [List.any_eq_false]
  intro y hy
  obtain ⟨i, hi, rfl⟩ := List.getElem_of_mem hy
  rw [iv_at hi]
  simpa using h i hi
def IdxIRet (l : List Int) (x : Int) (w : World) (e : Ending) (w' : World) : Prop := ∃ r : Int, e = .returned (.int .i64 r) ∧ decide (0 ≤ r) = hasI l x ∧ w' = w
set_option maxRecDepth 100000 in
theorem slIdxInt_c (v : Value) (l : List Int) (x : Int) (w : World) (hs : IsInts w v l) : Calls Tryz.prog 70 #[v, .int .i64 x] w (IdxIRet l x w) := by
  obtain ⟨A, c, rfl, hnc, hc⟩ := hs.form
  go_enter Tryz.func70, Tryz.ntmps70
  go_wp2_with fail
  try go_frame
  go_loopw [8] (fun i X => ∃ k : Nat, i = .int .i64 (k : Int) ∧ k ≤ l.length ∧ Hid (∀ j, j < k → iv l j ≠ x) ∧ Hid (X = w)) (fun i _ => l.length - (intOf i).toNat)
  case atStart => exact ⟨0, rfl, Nat.zero_le _, Lib.hid fun j hj => absurd hj (by omega), Lib.hid (by first | trivial | rfl)⟩
  case round =>
    obtain ⟨k, rfl, hk, HK, HX⟩ := hrel
    have hX := HX.out
    subst hX
    by_cases hlt : k < l.length
    · obtain ⟨b, off, rfl, hbl⟩ := hs.addr (by omega)
      have c0 := hs.c0 k hlt
      have Hlt := Lib.hid hlt
      cases q : (x == iv l k)
      · have hne : iv l k ≠ x := fun e => by rw [e] at q; simp at q
        have HN := Lib.hid hne
        clear hne
        go_wp2_with fail
        go_roundw
        case rel => exact ⟨k + 1, by go_num, Hlt.out, Lib.hid fun j hj => by
          rcases Nat.lt_or_ge j k with e | e
          · exact HK.out j e
          · obtain rfl : j = k := by omega
            exact HN.out, Lib.hid (by first | trivial | rfl)⟩
        case measure => have := Hlt.out; simp [intOf]; omega
      · have he : iv l k = x := (eq_of_beq q).symm
        have HE := Lib.hid (hasI_yes hlt he)
        clear he
        go_wp2_with fail
        go_ret
        exact ⟨(k : Int), rfl, by rw [HE.out]; exact decide_eq_true (by omega), rfl⟩
    · obtain rfl : k = l.length := by omega
      have HE := Lib.hid (hasI_no HK.out)
      go_wp2_with fail
      go_ret
      exact ⟨-1, rfl, by rw [HE.out]; rfl, rfl⟩
theorem slHasInt_c (v : Value) (l : List Int) (x : Int) (w : World) (hs : IsInts w v l) : Calls Tryz.prog 32 #[v, .int .i64 x] w (fun e w' => e = .returned (.bool (hasI l x)) ∧ w' = w) := by
  have K := Lib.hid (slIdxInt_c v l x w hs)
  obtain ⟨A, c, rfl, hnc, hc⟩ := hs.form
  go_enter Tryz.func32, Tryz.ntmps32
  go_wp2_with fail
  refine K.out.mono ?_
  rintro e w1 ⟨r, rfl, hr, rfl⟩
  have HR := Lib.hid hr
  clear hr
  go_wp2_with fail
  go_ret
  exact ⟨by rw [← HR.out]; rfl, rfl⟩
/-! ### Group -/
def keyB (n0 : Nat) (ks : List Int) (i : Nat) : Bool := (decide (0 ≤ iv ks i) && decide (iv ks i < (n0 : Int))) && !hasI (ks.take i) (iv ks i)
def keyedB (n0 : Nat) (ks : List Int) : Bool := (List.range ks.length).all (keyB n0 ks)
def bad1 (F : List Fct) (fn colI : Int) : Bool := !validF F || decide (fn < 1) || decide (4 < fn) || (!(fn == 1) && !hasB F colI)
/-- What Group answers for proper arguments. -/
def GrpOut (F : List Fct) (ks : List Int) (fn colI : Int) (c : Int) (v : Value) (w' : World) : Prop :=
  ((∃ t, ErrIn ks fn colI.toNat (rowsAt F t)) ∧ c = 9 ∧ v = .slice none 0 0) ∨
  ((¬ ∃ t, ErrIn ks fn colI.toNat (rowsAt F t)) ∧ ∃ A, NormOf A (DGrp F ks fn colI.toNat) ∧ A.length ≤ F.length * (2 * F.length) ∧ ((1000 < A.length ∧ c = 5 ∧ v = .slice none 0 0) ∨ (A.length ≤ 1000 ∧ c = 0 ∧ IsFs w' v A)))
def GrpSpec (F : List Fct) (ks : List Int) (fn colI : Int) (c : Int) (v : Value) (w' : World) : Prop :=
  if bad1 F fn colI = true then c = 1 ∧ v = .slice none 0 0
  else if F.length = 0 then c = 0 ∧ v = .slice none 0 0
  else if keyedB (row0 F).length ks = false then c = 1 ∧ v = .slice none 0 0
  else if 8 ≤ ks.length then c = 5 ∧ v = .slice none 0 0
  else if fn = 2 ∧ (va (row0 F) colI.toNat).1 ≠ 1 then c = 13 ∧ v = .slice none 0 0
  else GrpOut F ks fn colI c v w'
def GroupRet (F : List Fct) (ks : List Int) (fn colI : Int) (w : World) (e : Ending) (w' : World) : Prop := ∃ v c, e = .returned (.tuple #[v, .int .i64 c]) ∧ Below w.heap.size w w' ∧ GrpSpec F ks fn colI c v w'
/-- A table's list in order. -/
theorem sorted_ex (L : List Fct) : ∃ A : List Fct, A.Perm L ∧ A.Pairwise fun a b => ¬ cmpF b a < 0 := by
  refine ⟨L.mergeSort fun a b => !decide (cmpF b a < 0), List.mergeSort_perm _ _, ?_⟩
  have h := List.pairwise_mergeSort (le := fun a b : Fct => !decide (cmpF b a < 0)) (fun a b c h1 h2 => by
    simp only [Bool.not_eq_true', decide_eq_false_iff_not] at h1 h2 ⊢
    intro h3
    have T := ordR.lex ordI
    unfold cmpF at h1 h2 h3
    have a1 := T.anti (a.1, a.2.1) (b.1, b.2.1)
    have a2 := T.anti (b.1, b.2.1) (c.1, c.2.1)
    rcases Int.lt_or_eq_of_le (show lexC cmpR sgI (a.1, a.2.1) (b.1, b.2.1) ≤ 0 by omega) with p | p
    · have := T.trans _ _ _ h3 p
      omega
    · have := (T.eq _ _).1 p
      rw [this] at h3
      omega) (fun a b => by
    simp only [Bool.or_eq_true, Bool.not_eq_true', decide_eq_false_iff_not]
    by_cases h : cmpF b a < 0
    · exact .inr (cmpF_asym h)
    · exact .inl h) L
  exact h.imp fun {a b} h => by simpa using h
theorem valid_rows {F : List Fct} (h : validF F = true) : F.length ≤ 1000 ∧ ∀ f ∈ F, (1 ≤ f.1.length ∧ f.1.length ≤ 8 ∧ f.1.length = (row0 F).length) ∧ spT f.2 = true ∧ (∀ k, k < f.1.length → vB (va f.1 k) = true ∧ (va f.1 k).1 = (va (row0 F) k).1) := by
  unfold validF at h
  simp only [Bool.and_eq_true, decide_eq_true_eq] at h
  refine ⟨h.1, fun f hf => ?_⟩
  have h2 := List.all_eq_true.1 h.2 f hf
  unfold okFct colsB at h2
  simp only [Bool.and_eq_true, decide_eq_true_eq] at h2
  refine ⟨⟨h2.1.1.1.2, h2.1.1.2, h2.1.2⟩, h2.1.1.1.1, fun k hk => ?_⟩
  have h3 := List.all_eq_true.1 h2.2 k (List.mem_range.2 hk)
  unfold kindB at h3
  simp only [Bool.and_eq_true, decide_eq_true_eq] at h3
  exact h3
/-- Rows as the machine has them: each number is an int. -/
def MachF (F : List Fct) : Prop := ∀ f ∈ F, ∀ x ∈ f.1, I64 x
theorem spT_ok {s : Sp} (h : spT s = true) : OkSp s ∧ -62135596800 ≤ s.1 ∧ s.2 ≤ 253402300800 := by
  unfold spT at h
  simp only [Bool.and_eq_true, decide_eq_true_eq] at h
  unfold OkSp
  omega
theorem valid_ok {F : List Fct} (h : validF F = true) (hm : MachF F) : ∀ f ∈ F, okR f.1 := fun f hf x hx => by
  obtain ⟨_, h2⟩ := valid_rows h
  obtain ⟨k, hk, rfl⟩ := List.getElem_of_mem hx
  have := ((h2 f hf).2.2 k hk).1
  rw [va_at hk]
  exact ⟨this, by rw [← va_at hk]; exact hm f hf _ (List.getElem_mem hk)⟩
end Go.Proofs.YtohjgegnamcnlaaGreat
