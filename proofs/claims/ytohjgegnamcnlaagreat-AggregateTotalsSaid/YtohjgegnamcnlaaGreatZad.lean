/- Texts joined: Ahp, Ahq, Ahr, Ahs, Aht. -/
import Derived.Test.YtohjgegnamcnlaaGreatAhj
import Derived.Test.YtohjgegnamcnlaaGreatAhc

/- Law 39: the reference's sign. -/
namespace Go.Proofs.YtohjgegnamcnlaaGreat
open Go.RowKit Go.Shelf

theorem r33sign_c (a b : Int) (w : World) : Calls Tryz.prog 98 #[.int .i64 a, .int .i64 b] w (Ret w (.int .i64 (sgI a b))) := by
  obtain ⟨R, hR⟩ : ∃ r, r = sgI a b := ⟨_, rfl⟩
  rw [← hR]
  unfold sgI at hR
  cases q1 : decide (a < b)
  · have h1 : ¬ a < b := of_decide_eq_false q1
    cases q2 : decide (b < a)
    · have h2 : ¬ b < a := of_decide_eq_false q2
      have HR : Hid (R = 0) := Lib.hid (by rw [hR]; simp [h1, h2])
      clear hR h1 h2
      go_enter Tryz.func98, Tryz.ntmps98
      go_wp2_with fail
      go_ret
      exact ⟨by rw [HR.out]; rfl, Below.refl _ _⟩
    · have h2 : b < a := of_decide_eq_true q2
      have HR : Hid (R = 1) := Lib.hid (by rw [hR]; simp [h1, h2])
      clear hR h1 h2
      go_enter Tryz.func98, Tryz.ntmps98
      go_wp2_with fail
      go_ret
      exact ⟨by rw [HR.out]; rfl, Below.refl _ _⟩
  · have h1 : a < b := of_decide_eq_true q1
    have HR : Hid (R = -1) := Lib.hid (by rw [hR]; simp [h1])
    clear hR h1
    go_enter Tryz.func98, Tryz.ntmps98
    go_wp2_with fail
    go_ret
    exact ⟨by rw [HR.out]; rfl, Below.refl _ _⟩
end Go.Proofs.YtohjgegnamcnlaaGreat

/- Law 39: the order of strings, byte by byte. Plain law. -/
namespace Go.Proofs.YtohjgegnamcnlaaGreat
open Go.RowKit Go.Shelf

def sgL (a b : List UInt8) : Int := if Op.bytesLess a b then -1 else if Op.bytesLess b a then 1 else 0
theorem sgS_eq (a b : ByteArray) : sgS a b = sgL a.data.toList b.data.toList := rfl
theorem sgL_cons (x : UInt8) (a b : List UInt8) : sgL (x :: a) (x :: b) = sgL a b := by
  simp [sgL, Op.bytesLess]
theorem sgL_ne {x y : UInt8} (a b : List UInt8) (h : x ≠ y) : sgL (x :: a) (y :: b) = sgI (x.toNat : Int) (y.toNat : Int) := by
  have h1 : (x == y) = false := by simpa using h
  have h2 : (y == x) = false := by simpa using fun e : y = x => h e.symm
  have h3 : x.toNat ≠ y.toNat := fun e => h (UInt8.toNat_inj.1 e)
  unfold sgL sgI Op.bytesLess
  simp only [h1, h2, Bool.false_and, Bool.or_false, decide_eq_true_eq, UInt8.lt_iff_toNat_lt]
  by_cases k1 : x.toNat < y.toNat
  · rw [if_pos k1, if_pos (by omega)]
  · rw [if_neg k1, if_pos (by omega), if_neg (by omega), if_pos (by omega)]
theorem sgL_diff : ∀ (a b : List UInt8) (j : Nat) (ha : j < a.length) (hb : j < b.length), (∀ l (h : l < a.length) (h' : l < b.length), l < j → a[l] = b[l]) → a[j] ≠ b[j] → sgL a b = sgI (a[j].toNat : Int) (b[j].toNat : Int)
  | [], _, _, ha, _, _, _ => absurd ha (by simp)
  | _ :: _, [], _, _, hb, _, _ => absurd hb (by simp)
  | x :: a, y :: b, 0, _, _, _, hd => sgL_ne a b hd
  | x :: a, y :: b, j + 1, ha, hb, he, hd => by
    have e0 : x = y := he 0 (by simp) (by simp) (by omega)
    subst e0
    rw [sgL_cons]
    have := sgL_diff a b j (by simpa using ha) (by simpa using hb) (fun l h h' hl => by
      have := he (l + 1) (by simpa using h) (by simpa using h') (by omega)
      simpa using this) (by simpa using hd)
    simpa using this
theorem sgL_end : ∀ (a b : List UInt8), (∀ l (h : l < a.length) (h' : l < b.length), a[l] = b[l]) → sgL a b = sgI (a.length : Int) (b.length : Int)
  | [], [], _ => by simp [sgL, sgI, Op.bytesLess]
  | [], y :: b, _ => by
    unfold sgI
    rw [if_pos (by simp)]
    simp [sgL, Op.bytesLess]
  | x :: a, [], _ => by
    unfold sgI
    rw [if_neg (by simp; omega), if_pos (by simp)]
    simp [sgL, Op.bytesLess]
  | x :: a, y :: b, he => by
    have e0 : x = y := he 0 (by simp) (by simp)
    subst e0
    rw [sgL_cons, sgL_end a b fun l h h' => by
      have := he (l + 1) (by simpa using h) (by simpa using h')
      simpa using this]
    unfold sgI
    simp only [List.length_cons]
    split <;> split <;> (try split) <;> (try split) <;> omega
end Go.Proofs.YtohjgegnamcnlaaGreat

/- Law 39: the reference's order of values. -/
namespace Go.Proofs.YtohjgegnamcnlaaGreat
open Go.RowKit Go.Shelf

theorem cmpV_kind {k1 n1 k2 n2 : Int} {a b : ByteArray} (h : k1 ≠ k2) : cmpV (k1, n1, a) (k2, n2, b) = sgI k1 k2 := by
  unfold cmpV lexC
  rw [if_pos (fun e => h ((ordI.eq _ _).1 e))]
theorem cmpV_num {k n1 n2 : Int} {a b : ByteArray} (h : n1 ≠ n2) : cmpV (k, n1, a) (k, n2, b) = sgI n1 n2 := by
  unfold cmpV lexC
  rw [if_neg (fun e => e ((ordI.eq _ _).2 rfl))]
  simp only
  rw [if_pos (fun e => h ((ordI.eq _ _).1 e))]
theorem cmpV_text {k n : Int} {a b : ByteArray} : cmpV (k, n, a) (k, n, b) = sgS a b := by
  unfold cmpV lexC
  rw [if_neg (fun e => e ((ordI.eq _ _).2 rfl))]
  simp only
  rw [if_neg (fun e => e ((ordI.eq _ _).2 rfl))]
theorem sgS_diff {a b : ByteArray} {j : Nat} (ha : j < a.size) (hb : j < b.size) (h : ∀ l (h : l < a.size) (h' : l < b.size), l < j → a[l] = b[l]) (hd : a[j] ≠ b[j]) : sgS a b = sgI (a[j].toNat : Int) (b[j].toNat : Int) :=
  sgL_diff a.data.toList b.data.toList j (by simpa using ha) (by simpa using hb) (fun l h1 h2 hl => by
    have := h l (by simpa using h1) (by simpa using h2) hl
    simpa [ByteArray.getElem_eq_getElem_data] using this) (by simpa [ByteArray.getElem_eq_getElem_data] using hd)
theorem sgS_end {a b : ByteArray} (h : ∀ l (h : l < a.size) (h' : l < b.size), a[l] = b[l]) : sgS a b = sgI (a.size : Int) (b.size : Int) := by
  have := sgL_end a.data.toList b.data.toList fun l h1 h2 => by
    have := h l (by simpa using h1) (by simpa using h2)
    simpa [ByteArray.getElem_eq_getElem_data] using this
  rw [sgS_eq]
  simpa using this
set_option maxRecDepth 100000 in
theorem r33Compare_c (k1 n1 k2 n2 : Int) (a b : ByteArray) (w : World) (hsz : a.size ≤ 1000000000) : Calls Tryz.prog 66 #[.agg #[.int .i64 k1, .int .i64 n1, .string a], .agg #[.int .i64 k2, .int .i64 n2, .string b]] w (Ret w (.int .i64 (cmpV (k1, n1, a) (k2, n2, b)))) := by
  obtain ⟨R, hR⟩ : ∃ r, r = cmpV (k1, n1, a) (k2, n2, b) := ⟨_, rfl⟩
  rw [← hR]
  obtain ⟨W, hW⟩ : ∃ y, y = (w.alloc (.cells #[.int .i64 k1, .int .i64 n1, .string a] 51)).alloc (.cells #[.int .i64 k2, .int .i64 n2, .string b] 51) := ⟨_, rfl⟩
  have hz : (w.alloc (.cells #[.int .i64 k1, .int .i64 n1, .string a] 51)).heap.size = w.heap.size + 1 := by simp
  have hb0 : Below w.heap.size w W := by rw [hW]; exact ((Below.refl _ _).alloc (Nat.le_refl _) _).alloc (by omega) _
  have HW := Lib.hid hW; have HB0 := Lib.hid hb0
  cases q1 : (k1 == k2)
  · have h1 : k1 ≠ k2 := by rw [beq_eq_false_iff_ne] at q1; exact q1
    have HR : Hid (R = sgI k1 k2) := Lib.hid (by rw [hR]; exact cmpV_kind h1)
    have q2 : (k1 != k2) = true := by rw [bne, q1]; rfl
    clear hR h1 hW hb0
    go_enter Tryz.func66, Tryz.ntmps66
    go_wp2_with fail
    rw [← HW.out]
    refine (r33sign_c k1 k2 _).mono ?_
    rintro e w2 ⟨rfl, hb2⟩
    have hb := HB0.out.trans (hb2.mono HB0.out.size)
    clear hb2
    go_wp2_with fail
    go_ret
    exact ⟨by rw [HR.out]; rfl, hb⟩
  obtain rfl : k1 = k2 := eq_of_beq q1
  cases q3 : (n1 == n2)
  · have h1 : n1 ≠ n2 := by rw [beq_eq_false_iff_ne] at q3; exact q3
    have HR : Hid (R = sgI n1 n2) := Lib.hid (by rw [hR]; exact cmpV_num h1)
    have q2 : (n1 != n2) = true := by rw [bne, q3]; rfl
    have q4 : (k1 != k1) = false := by simp
    clear hR h1 hW hb0
    go_enter Tryz.func66, Tryz.ntmps66
    go_wp2_with fail
    rw [← HW.out]
    refine (r33sign_c n1 n2 _).mono ?_
    rintro e w2 ⟨rfl, hb2⟩
    have hb := HB0.out.trans (hb2.mono HB0.out.size)
    clear hb2
    go_wp2_with fail
    go_ret
    exact ⟨by rw [HR.out]; rfl, hb⟩
  obtain rfl : n1 = n2 := eq_of_beq q3
  have HR : Hid (R = sgS a b) := Lib.hid (by rw [hR]; exact cmpV_text)
  clear hR q1 q3
  have q4 : (k1 != k1) = false := by simp
  have q5 : (n1 != n1) = false := by simp
  have hT1 : W.heap[w.heap.size]? = some (.cells #[.int .i64 k1, .int .i64 n1, .string a] 51 (0, 0)) := by
    rw [hW]
    exact (((Below.refl (w.alloc (.cells #[.int .i64 k1, .int .i64 n1, .string a] 51)).heap.size _).alloc (Nat.le_refl _) _).block w.heap.size (by simp)).trans (heap_alloc_new w _)
  have hT2 : W.heap[w.heap.size + 1]? = some (.cells #[.int .i64 k1, .int .i64 n1, .string b] 51 (0, 0)) := by
    rw [hW]
    have := heap_alloc_new (w.alloc (.cells #[.int .i64 k1, .int .i64 n1, .string a] 51)) (.cells #[.int .i64 k1, .int .i64 n1, .string b] 51)
    rw [hz] at this
    exact this
  have HA : Hid (∀ X, Below W.heap.size W X → X.cell? ⟨w.heap.size, 2, none⟩ = some (.string a)) := Lib.hid fun X h => by
    rw [h.cell (p := ⟨w.heap.size, 2, none⟩) (blk_lt hT1), blk_get hT1 2]; rfl
  have HB : Hid (∀ X, Below W.heap.size W X → X.cell? ⟨w.heap.size + 1, 2, none⟩ = some (.string b)) := Lib.hid fun X h => by
    rw [h.cell (p := ⟨w.heap.size + 1, 2, none⟩) (blk_lt hT2), blk_get hT2 2]; rfl
  have Hl1 := Lib.hid (blk_lt hT1); have Hl2 := Lib.hid (blk_lt hT2)
  clear hT1 hT2 hW hb0 hz
  go_enter Tryz.func66, Tryz.ntmps66
  go_wp2_with fail
  rw [← HW.out]
  try go_frame
  go_loopw [5] (fun i X => ∃ j : Nat, i = .int .i64 (j : Int) ∧ j ≤ a.size ∧ j ≤ b.size ∧ Hid (∀ l (h : l < a.size) (h' : l < b.size), l < j → a[l] = b[l]) ∧ Hid (Below W.heap.size W X)) (fun i _ => a.size - (intOf i).toNat)
  case atStart => exact ⟨0, rfl, Nat.zero_le _, Nat.zero_le _, Lib.hid (fun l _ _ hl => absurd hl (by omega)), Lib.hid (Below.refl _ _)⟩
  case round =>
    obtain ⟨j, rfl, ha, hb, HJ, HX⟩ := hrel
    rename World => X
    have x1 := HA.out X HX.out
    have x2 := HB.out X HX.out
    have HbX := Lib.hid (HB0.out.trans (HX.out.mono HB0.out.size))
    by_cases hlt : j < a.size ∧ j < b.size
    · obtain ⟨hl1, hl2⟩ := hlt
      have f1 : decide ((j : Int) < (a.size : Int)) = true := decide_eq_true (by omega)
      have f2 : decide ((j : Int) < (b.size : Int)) = true := decide_eq_true (by omega)
      have e1 := fun x : BW X => bw_cell x x1 (Nat.lt_of_lt_of_le Hl1.out HX.out.size)
      have e2 := fun x : BW X => bw_cell x x2 (Nat.lt_of_lt_of_le Hl2.out HX.out.size)
      obtain ⟨y1, hy1⟩ : ∃ y, y = ((a[j]'hl1).toNat : Int) := ⟨_, rfl⟩
      obtain ⟨y2, hy2⟩ : ∃ y, y = ((b[j]'hl2).toNat : Int) := ⟨_, rfl⟩
      cases q : (((a[j]'hl1).toNat : Int) == ((b[j]'hl2).toNat : Int))
      · have hne : a[j]'hl1 ≠ b[j]'hl2 := fun e => by rw [e] at q; simp at q
        have HR2 : Hid (R = sgI ((a[j]'hl1).toNat : Int) ((b[j]'hl2).toNat : Int)) := Lib.hid (by rw [HR.out]; exact sgS_diff hl1 hl2 HJ.out hne)
        have q2 : (((a[j]'hl1).toNat : Int) != ((b[j]'hl2).toNat : Int)) = true := by rw [bne, q]; rfl
        have w1 : IntKind.i64.wrap ((a[j]'hl1).toNat : Int) = ((a[j]'hl1).toNat : Int) := IntWalk.i64_in _ (by have := (a[j]'hl1).toNat_lt; omega)
        have w2 : IntKind.i64.wrap ((b[j]'hl2).toNat : Int) = ((b[j]'hl2).toNat : Int) := IntWalk.i64_in _ (by have := (b[j]'hl2).toNat_lt; omega)
        have KS : Hid (∀ Y : World, Calls Tryz.prog 98 #[.int .i64 ((a[j]'hl1).toNat : Int), .int .i64 ((b[j]'hl2).toNat : Int)] Y (Ret Y (.int .i64 R))) := Lib.hid fun Y => by rw [HR2.out]; exact r33sign_c _ _ Y
        go_wp2_with fail
        refine wp_region_below (by kernel_rfl) (by kernel_rfl) ?_
        repeat (go_big_quiet_step (fail))
        refine wpQuiet_nil ?_
        rintro Y1 ⟨⟨_, hbY⟩, rfl⟩
        have z1 := (hbY.cell (p := ⟨w.heap.size, 2, none⟩) (Nat.lt_of_lt_of_le Hl1.out HX.out.size)).trans x1
        have z2 := (hbY.cell (p := ⟨w.heap.size + 1, 2, none⟩) (Nat.lt_of_lt_of_le Hl2.out HX.out.size)).trans x2
        have HbY := Lib.hid (HbX.out.trans (hbY.mono HbX.out.size))
        have Hs1 := Lib.hid (Nat.lt_of_lt_of_le (Nat.lt_of_lt_of_le Hl1.out HX.out.size) hbY.size)
        have Hs2 := Lib.hid (Nat.lt_of_lt_of_le (Nat.lt_of_lt_of_le Hl2.out HX.out.size) hbY.size)
        clear e1 e2 hbY x1 x2
        have e1 := fun x : BW Y1 => bw_cell x z1 Hs1.out
        have e2 := fun x : BW Y1 => bw_cell x z2 Hs2.out
        go_wp2_with fail
        refine wp_region_below (by kernel_rfl) (by kernel_rfl) ?_
        repeat (go_big_quiet_step ((go_at_call 98; exact calls_bw _ (KS.out _))))
        refine wpQuiet_nil ?_
        rintro Y2 ⟨⟨_, hbY⟩, rfl⟩
        have hbo := HbY.out.trans (hbY.mono HbY.out.size)
        clear e1 e2 hbY
        go_wp2_with fail
        go_ret
        exact ⟨rfl, hbo⟩
      · have heq : a[j]'hl1 = b[j]'hl2 := by have := eq_of_beq q; exact UInt8.toNat_inj.1 (by omega)
        have HJ' : Hid (∀ l (h : l < a.size) (h' : l < b.size), l < j + 1 → a[l] = b[l]) := Lib.hid fun l h h' hl => by
          rcases Nat.lt_or_ge l j with e | e
          · exact HJ.out l h h' e
          · obtain rfl : l = j := by omega
            exact heq
        have q2 : (((a[j]'hl1).toNat : Int) != ((b[j]'hl2).toNat : Int)) = false := by rw [bne, q]; rfl
        clear heq
        go_wp2_with fail
        refine wp_region_below (by kernel_rfl) (by kernel_rfl) ?_
        repeat (go_big_quiet_step (fail))
        refine wpQuiet_nil ?_
        rintro Y1 ⟨⟨_, hbY⟩, rfl⟩
        have HbY := Lib.hid (HX.out.trans (hbY.mono HX.out.size))
        clear e1 e2 hbY x1 x2
        go_wp2_with fail
        go_roundw
        case rel => exact ⟨j + 1, by go_num, hl1, hl2, HJ', HbY⟩
        case measure => simp [intOf]; omega
    · have HR2 : Hid (R = sgI (a.size : Int) (b.size : Int)) := Lib.hid (by
        rw [HR.out]
        exact sgS_end fun l h h' => HJ.out l h h' (by omega))
      have KS : Hid (∀ Y : World, Calls Tryz.prog 98 #[.int .i64 (a.size : Int), .int .i64 (b.size : Int)] Y (Ret Y (.int .i64 R))) := Lib.hid fun Y => by rw [HR2.out]; exact r33sign_c _ _ Y
      clear HR2
      cases f1 : decide ((j : Int) < (a.size : Int))
      rotate_left
      · have f2 : decide ((j : Int) < (b.size : Int)) = false := decide_eq_false (by have := of_decide_eq_true f1; omega)
        go_wp2_with fail
        all_goals
          refine (KS.out _).mono ?_
          rintro e Y2 ⟨rfl, hbY⟩
          have hbo := HbX.out.trans (hbY.mono HbX.out.size)
          clear hbY
          go_wp2_with fail
          go_ret
          exact ⟨rfl, hbo⟩
      · go_wp2_with fail
        all_goals
          refine (KS.out _).mono ?_
          rintro e Y2 ⟨rfl, hbY⟩
          have hbo := HbX.out.trans (hbY.mono HbX.out.size)
          clear hbY
          go_wp2_with fail
          go_ret
          exact ⟨rfl, hbo⟩
end Go.Proofs.YtohjgegnamcnlaaGreat

/- Law 39: the rows with the greatest value over time. Plain law. -/
namespace Go.Proofs.YtohjgegnamcnlaaGreat
open Go.RowKit Go.Shelf

/-- x is one of the rows with the greatest value in a column. -/
def TopIn (col : Nat) (R : List VRow) (x : VRow) : Prop := x ∈ R ∧ va x col = (resR 4 col R).1
theorem TopIn.perm {col : Nat} {R R' : List VRow} {x : VRow} (h : R.Perm R') (ht : TopIn col R x) : TopIn col R' x :=
  ⟨h.mem_iff.1 ht.1, by rw [← resR_perm (.inr (.inr (.inr rfl))) h]; exact ht.2⟩
def DTop (F : List Fct) (col : Nat) (r : VRow) (t : Int) : Prop := TopIn col (rowsAt F t) r
def TopA (col : Nat) (Vs : List Vis) (A : List Fct) : Prop := ∀ a, a ∈ A ↔ ∃ v ∈ Vs, v.1 = a.2 ∧ TopIn col v.2 a.1
theorem top_norm {F A G : List Fct} {Vs : List Vis} {col : Nat} (hV : VisOk F Vs fun _ => True) (hA : TopA col Vs A) (hG : NormOf G fun r t => ∃ a ∈ A, a.1 = r ∧ a.2.1 ≤ t ∧ t < a.2.2) : NormOf G (DTop F col) := by
  refine ⟨hG.srt, hG.can, fun r t => ?_⟩
  rw [hG.pts]
  constructor
  · rintro ⟨a, ha, rfl, h1, h2⟩
    obtain ⟨v, hv, e, ho⟩ := (hA a).1 ha
    exact ho.perm (vis_perm hV hv (by rw [e]; exact h1) (by rw [e]; exact h2))
  · intro ho
    obtain ⟨v, hv, h1, h2⟩ := hV.cover t r trivial (rowsAt_mem.1 ho.1)
    exact ⟨(r, v.1), (hA _).2 ⟨v, hv, rfl, TopIn.perm (vis_perm hV hv h1 h2).symm ho⟩, rfl, h1, h2⟩
/-- The rows of Top at a time: those whose value no row's value is beyond. -/
theorem top_rows {F G : List Fct} {col : Nat} (h : NormOf G (DTop F col)) (t : Int) (r : VRow) : r ∈ rowsAt G t ↔ TopIn col (rowsAt F t) r :=
  rowsAt_mem.trans (h.pts r t)
theorem top_iff {R : List VRow} {col : Nat} {x : VRow} (hx : x ∈ R) : TopIn col R x ↔ ∀ r ∈ R, ¬ 0 < cmpV (va r col) (va x col) := by
  have hne : colV R col ≠ [] := fun e => by
    have : va x col ∈ colV R col := List.mem_map.2 ⟨x, hx, rfl⟩
    rw [e] at this
    cases this
  obtain ⟨h1, h2⟩ := best_spec (.inr rfl) hne
  have e : (resR 4 col R).1 = bestV 4 (colV R col) := rfl
  constructor
  · rintro ⟨_, h3⟩ r hr h4
    have h5 := h2 (va r col) (List.mem_map.2 ⟨r, hr, rfl⟩)
    rw [← e, ← h3] at h5
    unfold lev at h5
    have := ordV.anti (va r col) (va x col)
    simp at h5
    omega
  · intro h3
    refine ⟨hx, ?_⟩
    rw [e]
    refine (best_uniq (l := colV R col) (b := va x col) (.inr rfl) (List.mem_map.2 ⟨x, hx, rfl⟩) fun y hy => ?_).symm
    obtain ⟨r, hr, rfl⟩ := List.mem_map.1 hy
    have h5 := h3 r hr
    unfold lev
    have := ordV.anti (va r col) (va x col)
    simp
    omega
end Go.Proofs.YtohjgegnamcnlaaGreat

/- Law 39: the visitor of aggregate.Top. -/
namespace Go.Proofs.YtohjgegnamcnlaaGreat
open Go.RowKit Go.Shelf

def TopJ (F : List Fct) (colI : Int) (base zs z1 : Nat) (w0 : World) (bc bt p bv bs : Nat) (Vs : List Vis) (W : World) : Prop :=
  Below base w0 W ∧ (BoxAt W bc (.int .i64 colI) ∧ BoxAt W bt (.pointer (some ⟨p, 0, none⟩))) ∧ ∃ n E U T A, TabAt base zs z1 W p bv bs n E U T ∧ TabOk E A ∧ TopA colI.toNat Vs A ∧ n ≤ F.length * Vs.length ∧ (flatE E).length ≤ n
theorem topJ_keep {F : List Fct} {colI : Int} {base zs z1 : Nat} {w0 : World} {bc bt p bv bs : Nat} (h0 : base ≤ w0.heap.size) (hbz : base ≤ zs) (hx : bc < zs ∧ bt < zs) (Vs : List Vis) (W W' : World)
    (h : TopJ F colI base zs z1 w0 bc bt p bv bs Vs W) (hk : Oz zs z1 W W') : TopJ F colI base zs z1 w0 bc bt p bv bs Vs W' := by
  obtain ⟨h1, ⟨h2, h2'⟩, n, E, U, T, A, h3, h4⟩ := h
  exact ⟨hk.below h1 h0 hbz, ⟨h2.block (hk.oth bc h2.lt (by omega)), h2'.block (hk.oth bt h2'.lt (by omega))⟩, n, E, U, T, A, h3.keep hk hbz, h4⟩
/-- What stands while the rows are added: Y is the world ahead of the loop, g the rows' block. -/
structure FrT (base z1 : Nat) (X Y Z : World) (bv bs g : Nat) (E : List Ent) (T : Nat → Value) : Prop where
  bel : Below base X Z
  hi : ∀ b, X.heap.size ≤ b → b < Y.heap.size → Z.heap[b]? = Y.heap[b]?
  lo : ∀ b, b < z1 → b ≠ bv → b ≠ bs → Z.heap[b]? = X.heap[b]?
  rows : Z.heap[g]? = X.heap[g]?
  own : ∀ j, j < E.length → ∀ b, (T j).ownBlock = some b → (b < X.heap.size ∧ b ≠ g) ∨ Y.heap.size ≤ b
  sz : Y.heap.size ≤ Z.heap.size
/-- The rows added after the first m of a visit. -/
def TopM (F : List Fct) (col : Nat) (js : List Nat) (s : Sp) (A0 : List Fct) (m : Nat) (A : List Fct) : Prop :=
  ∀ a, a ∈ A ↔ a ∈ A0 ∨ ∃ i, i < m ∧ a = ((fc F (js.getD i 0)).1, s) ∧ va (fc F (js.getD i 0)).1 col = (resR 4 col (rowsJ F js)).1
theorem TopM.zero {F : List Fct} {col : Nat} {js : List Nat} {s : Sp} {A0 : List Fct} : TopM F col js s A0 0 A0 := fun a =>
  ⟨.inl, fun h => h.elim id fun ⟨i, hi, _⟩ => absurd hi (by omega)⟩
theorem TopM.skip {F : List Fct} {col : Nat} {js : List Nat} {s : Sp} {A0 A : List Fct} {m : Nat} (h : TopM F col js s A0 m A) (hne : va (fc F (js.getD m 0)).1 col ≠ (resR 4 col (rowsJ F js)).1) : TopM F col js s A0 (m + 1) A := fun a => by
  rw [h a]
  constructor
  · rintro (e | ⟨i, hi, e⟩)
    · exact .inl e
    · exact .inr ⟨i, by omega, e⟩
  · rintro (e | ⟨i, hi, e, e2⟩)
    · exact .inl e
    · rcases Nat.lt_or_ge i m with q | q
      · exact .inr ⟨i, q, e, e2⟩
      · obtain rfl : i = m := by omega
        exact absurd e2 hne
theorem TopM.add {F : List Fct} {col : Nat} {js : List Nat} {s : Sp} {A0 A : List Fct} {m : Nat} (h : TopM F col js s A0 m A) (he : va (fc F (js.getD m 0)).1 col = (resR 4 col (rowsJ F js)).1) : TopM F col js s A0 (m + 1) (A ++ [((fc F (js.getD m 0)).1, s)]) := fun a => by
  rw [List.mem_append, List.mem_singleton, h a]
  constructor
  · rintro ((e | ⟨i, hi, e⟩) | e)
    · exact .inl e
    · exact .inr ⟨i, by omega, e⟩
    · exact .inr ⟨m, by omega, e, he⟩
  · rintro (e | ⟨i, hi, e, e2⟩)
    · exact .inl (.inl e)
    · rcases Nat.lt_or_ge i m with q | q
      · exact .inl (.inr ⟨i, q, e, e2⟩)
      · obtain rfl : i = m := by omega
        exact .inr e
theorem TopM.done {F : List Fct} {col : Nat} {js : List Nat} {s : Sp} {A0 A : List Fct} {Vs : List Vis} (h : TopM F col js s A0 js.length A) (hA : TopA col Vs A0) : TopA col (Vs ++ [(s, rowsJ F js)]) A := fun a => by
  rw [h a, hA a]
  constructor
  · rintro (⟨v, hv, e⟩ | ⟨i, hi, rfl, e⟩)
    · exact ⟨v, List.mem_append_left _ hv, e⟩
    · exact ⟨(s, rowsJ F js), by simp, rfl, List.mem_map.2 ⟨_, getD_mem hi, rfl⟩, e⟩
  · rintro ⟨v, hv, e1, e2⟩
    rcases List.mem_append.1 hv with q | q
    · exact .inl ⟨v, q, e1, e2⟩
    · rw [List.mem_singleton] at q
      subst q
      obtain ⟨e3, e4⟩ := e2
      obtain ⟨j, hj, e5⟩ := List.mem_map.1 e3
      obtain ⟨i, hi, rfl⟩ := List.getElem_of_mem hj
      have e6 : js.getD i 0 = js[i] := by simp [hi]
      refine .inr ⟨i, hi, ?_, ?_⟩
      · rw [e6, e5]; exact Prod.ext rfl e1.symm
      · rw [e6, e5]; exact e4
theorem topM_apart {F : List Fct} {col : Nat} {js : List Nat} {s : Sp} {A0 A : List Fct} {m : Nat} (h : TopM F col js s A0 m A) (hm : m < js.length) (hn : (rowsJ F js).Nodup) (h0 : ∀ a ∈ A0, a.2.2 ≤ s.1) : ∀ a ∈ A, a.1 = (fc F (js.getD m 0)).1 → a.2.2 ≤ s.1 := fun a ha e => by
  rcases (h a).1 ha with q | ⟨i, hi, rfl, _⟩
  · exact h0 a q
  · exfalso
    have hl : (rowsJ F js).length = js.length := by simp [rowsJ]
    have h1 : (rowsJ F js)[i]'(by omega) = (rowsJ F js)[m]'(by omega) := by
      rw [vr_at, vr_at, vr_rowsJ (by omega), vr_rowsJ hm]
      exact e
    have := (List.getElem_inj hn).1 h1
    omega
end Go.Proofs.YtohjgegnamcnlaaGreat
