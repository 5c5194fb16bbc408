/- Texts joined: AgA, AgB, AgC, AgD, AgE. -/
import Derived.Laws.RangeAny
import Derived.Lib.OthersKept
import Derived.Deep.LoopGhost
import Derived.Shelf.GgClosure.StringsIndexFunc
import Derived.Test.YtohjgegnamcnlaaGreatAgP
import Derived.Test.YtohjgegnamcnlaaGreatDjM
import Derived.Lib.AppendStr
import Derived.Laws.BytesArg

/- Law 39: values in memory; is a value valid. -/
namespace Go.Proofs.YtohjgegnamcnlaaGreat
open Go.RowKit Go.Shelf
open Go.Sort (grow grow_grow grow_empty)

/-! ### texts -/
def badB (x : Nat) : Bool := decide (x < 32) || decide (126 < x)
def textB (s : ByteArray) : Bool := s.data.toList.all fun b => !badB b.toNat
theorem idx_from (s : ByteArray) : ∀ (f pos : Nat), s.size ≤ pos + f → (0 ≤ Lib.idxFuncFrom badB true s f pos ↔ ∃ i, pos ≤ i ∧ ∃ h : i < s.size, badB (s[i]'h).toNat = true)
  | 0, pos, h => by
    unfold Lib.idxFuncFrom
    exact ⟨fun h => absurd h (by omega), fun ⟨i, h1, h2, _⟩ => by omega⟩
  | f + 1, pos, h => by
    unfold Lib.idxFuncFrom
    by_cases hp : pos < s.size
    · rw [if_pos hp]
      by_cases ha : (s[pos]'hp).toNat < 128
      · rw [decode_ascii s pos hp ha]
        simp only
        cases hb : badB (s[pos]'hp).toNat
        · rw [if_neg (by decide), idx_from s f (pos + 1) (by omega)]
          constructor
          · rintro ⟨i, h1, h2, h3⟩
            exact ⟨i, by omega, h2, h3⟩
          · rintro ⟨i, h1, h2, h3⟩
            refine ⟨i, ?_, h2, h3⟩
            rcases Nat.eq_or_lt_of_le h1 with e | e
            · subst e
              rw [hb] at h3
              cases h3
            · exact e
        · rw [if_pos rfl]
          exact ⟨fun _ => ⟨pos, Nat.le_refl _, hp, hb⟩, fun _ => by omega⟩
      · obtain ⟨h1, _⟩ := decode_high s pos hp (by omega)
        have hb : badB (Utf8.decode s pos).1 = true := by unfold badB; rw [decide_eq_true (show 126 < (Utf8.decode s pos).1 by omega)]; simp
        have hb2 : badB (s[pos]'hp).toNat = true := by unfold badB; rw [decide_eq_true (show 126 < (s[pos]'hp).toNat by omega)]; simp
        rw [if_pos hb]
        exact ⟨fun _ => ⟨pos, Nat.le_refl _, hp, hb2⟩, fun _ => by omega⟩
    · rw [if_neg hp]
      exact ⟨fun h => absurd h (by omega), fun ⟨i, h1, h2, _⟩ => by omega⟩
theorem idx_text (s : ByteArray) : decide (0 ≤ Lib.idxFunc badB true s) = !textB s := by
  have h := idx_from s s.size 0 (by omega)
  have key : (∃ i, 0 ≤ i ∧ ∃ h : i < s.size, badB (s[i]'h).toNat = true) ↔ textB s = false := by
    unfold textB
    rw [List.all_eq_false]
    constructor
    · rintro ⟨i, _, h1, h2⟩
      refine ⟨s[i]'h1, ?_, by rw [h2]; decide⟩
      exact Array.mem_toList_iff.2 (Array.getElem_mem _)
    · rintro ⟨b, hb, h2⟩
      obtain ⟨i, h1, rfl⟩ := List.getElem_of_mem hb
      refine ⟨i, Nat.zero_le _, h1, ?_⟩
      have : badB (s.data.toList[i]).toNat = true := by simpa using h2
      exact this
  unfold Lib.idxFunc
  rw [key] at h
  cases ht : textB s
  · rw [decide_eq_true (h.2 ht)]; rfl
  · rw [decide_eq_false (fun e => by rw [h.1 e] at ht; cases ht)]; rfl
/-! ### values -/
def vB (v : Val) : Bool :=
  if v.1 = 1 then v.2.2.toList.isEmpty else if v.1 = 2 then decide (v.2.1 = 0) && decide (v.2.2.size ≤ 30) && textB v.2.2 else if v.1 = 3 then v.2.2.toList.isEmpty && (decide (v.2.1 = 0) || decide (v.2.1 = 1))
  else if v.1 = 4 then v.2.2.toList.isEmpty && decide (-62135596800 ≤ v.2.1) && decide (v.2.1 ≤ 253402300800) else false
def encV (v : Val) : Value := .agg #[.int .i64 v.1, .int .i64 v.2.1, .string v.2.2]
theorem vValid1_c (x : Nat) (w : World) : Calls Tryz.prog 100 #[.int .i32 (x : Int)] w (fun e w' => e = .returned (.bool (badB x)) ∧ w' = w) := by
  unfold badB
  have e1 : decide ((x : Int) < 32) = decide (x < 32) := decide_eq_decide.2 (by omega)
  have e2 : decide ((126 : Int) < (x : Int)) = decide (126 < x) := decide_eq_decide.2 (by omega)
  cases h1 : decide (x < 32) <;> cases h2 : decide (126 < x)
  all_goals
    rw [h1] at e1
    rw [h2] at e2
    go_enter Tryz.func100, Tryz.ntmps100
    go_wp2_with fail
    go_ret
    exact ⟨rfl, rfl⟩
theorem ent_vValid1 : ∀ (args : Array Value) (w : World), Sem.run Tryz.prog (callFunc 100 args) w = .ok (.enter 100 args) w := fun _ _ => by kernel_rfl
theorem iter_alloc (w : World) (s : ByteArray) (p q : Nat) : (w.alloc (.stringIter s p)).iterAt w.heap.size s q = w.alloc (.stringIter s q) := by
  unfold World.iterAt World.alloc
  congr 1
  apply Array.ext_getElem?
  intro i
  rw [Array.getElem?_setIfInBounds]
  by_cases h : w.heap.size = i
  · subst h
    simp
  · rw [if_neg h, Array.getElem?_push, Array.getElem?_push, if_neg (fun e => h e.symm), if_neg (fun e => h e.symm)]
theorem iter_new (w : World) (s : ByteArray) (p : Nat) : (w.alloc (.stringIter s p)).heap[w.heap.size]? = some (.stringIter s p) := by
  unfold World.alloc
  simp only [Array.getElem?_push_size]
theorem strindex_c (s : ByteArray) (w : World) : Calls Tryz.prog 150 #[.string s, .func (.func 100) #[] #[], .bool true] w (Grown w (.int .i64 (Lib.idxFunc badB true s))) := by
  have eg := ent_vValid1
  obtain ⟨R, hR⟩ : ∃ r, r = Lib.idxFunc badB true s := ⟨_, rfl⟩
  rw [← hR]
  have HR := Lib.hid hR
  clear hR
  go_enter Tryz.func150, Tryz.ntmps150
  go_wp2
  go_loopg [] s.size (fun gf wx => ∃ pos : Nat, wx = w.alloc (.stringIter s pos) ∧ Hid (Lib.idxFuncFrom badB true s gf pos = R) ∧ s.size ≤ pos + gf)
  case atStart => exact ⟨0, rfl, Lib.hid (by rw [HR.out]; rfl), by omega⟩
  case round =>
    obtain ⟨pos, hwx, HL, hfu⟩ := hrel
    have hit : wr.heap[w.heap.size]? = some (.stringIter s pos) := by rw [hwx]; exact iter_new w s pos
    by_cases hps : pos < s.size
    · obtain ⟨g', rfl⟩ : ∃ g', gk = g' + 1 := ⟨gk - 1, by omega⟩
      have hnx : ∀ ty, (Instr.next (.pointer (some ⟨w.heap.size, 0, none⟩)) true ty).run Tryz.prog wr = _ := fun ty => Lib.run_next_any_at wr w.heap.size s pos ty hit hps
      have hwd := Lib.width_pos s pos
      have hleft := HL.out
      obtain ⟨r, hr⟩ : ∃ r, (Utf8.decode s pos).1 = r := ⟨_, rfl⟩
      obtain ⟨k, hk⟩ : ∃ k, (Utf8.decode s pos).2 = k := ⟨_, rfl⟩
      simp only [Lib.idxFuncFrom, hps, if_true, hr, hk] at hleft
      rw [hr, hk, hwx, iter_alloc] at hnx
      rw [hk] at hwd
      obtain ⟨W, hW⟩ : ∃ y, y = w.alloc (.stringIter s (pos + k)) := ⟨_, rfl⟩
      rw [← hW] at hnx
      rw [← hwx] at hnx
      have HW := Lib.hid hW
      have cS := vValid1_c r W
      clear hit hwx HL hr hk hW
      cases hb : badB r
      · rw [hb] at cS hleft
        rw [if_neg (by decide)] at hleft
        have HL := Lib.hid hleft
        have CS := Lib.hid cS
        clear cS hleft hb
        go_wp2_with (go_at_fn 100; refine CS.out.mono ?_; rintro e W' ⟨rfl, hW'⟩; subst hW')
        go_roundg g'
        case measure => omega
        case rel => exact ⟨pos + k, HW.out, HL, by omega⟩
      · rw [hb, if_pos rfl] at hleft
        rw [hb] at cS
        have HL := Lib.hid hleft
        have CS := Lib.hid cS
        clear cS hleft hb
        go_wp2_with (go_at_fn 100; refine CS.out.mono ?_; rintro e W' ⟨rfl, hW'⟩; subst hW')
        go_ret
        exact ⟨by rw [← HL.out]; rfl, by rw [HW.out]; exact grown_alloc _ _⟩
    · have hnx : ∀ ty, (Instr.next (.pointer (some ⟨w.heap.size, 0, none⟩)) true ty).run Tryz.prog wr = _ := fun ty => Lib.run_next_end_at wr w.heap.size s pos ty hit hps
      have hleft := HL.out
      rw [Lib.idxFuncFrom_end badB true s gk pos hps] at hleft
      have HL := Lib.hid hleft
      have HX := Lib.hid hwx
      clear hleft hwx hit
      go_wp2
      go_ret
      exact ⟨by rw [← HL.out]; rfl, by rw [HX.out]; exact grown_alloc _ _⟩
theorem strIndex_c (s : ByteArray) (w : World) : Calls Tryz.prog 118 #[.string s, .func (.func 100) #[] #[]] w (Grown w (.int .i64 (Lib.idxFunc badB true s))) := by
  have K := Lib.hid (strindex_c s w)
  generalize Lib.idxFunc badB true s = R at K ⊢
  go_enter Tryz.func118, Tryz.ntmps118
  go_wp2_with fail
  refine K.out.mono ?_
  rintro e w' ⟨rfl, hg⟩
  have Hg := Lib.hid hg
  clear hg
  go_wp2_with fail
  go_ret
  exact ⟨rfl, Hg.out⟩
theorem strContains_c (s : ByteArray) (w : World) : Calls Tryz.prog 99 #[.string s, .func (.func 100) #[] #[]] w (Grown w (.bool (!textB s))) := by
  have K := Lib.hid (strIndex_c s w)
  have hx := idx_text s
  generalize Lib.idxFunc badB true s = R at K hx
  cases ht : textB s
  all_goals
    rw [ht] at hx
    clear ht
    have hx : decide (0 ≤ R) = _ := hx
    go_enter Tryz.func99, Tryz.ntmps99
    go_wp2_with fail
    refine K.out.mono ?_
    rintro e w' ⟨rfl, hg⟩
    have Hg := Lib.hid hg
    clear hg
    go_wp2_with fail
    go_ret
    exact ⟨rfl, Hg.out⟩
set_option maxRecDepth 100000 in
theorem vValid_c (k n : Int) (s : ByteArray) (w : World) : Calls Tryz.prog 69 #[.agg #[.int .i64 k, .int .i64 n, .string s]] w (Grown w (.bool (vB (k, n, s)))) := by
  obtain ⟨W, hW⟩ : ∃ y, y = w.alloc (.cells #[.int .i64 k, .int .i64 n, .string s] 51) := ⟨_, rfl⟩
  have hb : Below w.heap.size w W := by rw [hW]; exact (Below.refl _ _).alloc (Nat.le_refl _) _
  have hT : W.heap[w.heap.size]? = some (.cells #[.int .i64 k, .int .i64 n, .string s] 51 (0, 0)) := by rw [hW]; exact heap_alloc_new w _
  have a0 := blk_get hT 0
  have a1 := blk_get hT 1
  have a2 := blk_get hT 2
  simp at a0 a1 a2
  rw [hW] at a0 a1 a2
  have HW := Lib.hid hW; have Hb := Lib.hid hb; have HT := Lib.hid hT
  have KC := Lib.hid fun X => strContains_c s X
  obtain ⟨R, hR⟩ : ∃ b, b = vB (k, n, s) := ⟨_, rfl⟩
  rw [← hR]
  unfold vB at hR
  simp only at hR
  clear hW hb hT
  by_cases k1 : k = 1
  · rw [if_pos k1] at hR
    have HR := Lib.hid hR
    subst k1
    clear hR
    go_enter Tryz.func69, Tryz.ntmps69
    go_wp2_with fail
    go_ret
    exact ⟨by rw [HR.out]; rfl, grown_alloc _ _⟩
  rw [if_neg k1] at hR
  have e1 : (k == 1) = false := by rw [beq_eq_false_iff_ne]; exact k1
  by_cases k2 : k = 2
  · rw [if_pos k2] at hR
    subst k2
    cases q1 : (n == 0)
    · have q11 : decide (n = 0) = false := by simpa using q1
      have HR : Hid (R = false) := Lib.hid (by rw [hR, q11]; rfl)
      clear hR q11
      go_enter Tryz.func69, Tryz.ntmps69
      go_wp2_with fail
      go_ret
      exact ⟨by rw [HR.out]; rfl, grown_alloc _ _⟩
    · have q11 : decide (n = 0) = true := by simpa using q1
      have q2 : decide ((s.size : Int) ≤ 30) = decide (s.size ≤ 30) := decide_eq_decide.2 (by omega)
      rw [q11] at hR
      obtain rfl : n = 0 := of_decide_eq_true q11
      cases q3 : decide (s.size ≤ 30)
      · rw [q3] at q2 hR
        have HR : Hid (R = false) := Lib.hid (by rw [hR]; rfl)
        clear hR
        go_enter Tryz.func69, Tryz.ntmps69
        go_wp2_with fail
        go_ret
        exact ⟨by rw [HR.out]; rfl, grown_alloc _ _⟩
      · rw [q3] at q2 hR
        have HR : Hid (R = textB s) := Lib.hid (by rw [hR]; simp)
        clear hR
        go_enter Tryz.func69, Tryz.ntmps69
        go_wp2_with fail
        rw [← HW.out]
        refine (KC.out W).mono ?_
        rintro e w2 ⟨rfl, hb2⟩
        have Hb2 := Lib.hid (grown_trans (w1 := W) (by rw [HW.out]; exact grown_alloc _ _) hb2)
        clear hb2
        go_wp2_with fail
        go_ret
        exact ⟨by rw [HR.out]; simp, Hb2.out⟩
  rw [if_neg k2] at hR
  have e2 : (k == 2) = false := by rw [beq_eq_false_iff_ne]; exact k2
  by_cases k3 : k = 3
  · rw [if_pos k3] at hR
    subst k3
    cases q1 : s.toList.isEmpty
    · have HR : Hid (R = false) := Lib.hid (by rw [hR, q1]; rfl)
      clear hR
      go_enter Tryz.func69, Tryz.ntmps69
      go_wp2_with fail
      go_ret
      exact ⟨by rw [HR.out]; rfl, grown_alloc _ _⟩
    · cases q2 : (n == 0)
      · have q22 : decide (n = 0) = false := by simpa using q2
        have HR : Hid (R = (n == 1)) := Lib.hid (by rw [hR, q1, q22]; rfl)
        clear hR q22
        go_enter Tryz.func69, Tryz.ntmps69
        go_wp2_with fail
        go_ret
        exact ⟨by rw [HR.out]; rfl, grown_alloc _ _⟩
      · have q22 : decide (n = 0) = true := by simpa using q2
        have HR : Hid (R = true) := Lib.hid (by rw [hR, q1, q22]; rfl)
        clear hR q22
        go_enter Tryz.func69, Tryz.ntmps69
        go_wp2_with fail
        go_ret
        exact ⟨by rw [HR.out]; rfl, grown_alloc _ _⟩
  rw [if_neg k3] at hR
  have e3 : (k == 3) = false := by rw [beq_eq_false_iff_ne]; exact k3
  by_cases k4 : k = 4
  · rw [if_pos k4] at hR
    subst k4
    cases q1 : s.toList.isEmpty
    · have HR : Hid (R = false) := Lib.hid (by rw [hR, q1]; rfl)
      clear hR
      go_enter Tryz.func69, Tryz.ntmps69
      go_wp2_with fail
      go_ret
      exact ⟨by rw [HR.out]; rfl, grown_alloc _ _⟩
    · cases q2 : decide (-62135596800 ≤ n)
      · have HR : Hid (R = false) := Lib.hid (by rw [hR, q1, q2]; rfl)
        clear hR
        go_enter Tryz.func69, Tryz.ntmps69
        go_wp2_with fail
        go_ret
        exact ⟨by rw [HR.out]; rfl, grown_alloc _ _⟩
      · have HR : Hid (R = decide (n ≤ 253402300800)) := Lib.hid (by rw [hR, q1, q2]; simp)
        clear hR
        go_enter Tryz.func69, Tryz.ntmps69
        go_wp2_with fail
        go_ret
        exact ⟨by rw [HR.out]; rfl, grown_alloc _ _⟩
  · rw [if_neg k4] at hR
    have e4 : (k == 4) = false := by rw [beq_eq_false_iff_ne]; exact k4
    have HR := Lib.hid hR
    clear hR
    go_enter Tryz.func69, Tryz.ntmps69
    go_wp2_with fail
    go_ret
    exact ⟨by rw [HR.out]; rfl, grown_alloc _ _⟩
end Go.Proofs.YtohjgegnamcnlaaGreat

/- Law 39: the orders of values and rows, as the code has them. -/
namespace Go.Proofs.YtohjgegnamcnlaaGreat
open Go.RowKit Go.Shelf
open Go.Sort (grow grow_grow grow_empty)

theorem cmpI_sg (a b : Int) : cmpI a b = sgI a b := rfl
theorem cmpNaNStr_c (s : ByteArray) (w : World) : Calls Tryz.prog 149 #[.string s] w (fun e w' => e = .returned (.bool false) ∧ w' = w) := by
  go_enter Tryz.func149, Tryz.ntmps149
  go_wp2_with fail
  go_ret
  exact ⟨rfl, rfl⟩
theorem cmpCompareStr_c (x y : ByteArray) (w : World) : Calls Tryz.prog 117 #[.string x, .string y] w (fun e w' => e = .returned (.int .i64 (sgS x y)) ∧ w' = w) := by
  have k1 := Lib.hid fun X => cmpNaNStr_c x X
  have k2 := Lib.hid fun X => cmpNaNStr_c y X
  obtain ⟨R, hR⟩ : ∃ r, r = sgS x y := ⟨_, rfl⟩
  rw [← hR]
  unfold sgS bLt at hR
  rw [← ByteArray.toList_eq, ← ByteArray.toList_eq] at hR
  cases h1 : Op.bytesLess x.toList y.toList
  · rw [h1, if_neg (by decide)] at hR
    cases h2 : (x.toList == y.toList)
    · have h3 : Op.bytesLess y.toList x.toList = true := by
        cases h3 : Op.bytesLess y.toList x.toList
        · rw [lt_tri _ _ h1 h3] at h2
          simp at h2
        · rfl
      rw [h3, if_pos rfl] at hR
      have HR := Lib.hid hR
      clear hR h3
      go_enter Tryz.func117, Tryz.ntmps117
      go_wp2_with fail
      refine (k1.out _).mono ?_
      rintro e w1 ⟨rfl, rfl⟩
      go_wp2_with fail
      refine (k2.out _).mono ?_
      rintro e w1 ⟨rfl, rfl⟩
      go_wp2_with fail
      go_ret
      exact ⟨by rw [HR.out]; rfl, rfl⟩
    · have h3 : Op.bytesLess y.toList x.toList = false := by
        rw [← eq_of_beq h2]
        exact lt_irr _
      rw [h3, if_neg (by decide)] at hR
      have HR := Lib.hid hR
      clear hR h3
      go_enter Tryz.func117, Tryz.ntmps117
      go_wp2_with fail
      refine (k1.out _).mono ?_
      rintro e w1 ⟨rfl, rfl⟩
      go_wp2_with fail
      refine (k2.out _).mono ?_
      rintro e w1 ⟨rfl, rfl⟩
      go_wp2_with fail
      go_ret
      exact ⟨by rw [HR.out]; rfl, rfl⟩
  · rw [h1, if_pos rfl] at hR
    have HR := Lib.hid hR
    clear hR
    go_enter Tryz.func117, Tryz.ntmps117
    go_wp2_with fail
    refine (k1.out _).mono ?_
    rintro e w1 ⟨rfl, rfl⟩
    go_wp2_with fail
    refine (k2.out _).mono ?_
    rintro e w1 ⟨rfl, rfl⟩
    go_wp2_with fail
    go_ret
    exact ⟨by rw [HR.out]; rfl, rfl⟩
theorem orL_cmp (a b : Val) : orL [sgI a.1 b.1, sgI a.2.1 b.2.1, sgS a.2.2 b.2.2] = cmpV a b := by
  unfold cmpV lexC
  simp only [orL]
  generalize sgI a.1 b.1 = p
  generalize sgI a.2.1 b.2.1 = q
  generalize sgS a.2.2 b.2.2 = r
  by_cases h1 : p = 0 <;> by_cases h2 : q = 0 <;> by_cases h3 : r = 0 <;> simp [h1, h2, h3]
set_option maxRecDepth 100000 in
set_option maxHeartbeats 4000000 in
theorem vorder_c (x y : Val) (w : World) : Calls Tryz.prog 97 #[encV x, encV y] w (Grown w (.int .i64 (cmpV x y))) := by
  have hr := orL_cmp x y
  obtain ⟨a0, a1, a2⟩ := x
  obtain ⟨b0, b1, b2⟩ := y
  have Hcmp : Hid (∀ x y (W : World), Calls Tryz.prog 116 #[.int .i64 x, .int .i64 y] W (Grown W (.int .i64 (sgI x y)))) := Lib.hid fun x y W => (cmpCompare_c x y W).mono fun _ _ ⟨he, hw⟩ => ⟨he, hw ▸ grown_same W⟩
  have Hcms : Hid (∀ x y (W : World), Calls Tryz.prog 117 #[.string x, .string y] W (Grown W (.int .i64 (sgS x y)))) := Lib.hid fun x y W => (cmpCompareStr_c x y W).mono fun _ _ ⟨he, hw⟩ => ⟨he, hw ▸ grown_same W⟩
  obtain ⟨r, hrr⟩ : ∃ r, r = cmpV (a0, a1, a2) (b0, b1, b2) := ⟨_, rfl⟩
  rw [← hrr] at hr ⊢
  simp only at hr
  have Hr := Lib.hid hr; clear hr hrr
  unfold encV
  obtain ⟨w1, hw1⟩ : ∃ y, y = w.alloc (.cells #[.int .i64 a0, .int .i64 a1, .string a2] 51) := ⟨_, rfl⟩
  obtain ⟨w0, hw0⟩ : ∃ y, y = w1.alloc (.cells #[.int .i64 b0, .int .i64 b1, .string b2] 51) := ⟨_, rfl⟩
  have hz1 : w1.heap.size = w.heap.size + 1 := by rw [hw1, World.size_alloc]
  have T0 : w0.heap[w.heap.size]? = some (.cells #[.int .i64 a0, .int .i64 a1, .string a2] 51 (0, 0)) := by
    rw [hw0]
    exact (((Below.refl _ _).alloc (Nat.le_refl w1.heap.size) _).block _ (by omega)).trans (by rw [hw1]; exact heap_alloc_new w _)
  have T1 : w0.heap[w.heap.size + 1]? = some (.cells #[.int .i64 b0, .int .i64 b1, .string b2] 51 (0, 0)) := by rw [hw0, ← hz1]; exact heap_alloc_new w1 _
  have hgw : ∃ n os, w0 = grow (w.drewN n) os := by
    rw [hw0]
    refine grown_trans (w1 := w1) ?_ (grown_alloc _ _)
    rw [hw1]
    exact grown_alloc _ _
  have x0 := blk_get T0 0
  have x1 := blk_get T0 1
  have x2 := blk_get T0 2
  have y0 := blk_get T1 0
  have y1 := blk_get T1 1
  have y2 := blk_get T1 2
  simp at x0 x1 x2 y0 y1 y2
  have hs0 := blk_lt T0
  have hs1 := blk_lt T1
  have e0 := fun x : GW w0 => gw_cell x x0 hs0
  have e1 := fun x : GW w0 => gw_cell x x1 hs0
  have e2 := fun x : GW w0 => gw_cell x x2 hs0
  have e3 := fun x : GW w0 => gw_cell x y0 hs1
  have e4 := fun x : GW w0 => gw_cell x y1 hs1
  have e5 := fun x : GW w0 => gw_cell x y2 hs1
  have Hw1 := Lib.hid hw1; have Hw0 := Lib.hid hw0; have Hgw := Lib.hid hgw; have Hz1 := Lib.hid hz1
  clear x0 x1 x2 y0 y1 y2 hw1 hw0 hgw T0 T1 hs0 hs1 hz1
  go_enter Tryz.func97, Tryz.ntmps97
  go_wp2_with fail
  rw [← Hw1.out, ← Hw0.out]
  refine wp_region_grown_tail 15 (by kernel_rfl) (by kernel_rfl) ?_
  simp only [List.take_succ_cons, List.take_zero, List.drop_succ_cons, List.drop_zero]
  repeat (go_big_quiet_step (first | (go_at_call 116; exact calls_gw _ (Hcmp.out _ _ _)) | (go_at_call 117; exact calls_gw _ (Hcms.out _ _ _))))
  refine wpQuiet_nil ?_
  rintro w2 ⟨⟨_, hgr⟩, rfl⟩
  have hr2 := Hr.out
  generalize sgI a0 b0 = r1 at *
  generalize sgI a1 b1 = r2 at *
  generalize sgS a2 b2 = r3 at *
  have Hr2 := Lib.hid hr2; clear hr2 Hr e0 e1 e2 e3 e4 e5
  have Hgr := Lib.hid (grown_trans Hgw.out hgr); clear hgr
  go_wp2_with fail
  refine (cmpOr_c _ [r1, r2, r3] _ (ints_lit w2.heap.size [r1, r2, r3] 3 rfl rfl rfl (by omega))).mono ?_
  rintro e w3 ⟨rfl, rfl⟩
  go_wp2
  go_ret
  exact ⟨ret_int (by rw [Hr2.out]), grown_trans Hgr.out (grown_alloc _ _)⟩
/-! ### rows in memory -/
def va (r : VRow) (i : Nat) : Val := r.getD i (0, 0, ⟨#[]⟩)
def valCell (r : VRow) (i j : Nat) : Value := if j = 0 then .int .i64 (va r i).1 else if j = 1 then .int .i64 (va r i).2.1 else .string (va r i).2.2
def IsVals (w : World) (v : Value) (r : VRow) : Prop := RowsIn w v r.length 3 (valCell r)
theorem va_at {r : VRow} {i : Nat} (h : i < r.length) : r[i] = va r i := by simp [va, h]
theorem va_mem {r : VRow} {i : Nat} (h : i < r.length) : va r i ∈ r := by rw [← va_at h]; exact List.getElem_mem h
section
variable {w w' : World} {v : Value} {r : VRow} {A : Option Addr} {b off c : Nat}
theorem IsVals.below (h : IsVals w v r) (hb : Below w.heap.size w w') : IsVals w' v r := RowsIn.below h hb
theorem IsVals.form (h : IsVals w v r) : ∃ A c, v = .slice A r.length c ∧ r.length ≤ c ∧ c ≤ 9223372036854775807 := RowsIn.form h
theorem IsVals.addr (h : IsVals w (.slice A r.length c) r) (hn : 0 < r.length) : ∃ b off, A = some ⟨b, off, none⟩ ∧ b < w.heap.size := RowsIn.addr h hn
theorem IsVals.c0 (h : IsVals w (.slice (some ⟨b, off, none⟩) r.length c) r) (i : Nat) (hi : i < r.length) : w.cell? ⟨b, off + i * 3, none⟩ = some (.int .i64 (va r i).1) := RowsIn.cells h i 0 hi (by omega)
theorem IsVals.c1 (h : IsVals w (.slice (some ⟨b, off, none⟩) r.length c) r) (i : Nat) (hi : i < r.length) : w.cell? ⟨b, off + i * 3 + 1, none⟩ = some (.int .i64 (va r i).2.1) := RowsIn.cells h i 1 hi (by omega)
theorem IsVals.c2 (h : IsVals w (.slice (some ⟨b, off, none⟩) r.length c) r) (i : Nat) (hi : i < r.length) : w.cell? ⟨b, off + i * 3 + 2, none⟩ = some (.string (va r i).2.2) := RowsIn.cells h i 2 hi (by omega)
theorem IsVals.nil : IsVals w (.slice none 0 0) [] := RowsIn.nil
end
/-! ### are all values of a row valid -/
def badV (v : Val) : Bool := !vB v
theorem vall1_c (k n : Int) (s : ByteArray) (w : World) : Calls Tryz.prog 129 #[.agg #[.int .i64 k, .int .i64 n, .string s]] w (Grown w (.bool (badV (k, n, s)))) := by
  obtain ⟨W, hW⟩ : ∃ y, y = w.alloc (.cells #[.int .i64 k, .int .i64 n, .string s] 51) := ⟨_, rfl⟩
  have hT : W.heap[w.heap.size]? = some (.cells #[.int .i64 k, .int .i64 n, .string s] 51 (0, 0)) := by rw [hW]; exact heap_alloc_new w _
  have a0 := blk_get hT 0
  have a1 := blk_get hT 1
  have a2 := blk_get hT 2
  simp at a0 a1 a2
  rw [hW] at a0 a1 a2
  have HW := Lib.hid hW
  have KV := Lib.hid (vValid_c k n s W)
  unfold badV
  clear hW hT
  cases hv : vB (k, n, s)
  all_goals
    rw [hv] at KV
    clear hv
    go_enter Tryz.func129, Tryz.ntmps129
    go_wp2_with fail
    rw [← HW.out]
    refine KV.out.mono ?_
    rintro e w2 ⟨rfl, hg⟩
    have Hg := Lib.hid (grown_trans (w1 := W) (by rw [HW.out]; exact grown_alloc _ _) hg)
    clear hg
    go_wp2_with fail
    go_ret
    exact ⟨rfl, Hg.out⟩
theorem ent_vall1 : ∀ (args : Array Value) (w : World), Sem.run Tryz.prog (callFunc 129 args) w = .ok (.enter 129 args) w := fun _ _ => by kernel_rfl
def IdxVal (l : VRow) (r : Int) : Prop := (r = -1 ∧ l.any badV = false) ∨ ∃ i : Nat, r = i ∧ l.any badV = true
def IdxValRet (l : VRow) (w : World) (e : Ending) (w' : World) : Prop := ∃ r, IdxVal l r ∧ e = .returned (.int .i64 r) ∧ ∃ n os, w' = grow (w.drewN n) os
theorem anyV_yes {l : VRow} {i : Nat} (hi : i < l.length) (h : badV (va l i) = true) : l.any badV = true := List.any_eq_true.2 ⟨_, va_mem hi, h⟩
theorem anyV_no {l : VRow} (h : ∀ i, i < l.length → badV (va l i) = false) : l.any badV = false := by
  rw [List.any_eq_false]
  intro x hx
  obtain ⟨i, hi, rfl⟩ := List.getElem_of_mem hx
  rw [va_at hi, h i hi]
  decide
theorem gw_below {w w' : World} (h : ∃ n os, w' = grow (w.drewN n) os) : Below w.heap.size w w' := by
  obtain ⟨n, os, rfl⟩ := h
  exact below_grow _ _ _
set_option maxRecDepth 100000 in
theorem slIndexValue_c (v : Value) (l : VRow) (w : World) (hs : IsVals w v l) : Calls Tryz.prog 68 #[v, .func (.func 129) #[] #[]] w (IdxValRet l w) := by
  have eg := ent_vall1
  obtain ⟨A, c, rfl, hnc, hc⟩ := hs.form
  go_enter Tryz.func68, Tryz.ntmps68
  go_wp2
  go_loopw [8] (fun i wr => ∃ k : Nat, i = .int .i64 k ∧ k ≤ l.length ∧ Hid (∀ j, j < k → badV (va l j) = false) ∧ ∃ n os, wr = grow (w.drewN n) os) (fun i _ => l.length - (intOf i).toNat)
  case atStart => exact ⟨0, rfl, Nat.zero_le _, Lib.hid (fun j hj => absurd hj (by omega)), grown_same _⟩
  case round =>
    obtain ⟨k, rfl, hk, HA, hg⟩ := hrel
    have Hg := Lib.hid hg
    have hb := gw_below hg
    clear hg
    by_cases hlt : k < l.length
    · obtain ⟨b, off, rfl, hbk⟩ := hs.addr (by omega)
      have c0 := (hs.below hb).c0 k hlt
      have c1 := (hs.below hb).c1 k hlt
      have c2 := (hs.below hb).c2 k hlt
      have hcall := vall1_c (va l k).1 (va l k).2.1 (va l k).2.2 wr
      have hfd : badV (va l k) = true → IdxVal l (k : Int) := fun h => .inr ⟨k, rfl, anyV_yes hlt h⟩
      have hst : badV (va l k) = false → ∀ j, j < k + 1 → badV (va l j) = false := fun h j hj => by
        rcases Nat.eq_or_lt_of_le (show j ≤ k by omega) with e | e
        · rw [e]; exact h
        · exact HA.out j e
      have ee : ((va l k).1, (va l k).2.1, (va l k).2.2) = va l k := rfl
      rw [ee] at hcall
      generalize badV (va l k) = z at hcall hfd hst
      have Hlt := Lib.hid hlt
      clear ee hb hbk
      cases z
      · have Hcall := Lib.hid hcall
        have Hst := Lib.hid (hst rfl)
        clear hcall hst hfd
        go_wp2_with fail
        refine Hcall.out.mono ?_
        rintro e w2 ⟨rfl, hg2⟩
        have Hg3 := Lib.hid (grown_trans Hg.out hg2)
        clear hg2
        go_wp2
        go_roundw
        case rel => exact ⟨k + 1, by go_num, Hlt.out, Hst, Hg3.out⟩
        case measure => have := Hlt.out; simp [intOf]; omega
      · have Hcall := Lib.hid hcall
        have Hfd := Lib.hid (hfd rfl)
        clear hcall hst hfd
        go_wp2_with fail
        refine Hcall.out.mono ?_
        rintro e w2 ⟨rfl, hg2⟩
        have Hg3 := Lib.hid (grown_trans Hg.out hg2)
        clear hg2
        go_wp2
        go_ret
        exact ⟨_, Hfd.out, rfl, Hg3.out⟩
    · obtain rfl : k = l.length := by omega
      have Hr : Hid (IdxVal l (-1)) := Lib.hid (.inl ⟨rfl, anyV_no HA.out⟩)
      clear HA
      go_wp2
      go_ret
      exact ⟨_, Hr.out, rfl, Hg.out⟩
theorem slContainsValue_c (v : Value) (l : VRow) (w : World) (hs : IsVals w v l) : Calls Tryz.prog 28 #[v, .func (.func 129) #[] #[]] w (Grown w (.bool (l.any badV))) := by
  have K := Lib.hid (slIndexValue_c v l w hs)
  obtain ⟨A, c, rfl, _, _⟩ := hs.form
  clear hs
  cases q : l.any badV
  all_goals
    have Q := Lib.hid q; clear q
    go_enter Tryz.func28, Tryz.ntmps28
    go_wp2_with fail
    refine K.out.mono ?_
    rintro e w1 ⟨r, hr, rfl, hb⟩
    rcases hr with ⟨rfl, h⟩ | ⟨i, rfl, h⟩
    all_goals first
      | exact absurd (h.symm.trans Q.out) (by decide)
      | (have i0 : decide ((0 : Int) ≤ (i : Int)) = true := decide_eq_true (by omega)
         have Hb := Lib.hid hb
         clear h hb
         go_wp2_with fail
         go_ret
         exact ⟨rfl, Hb.out⟩)
      | (have Hb := Lib.hid hb
         clear h hb
         go_wp2_with fail
         go_ret
         exact ⟨rfl, Hb.out⟩)
def rowB (r : VRow) : Bool := r.all vB
theorem any_bad (r : VRow) : (!r.any badV) = rowB r := by
  unfold rowB badV
  induction r with
  | nil => rfl
  | cons a r ih => simp only [List.any_cons, List.all_cons, Bool.not_or, Bool.not_not, ih]
theorem vall_c (v : Value) (l : VRow) (w : World) (hs : IsVals w v l) : Calls Tryz.prog 103 #[v] w (Grown w (.bool (rowB l))) := by
  have K := Lib.hid (slContainsValue_c v l w hs)
  obtain ⟨A, c, rfl, _, _⟩ := hs.form
  rw [← any_bad]
  clear hs
  generalize l.any badV = z at K ⊢
  cases z
  all_goals
    go_enter Tryz.func103, Tryz.ntmps103
    go_wp2_with fail
    refine K.out.mono ?_
    rintro e w1 ⟨rfl, hb⟩
    have Hb := Lib.hid hb
    clear hb
    go_wp2_with fail
    go_ret
    exact ⟨rfl, Hb.out⟩
set_option maxRecDepth 100000 in
theorem vCompare_c (x y : Val) (w : World) : Calls Tryz.prog 65 #[encV x, encV y] w (Grown w (.int .i64 (if vB x && vB y then cmpV x y else 0))) := by
  have Ko := Lib.hid fun X => vorder_c x y X
  have K1 := Lib.hid fun X => vValid_c x.1 x.2.1 x.2.2 X
  have K2 := Lib.hid fun X => vValid_c y.1 y.2.1 y.2.2 X
  have ex : (x.1, x.2.1, x.2.2) = x := rfl
  have ey : (y.1, y.2.1, y.2.2) = y := rfl
  rw [ex] at K1
  rw [ey] at K2
  clear ex ey
  obtain ⟨R, hR⟩ : ∃ r, r = (if vB x && vB y then cmpV x y else 0) := ⟨_, rfl⟩
  rw [← hR]
  generalize vB x = bx at K1 hR
  generalize vB y = by_ at K2 hR
  generalize cmpV x y = cr at Ko hR
  obtain ⟨a0, a1, a2⟩ := x
  obtain ⟨b0, b1, b2⟩ := y
  unfold encV at Ko ⊢
  simp only at Ko K1 K2 ⊢
  have HR := Lib.hid hR
  obtain ⟨w1, hw1⟩ : ∃ y, y = w.alloc (.cells #[.int .i64 a0, .int .i64 a1, .string a2] 51) := ⟨_, rfl⟩
  obtain ⟨w0, hw0⟩ : ∃ y, y = w1.alloc (.cells #[.int .i64 b0, .int .i64 b1, .string b2] 51) := ⟨_, rfl⟩
  have hz1 : w1.heap.size = w.heap.size + 1 := by rw [hw1, World.size_alloc]
  have T0 : w0.heap[w.heap.size]? = some (.cells #[.int .i64 a0, .int .i64 a1, .string a2] 51 (0, 0)) := by
    rw [hw0]
    exact (((Below.refl _ _).alloc (Nat.le_refl w1.heap.size) _).block _ (by omega)).trans (by rw [hw1]; exact heap_alloc_new w _)
  have T1 : w0.heap[w.heap.size + 1]? = some (.cells #[.int .i64 b0, .int .i64 b1, .string b2] 51 (0, 0)) := by rw [hw0, ← hz1]; exact heap_alloc_new w1 _
  have hgw : ∃ n os, w0 = grow (w.drewN n) os := by
    rw [hw0]
    refine grown_trans (w1 := w1) ?_ (grown_alloc _ _)
    rw [hw1]
    exact grown_alloc _ _
  have FC : Hid (∀ X, Below w0.heap.size w0 X → X.cell? ⟨w.heap.size, 0, none⟩ = some (.int .i64 a0) ∧ X.cell? ⟨w.heap.size, 1, none⟩ = some (.int .i64 a1) ∧ X.cell? ⟨w.heap.size, 2, none⟩ = some (.string a2) ∧ X.cell? ⟨w.heap.size + 1, 0, none⟩ = some (.int .i64 b0) ∧ X.cell? ⟨w.heap.size + 1, 1, none⟩ = some (.int .i64 b1) ∧ X.cell? ⟨w.heap.size + 1, 2, none⟩ = some (.string b2)) := Lib.hid fun X h => by
    have h0 := (h.block _ (blk_lt T0)).trans T0
    have h1 := (h.block _ (blk_lt T1)).trans T1
    have x0 := blk_get h0 0
    have x1 := blk_get h0 1
    have x2 := blk_get h0 2
    have y0 := blk_get h1 0
    have y1 := blk_get h1 1
    have y2 := blk_get h1 2
    simp at x0 x1 x2 y0 y1 y2
    exact ⟨x0, x1, x2, y0, y1, y2⟩
  have Hw1 := Lib.hid hw1; have Hw0 := Lib.hid hw0; have Hgw := Lib.hid hgw
  obtain ⟨x0, x1, x2, y0, y1, y2⟩ := FC.out w0 (Below.refl _ _)
  rw [hw0, hw1] at x0 x1 x2
  clear hw1 hw0 hgw T0 T1 hz1 hR y0 y1 y2
  cases bx
  · go_enter Tryz.func65, Tryz.ntmps65
    go_wp2_with fail
    rw [← Hw1.out, ← Hw0.out]
    refine (K1.out _).mono ?_
    rintro e w2 ⟨rfl, hg2⟩
    have Hg2 := Lib.hid (grown_trans Hgw.out hg2)
    clear hg2 x0 x1 x2
    go_wp2_with fail
    go_ret
    exact ⟨by rw [HR.out]; rfl, Hg2.out⟩
  · go_enter Tryz.func65, Tryz.ntmps65
    go_wp2_with fail
    rw [← Hw1.out, ← Hw0.out]
    refine (K1.out _).mono ?_
    rintro e w2 ⟨rfl, hg2⟩
    clear x0 x1 x2
    obtain ⟨x0, x1, x2, y0, y1, y2⟩ := FC.out w2 (gw_below hg2)
    have Hg2 := Lib.hid hg2
    clear hg2
    go_wp2_with fail
    refine (K2.out _).mono ?_
    rintro e w3 ⟨rfl, hg3⟩
    clear x0 x1 x2 y0 y1 y2
    obtain ⟨x0, x1, x2, y0, y1, y2⟩ := FC.out w3 (gw_below (grown_trans Hg2.out hg3))
    have Hg3 := Lib.hid (grown_trans Hgw.out (grown_trans Hg2.out hg3))
    clear hg3
    cases by_
    · go_wp2_with fail
      go_ret
      exact ⟨by rw [HR.out]; rfl, Hg3.out⟩
    · go_wp2_with fail
      refine (Ko.out _).mono ?_
      rintro e w4 ⟨rfl, hg4⟩
      have Hg4 := Lib.hid (grown_trans Hg3.out hg4)
      clear hg4
      go_wp2_with fail
      go_ret
      exact ⟨by rw [HR.out]; rfl, Hg4.out⟩
/-! ### the order of rows -/
theorem ent_vorder : ∀ (args : Array Value) (w : World), Sem.run Tryz.prog (callFunc 97 args) w = .ok (.enter 97 args) w := fun _ _ => by kernel_rfl
theorem drop_va {r : VRow} {k : Nat} (h : k < r.length) : r.drop k = va r k :: r.drop (k + 1) := by rw [List.drop_eq_getElem_cons h, va_at h]
theorem cmp_hit {a b : VRow} {k : Nat} (ha : k < a.length) (hb : k < b.length) (h : cmpV (va a k) (va b k) ≠ 0) : cmpL cmpV (a.drop k) (b.drop k) = cmpV (va a k) (va b k) := by
  rw [drop_va ha, drop_va hb]
  unfold cmpL
  rw [if_pos h]
theorem cmp_skip {a b : VRow} {k : Nat} (ha : k < a.length) (hb : k < b.length) (h : cmpV (va a k) (va b k) = 0) : cmpL cmpV (a.drop k) (b.drop k) = cmpL cmpV (a.drop (k + 1)) (b.drop (k + 1)) := by
  rw [drop_va ha, drop_va hb]
  conv => lhs; unfold cmpL
  rw [if_neg (by omega)]
set_option maxRecDepth 100000 in
theorem slCompareFuncV_c (v1 v2 : Value) (a b : VRow) (w : World) (h1 : IsVals w v1 a) (h2 : IsVals w v2 b) : Calls Tryz.prog 105 #[v1, v2, .func (.func 97) #[] #[]] w (Grown w (.int .i64 (cmpR a b))) := by
  have eg := ent_vorder
  obtain ⟨A1, c1, rfl, hn1, hc1⟩ := h1.form
  obtain ⟨A2, c2, rfl, hn2, hc2⟩ := h2.form
  obtain ⟨R, hR⟩ : ∃ r, r = cmpR a b := ⟨_, rfl⟩
  rw [← hR]
  unfold cmpR at hR
  have HR := Lib.hid hR
  clear hR
  go_enter Tryz.func105, Tryz.ntmps105
  go_wp2
  go_loopw [13] (fun i wr => ∃ k : Nat, i = .int .i64 k ∧ k ≤ a.length ∧ k ≤ b.length ∧ Hid (R = cmpL cmpV (a.drop k) (b.drop k)) ∧ ∃ n os, wr = grow (w.drewN n) os) (fun i _ => a.length - (intOf i).toNat)
  case atStart => exact ⟨0, rfl, Nat.zero_le _, Nat.zero_le _, Lib.hid (by simpa using HR.out), grown_same _⟩
  case round =>
    obtain ⟨k, rfl, hk, hk2, HA, hg⟩ := hrel
    have Hg := Lib.hid hg
    have hb := gw_below hg
    clear hg
    by_cases hlt : k < a.length
    · obtain ⟨b1, o1, rfl, hbk1⟩ := h1.addr (by omega)
      have x0 := (h1.below hb).c0 k hlt
      have x1 := (h1.below hb).c1 k hlt
      have x2 := (h1.below hb).c2 k hlt
      by_cases hlt2 : k < b.length
      · obtain ⟨b2, o2, rfl, hbk2⟩ := h2.addr (by omega)
        have hst : cmpV (va a k) (va b k) = 0 → R = cmpL cmpV (a.drop (k + 1)) (b.drop (k + 1)) := fun h => by rw [HA.out, cmp_skip hlt hlt2 h]
        have hfd : cmpV (va a k) (va b k) ≠ 0 → cmpV (va a k) (va b k) = R := fun h => by rw [HA.out, cmp_hit hlt hlt2 h]
        have K := fun X => vorder_c (va a k) (va b k) X
        generalize cmpV (va a k) (va b k) = z at K hst hfd
        unfold encV at K
        have HK := Lib.hid K; have Hst := Lib.hid hst; have Hfd := Lib.hid hfd; have Hlt := Lib.hid hlt; have Hlt2 := Lib.hid hlt2
        have HX : Hid (∀ X, Below wr.heap.size wr X → X.cell? ⟨b2, o2 + k * 3, none⟩ = some (.int .i64 (va b k).1) ∧ X.cell? ⟨b2, o2 + k * 3 + 1, none⟩ = some (.int .i64 (va b k).2.1) ∧ X.cell? ⟨b2, o2 + k * 3 + 2, none⟩ = some (.string (va b k).2.2)) := Lib.hid fun X hX =>
          ⟨((h2.below hb).below hX).c0 k hlt2, ((h2.below hb).below hX).c1 k hlt2, ((h2.below hb).below hX).c2 k hlt2⟩
        obtain ⟨y0, y1, y2⟩ := HX.out (wr.alloc (.cells #[.int .i64 (va a k).1, .int .i64 (va a k).2.1, .string (va a k).2.2] 51)) ((Below.refl _ _).alloc (Nat.le_refl _) _)
        clear K hst hfd HA hbk1 hbk2 hb
        go_wp2_with fail
        refine (HK.out _).mono ?_
        rintro e w2 ⟨rfl, hg2⟩
        have Hg3 := Lib.hid (grown_trans (grown_trans Hg.out (grown_trans (grown_alloc _ _) (grown_alloc _ _))) hg2)
        clear hg2 x0 x1 x2 y0 y1 y2
        cases hz : (z == 0)
        · have Hz := Lib.hid (Hfd.out (fun e => by rw [e] at hz; exact absurd hz (by decide)))
          go_wp2_with fail
          go_ret
          exact ⟨by rw [← Hz.out]; rfl, Hg3.out⟩
        · have Hz := Lib.hid (Hst.out (eq_of_beq hz))
          go_wp2_with fail
          go_roundw
          case rel => exact ⟨k + 1, by go_num, Hlt.out, Hlt2.out, Hz, Hg3.out⟩
          case measure => have := Hlt.out; simp [intOf]; omega
      · obtain rfl : k = b.length := by omega
        have HZ : Hid (R = 1) := Lib.hid (by
          rw [HA.out, drop_va hlt, List.drop_length]
          rfl)
        clear HA hb
        go_wp2_with fail
        go_ret
        exact ⟨by rw [HZ.out]; rfl, grown_trans Hg.out (grown_alloc _ _)⟩
    · obtain rfl : k = a.length := by omega
      have HZ : Hid (R = cmpL cmpV [] (b.drop a.length)) := Lib.hid (by rw [HA.out, List.drop_length])
      clear HA hb
      cases q : decide ((a.length : Int) < (b.length : Int))
      · have HZ : Hid (R = 0) := Lib.hid (by
          have := of_decide_eq_false q
          rw [HZ.out, List.drop_eq_nil_of_le (by omega)]
          rfl)
        have q2 : decide (a.length < b.length) = false := decide_eq_false (by have := of_decide_eq_false q; omega)
        go_wp2_with fail
        go_ret
        exact ⟨by rw [HZ.out]; rfl, Hg.out⟩
      · have HZ : Hid (R = -1) := Lib.hid (by
          have := of_decide_eq_true q
          rw [HZ.out, drop_va (show a.length < b.length by omega)]
          rfl)
        have q2 : decide (a.length < b.length) = true := decide_eq_true (by have := of_decide_eq_true q; omega)
        go_wp2_with fail
        go_ret
        exact ⟨by rw [HZ.out]; rfl, Hg.out⟩
def ordR_ (a b : VRow) : Int := if rowB a && rowB b then cmpR a b else 0
set_option maxRecDepth 100000 in
theorem vOrder_c (v1 v2 : Value) (a b : VRow) (w : World) (h1 : IsVals w v1 a) (h2 : IsVals w v2 b) : Calls Tryz.prog 77 #[v1, v2] w (Grown w (.int .i64 (ordR_ a b))) := by
  have K1 := Lib.hid (vall_c v1 a w h1)
  have K2 : Hid (∀ X, Below w.heap.size w X → Calls Tryz.prog 103 #[v2] X (Grown X (.bool (rowB b)))) := Lib.hid fun X hX => vall_c v2 b X (h2.below hX)
  have K3 : Hid (∀ X, Below w.heap.size w X → Calls Tryz.prog 105 #[v1, v2, .func (.func 97) #[] #[]] X (Grown X (.int .i64 (cmpR a b)))) := Lib.hid fun X hX => slCompareFuncV_c v1 v2 a b X (h1.below hX) (h2.below hX)
  obtain ⟨A1, c1, rfl, hn1, hc1⟩ := h1.form
  obtain ⟨A2, c2, rfl, hn2, hc2⟩ := h2.form
  obtain ⟨R, hR⟩ : ∃ r, r = ordR_ a b := ⟨_, rfl⟩
  rw [← hR]
  unfold ordR_ at hR
  generalize rowB a = x at K1 hR
  generalize rowB b = y at K2 hR
  generalize cmpR a b = z at K3 hR
  have HR := Lib.hid hR
  clear hR h1 h2 hn1 hc1 hn2 hc2
  cases x
  · go_enter Tryz.func77, Tryz.ntmps77
    go_wp2_with fail
    refine K1.out.mono ?_
    rintro e w1 ⟨rfl, hg⟩
    have Hg := Lib.hid hg
    clear hg
    go_wp2_with fail
    go_ret
    exact ⟨by rw [HR.out]; rfl, Hg.out⟩
  · go_enter Tryz.func77, Tryz.ntmps77
    go_wp2_with fail
    refine K1.out.mono ?_
    rintro e w1 ⟨rfl, hg⟩
    have Hg := Lib.hid hg
    clear hg
    go_wp2_with fail
    refine (K2.out _ (gw_below Hg.out)).mono ?_
    rintro e w2 ⟨rfl, hg⟩
    have Hg2 := Lib.hid (grown_trans Hg.out hg)
    clear hg
    cases y
    · go_wp2_with fail
      go_ret
      exact ⟨by rw [HR.out]; rfl, Hg2.out⟩
    · go_wp2_with fail
      refine (K3.out _ (gw_below Hg2.out)).mono ?_
      rintro e w3 ⟨rfl, hg⟩
      have Hg3 := Lib.hid (grown_trans Hg2.out hg)
      clear hg
      go_wp2_with fail
      go_ret
      exact ⟨by rw [HR.out]; rfl, Hg3.out⟩
end Go.Proofs.YtohjgegnamcnlaaGreat

/- Law 39: the encoding of a row; appends of one element of any kind. -/
namespace Go.Proofs.YtohjgegnamcnlaaGreat
open Go.RowKit Go.Shelf
open Go.Sort (grow grow_grow grow_empty)

/-- append(own, x): x of any kind, its cells in the block just built. -/
theorem append1 {P : Program} {tS tE : TypeId} {z : Value} {size bytes : Nat} (hS : P.underlying tS = some (.slice tE)) (hE : (P.info? tE).map (fun i => (i.zero, i.size, i.bytes)) = some (some z, size, bytes))
    (hz : z.cells.size = size) (hsz : 0 < size) (hby : bytes ≤ 64)
    {ops : Array Oper} {rest : List Oper} {o : Oper} {a : Act} {Q : Exit → Act → World → Prop} (hgd : o.guard = none) (s x : Operand)
    (ho : o.op = .call { callee := .builtin .append, args := #[s, x], argTypes := #[tS, tS] })
    {w : World} {cs : Array Value} {t : TypeId} (base : Nat) (v : Value) (n : Nat) (xs news : List Value) (hs : a.eval s = v) (hown : w.ownsRow base tE size v n xs)
    {b : Nat} (hx : a.eval x = .slice (some ⟨b, 0, none⟩) 1 1) (hb0 : w.heap.size = b) (hcs : cs.toList = news) (hl : news.length = size) (h1 : ∀ u ∈ news, u.oneCell' = true) (hlen : n < 900000000) (hbase : base ≤ w.heap.size)
    (h : ∀ v' w', w'.ownsRow base tE size v' (n + 1) (xs ++ news) → Below base w w' → (∀ k, k < w.heap.size → v.ownBlock ≠ some k → w'.heap[k]? = w.heap[k]?) → (v'.ownBlock = v.ownBlock ∨ v'.ownBlock = some (w.heap.size + 1)) → wpList P ops Q rest (a.put o.dst v') w') :
    wpList P ops Q (o :: rest) a (w.alloc (.cells cs t)) := by
  subst hb0
  obtain ⟨i, hi, hzz, hss, hbb⟩ := info_parts hE
  have hbb2 : (n + 1) * bytes ≤ 140737488355328 := Nat.le_trans (Nat.mul_le_mul_left _ hby) (by omega)
  refine wpList_append_own_at (w.alloc (.cells cs t)) hgd s x tS ho base tE i z size bytes hS hi hzz hss hbb hz hsz v n xs hs (hown.alloc _) ⟨w.heap.size, 0, none⟩ 1 1 news hx (by omega) ?_ h1 (by unfold maxLen; omega) hbb2 (by simp; omega) ?_
  · intro j u hu
    have e2 : (⟨w.heap.size, 0, none⟩ : Addr).add j = ⟨w.heap.size, j, none⟩ := by rw [Addr.add_lit, Nat.zero_add]
    rw [e2, blk_get (heap_alloc_new w _), ← hu, ← hcs, Array.getElem?_toList]
  · intro v' w' hown' hg _ hb
    rw [World.size_alloc] at hb
    have hblk : ∀ k, k < w.heap.size → v.ownBlock ≠ some k → w'.heap[k]? = w.heap[k]? := fun k hk hne => by
      rw [hg.block k (by rw [World.size_alloc]; omega) (fun e => hne e.symm)]
      exact ((Below.refl w.heap.size w).alloc (Nat.le_refl _) _).block k hk
    refine h v' w' hown' ?_ hblk hb
    refine ((Below.refl base w).alloc hbase (.cells cs t)).grown hg (by simp; omega) ?_
    intro k hk
    exact (hown.lt k hk).1
/-! ### bytes as numbers -/
def kX (n : Int) : Int := bits .xor .u64 (IntKind.u64.wrap n) 9223372036854775808
def enc1 (n : Int) (k : Nat) : Int := kX n / 2 ^ (56 - 8 * k) % 256
def enc8 (n : Int) : List Int := (List.range 8).map (enc1 n)
def sNums (s : ByteArray) : List Int := s.data.toList.map fun b => (b.toNat : Int)
def numsV (v : Val) : List Int := v.1 :: (if v.1 = 2 then sNums v.2.2 ++ [0] else if v.1 = 3 then [v.2.1] else enc8 v.2.1)
def numsR (r : VRow) : List Int := r.flatMap numsV
def encR (r : VRow) : ByteArray := strOfNums (numsR r)
def I64 (v : Val) : Prop := -9223372036854775808 ≤ v.2.1 ∧ v.2.1 ≤ 9223372036854775807
theorem kX_eq (n : Int) : ∃ m : Nat, kX n = (m : Int) ∧ m < 18446744073709551616 ∧ m = (n % 18446744073709551616).toNat ^^^ 9223372036854775808 := by
  have h0 : 0 ≤ n % 18446744073709551616 := by omega
  have h1 : n % 18446744073709551616 < 18446744073709551616 := by omega
  refine ⟨_, ?_, ?_, rfl⟩
  · unfold kX
    rw [IntKind.wrap_u64, u64_xor _ _ h0 h1 (by omega) (by omega)]
    rfl
  · exact Nat.xor_lt_two_pow (n := 64) (by omega) (by omega)
theorem kX_inj {a b : Int} (ha : -9223372036854775808 ≤ a ∧ a ≤ 9223372036854775807) (hb : -9223372036854775808 ≤ b ∧ b ≤ 9223372036854775807) (h : kX a = kX b) : a = b := by
  obtain ⟨m, h1, _, h3⟩ := kX_eq a
  obtain ⟨m2, k1, _, k3⟩ := kX_eq b
  have e : m = m2 := by omega
  rw [h3, k3] at e
  have can : ∀ x y : Nat, (x ^^^ y) ^^^ y = x := fun x y => by rw [Nat.xor_assoc, Nat.xor_self, Nat.xor_zero]
  have e2 := congrArg (fun x : Nat => x ^^^ 9223372036854775808) e
  rw [can, can] at e2
  omega
theorem enc1_nat (n : Int) (k : Nat) (hk : k < 8) : ∃ m : Nat, kX n = (m : Int) ∧ m < 18446744073709551616 ∧ enc1 n k = ((m / 256 ^ (7 - k) % 256 : Nat) : Int) := by
  obtain ⟨m, h1, h2, _⟩ := kX_eq n
  refine ⟨m, h1, h2, ?_⟩
  unfold enc1
  rw [h1]
  have e : 56 - 8 * k = 8 * (7 - k) := by omega
  rw [e]
  have e2 : ((2 : Int) ^ (8 * (7 - k))) = ((256 ^ (7 - k) : Nat) : Int) := by
    rw [Int.pow_mul, Int.natCast_pow]
    rfl
  rw [e2, ← Int.natCast_ediv]
  rfl
theorem enc1_rng (n : Int) (k : Nat) : 0 ≤ enc1 n k ∧ enc1 n k < 256 := by
  unfold enc1
  omega
theorem digits_eq {a b : Nat} : ∀ n, (∀ k, k < n → a / 256 ^ k % 256 = b / 256 ^ k % 256) → a % 256 ^ n = b % 256 ^ n
  | 0, _ => by simp [Nat.mod_one]
  | n + 1, h => by
    rw [Nat.pow_succ, Nat.mod_mul, Nat.mod_mul, digits_eq n fun k hk => h k (by omega), h n (by omega)]
theorem enc8_inj {a b : Int} (ha : -9223372036854775808 ≤ a ∧ a ≤ 9223372036854775807) (hb : -9223372036854775808 ≤ b ∧ b ≤ 9223372036854775807) (h : enc8 a = enc8 b) : a = b := by
  refine kX_inj ha hb ?_
  obtain ⟨m, h1, h2, _⟩ := kX_eq a
  obtain ⟨m2, k1, k2, _⟩ := kX_eq b
  have key : ∀ k, k < 8 → m / 256 ^ k % 256 = m2 / 256 ^ k % 256 := fun k hk => by
    obtain ⟨q, e1, _, e2⟩ := enc1_nat a (7 - k) (by omega)
    obtain ⟨q2, f1, _, f2⟩ := enc1_nat b (7 - k) (by omega)
    obtain rfl : q = m := by omega
    obtain rfl : q2 = m2 := by omega
    have e : enc1 a (7 - k) = enc1 b (7 - k) := by
      have := congrArg (fun l : List Int => l[7 - k]?) h
      simpa [enc8, show 7 - k < 8 by omega] using this
    rw [e2, f2, show 7 - (7 - k) = k by omega] at e
    exact_mod_cast e
  have := digits_eq 8 key
  omega
/-! ### the encoding tells valid values apart -/
def okV (v : Val) : Prop := vB v = true ∧ I64 v
def okR (r : VRow) : Prop := ∀ v ∈ r, okV v
theorem vB_kind {v : Val} (h : vB v = true) : (v.1 = 1 ∧ v.2.2 = ⟨#[]⟩) ∨ (v.1 = 2 ∧ v.2.1 = 0 ∧ v.2.2.size ≤ 30 ∧ textB v.2.2 = true) ∨ (v.1 = 3 ∧ v.2.2 = ⟨#[]⟩ ∧ (v.2.1 = 0 ∨ v.2.1 = 1)) ∨ (v.1 = 4 ∧ v.2.2 = ⟨#[]⟩) := by
  have emp : ∀ s : ByteArray, s.toList.isEmpty = true → s = ⟨#[]⟩ := fun s hs => by
    apply bytes_ext
    rw [ByteArray.toList_eq, List.isEmpty_iff] at hs
    rw [hs]
  unfold vB at h
  split at h
  · exact .inl ⟨by assumption, emp _ h⟩
  split at h
  · simp only [Bool.and_eq_true, decide_eq_true_eq] at h
    exact .inr (.inl ⟨by assumption, h.1.1, h.1.2, h.2⟩)
  split at h
  · simp only [Bool.and_eq_true, Bool.or_eq_true, decide_eq_true_eq] at h
    exact .inr (.inr (.inl ⟨by assumption, emp _ h.1, h.2⟩))
  split at h
  · simp only [Bool.and_eq_true, decide_eq_true_eq] at h
    exact .inr (.inr (.inr ⟨by assumption, emp _ h.1.1⟩))
  · cases h
theorem text_pos {s : ByteArray} (h : textB s = true) : ∀ x ∈ sNums s, 0 < x ∧ x < 256 := by
  intro x hx
  obtain ⟨b, hb, rfl⟩ := List.mem_map.1 hx
  have := List.all_eq_true.1 h b hb
  simp only [badB, Bool.not_eq_true', Bool.or_eq_false_iff, decide_eq_false_iff_not] at this
  have := b.toNat_lt
  omega
theorem term_inj : ∀ (a b x y : List Int), (∀ z ∈ a, 0 < z ∧ z < 256) → (∀ z ∈ b, 0 < z ∧ z < 256) → a ++ [0] ++ x = b ++ [0] ++ y → a = b ∧ x = y
  | [], [], x, y, _, _, h => by simpa using h
  | [], b :: l, x, y, _, hb, h => by
    simp only [List.nil_append, List.cons_append, List.cons.injEq] at h
    have := hb b (List.mem_cons_self ..)
    omega
  | a :: k, [], x, y, ha, _, h => by
    simp only [List.nil_append, List.cons_append, List.cons.injEq] at h
    have := ha a (List.mem_cons_self ..)
    omega
  | a :: k, b :: l, x, y, ha, hb, h => by
    simp only [List.cons_append, List.cons.injEq] at h
    obtain ⟨h1, h2⟩ := term_inj k l x y (fun z hz => ha z (List.mem_cons_of_mem _ hz)) (fun z hz => hb z (List.mem_cons_of_mem _ hz)) (by simpa using h.2)
    exact ⟨by rw [h.1, h1], h2⟩
theorem sNums_inj {a b : ByteArray} (h : sNums a = sNums b) : a = b := by
  apply bytes_ext
  unfold sNums at h
  exact List.map_inj_right (fun x y e => UInt8.toNat_inj.1 (by omega)) |>.1 h
theorem enc8_len (n : Int) : (enc8 n).length = 8 := by simp [enc8]
theorem numsV_inj {a b : Val} {x y : List Int} (ha : okV a) (hb : okV b) (h : numsV a ++ x = numsV b ++ y) : a = b ∧ x = y := by
  obtain ⟨a0, a1, a2⟩ := a
  obtain ⟨b0, b1, b2⟩ := b
  unfold numsV at h
  simp only [List.cons_append, List.cons.injEq] at h
  obtain ⟨e, h⟩ := h
  subst e
  have e8 : enc8 a1 ++ x = enc8 b1 ++ y → a1 = b1 ∧ x = y := fun h => by
    obtain ⟨h1, h2⟩ := List.append_inj h (by rw [enc8_len, enc8_len])
    exact ⟨enc8_inj ha.2 hb.2 h1, h2⟩
  rcases vB_kind ha.1 with ⟨k, p⟩ | ⟨k, p, _, q⟩ | ⟨k, p, _⟩ | ⟨k, p⟩ <;> simp only at k p <;> subst k
  · rcases vB_kind hb.1 with ⟨k', p'⟩ | ⟨k', _⟩ | ⟨k', _⟩ | ⟨k', _⟩ <;> simp only at k' <;> try omega
    simp only at p'
    obtain ⟨h1, h2⟩ := e8 (by simpa using h)
    exact ⟨by rw [p, p', h1], h2⟩
  · rcases vB_kind hb.1 with ⟨k', p'⟩ | ⟨k', p', _, q'⟩ | ⟨k', _⟩ | ⟨k', _⟩ <;> simp only at k' <;> try omega
    simp only at p' q q'
    simp only [if_true] at h
    obtain ⟨h1, h2⟩ := term_inj _ _ _ _ (text_pos q) (text_pos q') h
    exact ⟨by rw [p, p', sNums_inj h1], h2⟩
  · rcases vB_kind hb.1 with ⟨k', p'⟩ | ⟨k', p', _, q'⟩ | ⟨k', p', _⟩ | ⟨k', _⟩ <;> simp only at k' <;> try omega
    simp only at p'
    simp only [show ¬ (3 : Int) = 2 by omega, if_false, if_true, List.cons_append, List.nil_append, List.cons.injEq] at h
    exact ⟨by rw [p, p', h.1], h.2⟩
  · rcases vB_kind hb.1 with ⟨k', p'⟩ | ⟨k', p', _, q'⟩ | ⟨k', p', _⟩ | ⟨k', p'⟩ <;> simp only at k' <;> try omega
    simp only at p'
    obtain ⟨h1, h2⟩ := e8 (by simpa using h)
    exact ⟨by rw [p, p', h1], h2⟩
theorem numsR_inj : ∀ {a b : VRow}, okR a → okR b → numsR a = numsR b → a = b
  | [], [], _, _, _ => rfl
  | [], b :: l, _, _, h => by simp [numsR, numsV] at h
  | a :: k, [], _, _, h => by simp [numsR, numsV] at h
  | a :: k, b :: l, ha, hb, h => by
    unfold numsR at h
    rw [List.flatMap_cons, List.flatMap_cons] at h
    obtain ⟨h1, h2⟩ := numsV_inj (ha a (List.mem_cons_self ..)) (hb b (List.mem_cons_self ..)) h
    rw [h1, numsR_inj (fun v hv => ha v (List.mem_cons_of_mem _ hv)) (fun v hv => hb v (List.mem_cons_of_mem _ hv)) h2]
theorem numsV_rng {v : Val} (h : okV v) : ∀ x ∈ numsV v, 0 ≤ x ∧ x < 256 := by
  intro x hx
  unfold numsV at hx
  have h8 : ∀ x ∈ enc8 v.2.1, 0 ≤ x ∧ x < 256 := fun x hx => by
    obtain ⟨k, _, rfl⟩ := List.mem_map.1 hx
    exact enc1_rng _ _
  rcases vB_kind h.1 with ⟨k, p⟩ | ⟨k, p, _, q⟩ | ⟨k, p, q⟩ | ⟨k, p⟩ <;> rw [k] at hx
  · rcases List.mem_cons.1 hx with e | e
    · omega
    · exact h8 x (by simpa using e)
  · rcases List.mem_cons.1 hx with e | e
    · omega
    · simp only [if_true] at e
      rcases List.mem_append.1 e with e | e
      · have := text_pos q x e
        omega
      · simp at e
        omega
  · rcases List.mem_cons.1 hx with e | e
    · omega
    · simp at e
      omega
  · rcases List.mem_cons.1 hx with e | e
    · omega
    · exact h8 x (by simpa using e)
theorem numsR_rng {r : VRow} (h : okR r) : ∀ x ∈ numsR r, 0 ≤ x ∧ x < 256 := by
  intro x hx
  obtain ⟨v, hv, hx⟩ := List.mem_flatMap.1 hx
  exact numsV_rng (h v hv) x hx
theorem strOfNums_inj {a b : List Int} (ha : ∀ x ∈ a, 0 ≤ x ∧ x < 256) (hb : ∀ x ∈ b, 0 ≤ x ∧ x < 256) (h : strOfNums a = strOfNums b) : a = b := by
  have e := congrArg (fun s : ByteArray => s.data.toList.map fun b => (b.toNat : Int)) h
  simp only [strOfNums_data, List.map_map] at e
  have key : ∀ l : List Int, (∀ x ∈ l, 0 ≤ x ∧ x < 256) → l.map ((fun b : UInt8 => (b.toNat : Int)) ∘ fun n : Int => UInt8.ofNat n.toNat) = l := fun l hl => by
    conv => rhs; rw [← List.map_id l]
    refine List.map_congr_left fun x hx => ?_
    have := hl x hx
    simp only [Function.comp, UInt8.toNat_ofNat', id]
    omega
  rwa [key a ha, key b hb] at e
theorem encR_inj {a b : VRow} (ha : okR a) (hb : okR b) (h : encR a = encR b) : a = b := numsR_inj ha hb (strOfNums_inj (numsR_rng ha) (numsR_rng hb) h)
theorem numsV_len {v : Val} (h : okV v) : (numsV v).length ≤ 32 := by
  unfold numsV
  rcases vB_kind h.1 with ⟨k, p⟩ | ⟨k, p, q, _⟩ | ⟨k, p, q⟩ | ⟨k, p⟩ <;> rw [k]
  · simp [enc8_len]
  · have e : (sNums v.2.2).length = v.2.2.size := by simp [sNums]
    simp [e]
    omega
  · simp
  · simp [enc8_len]
theorem numsR_len : ∀ {r : VRow}, okR r → (numsR r).length ≤ 32 * r.length
  | [], _ => by simp [numsR]
  | a :: r, h => by
    have h1 := numsV_len (h a (List.mem_cons_self ..))
    have h2 := numsR_len (r := r) fun v hv => h v (List.mem_cons_of_mem _ hv)
    unfold numsR at h2 ⊢
    rw [List.flatMap_cons, List.length_append, List.length_cons]
    omega
theorem rowB_ok {r : VRow} (h : okR r) : rowB r = true := List.all_eq_true.2 fun v hv => (h v hv).1
end Go.Proofs.YtohjgegnamcnlaaGreat

/- Law 39: value.Encode. -/
namespace Go.Proofs.YtohjgegnamcnlaaGreat
open Go.RowKit Go.Shelf
open Go.Sort (grow grow_grow grow_empty)

theorem tBytes : Tryz.prog.underlying 112 = some (.slice 5) := Tryz.underlying112
theorem tByteInfo : (Tryz.prog.info? 5).map (fun i => (i.zero, i.size, i.bytes)) = some (some (.int .u8 0), 1, 1) := by kernel_rfl
theorem tStr : Tryz.prog.underlying 9 = some .string := Tryz.underlying9
def byC (l : List Int) : List Value := l.map (Value.int .u8)
def OwnsY (w : World) (base : Nat) (v : Value) (l : List Int) : Prop := w.ownsRow base 5 1 v l.length (byC l)
theorem OwnsY.below {w w' : World} {base : Nat} {v : Value} {l : List Int} (h : OwnsY w base v l) (hb : Below w.heap.size w w') : OwnsY w' base v l := own_below h hb (Nat.le_refl _)
theorem byC_append (a b : List Int) : byC (a ++ b) = byC a ++ byC b := by simp [byC]
theorem byC_str (s : ByteArray) : byC (sNums s) = Lib.strCells s := by
  unfold byC sNums Lib.strCells
  rw [List.map_map]
  rfl
/-- append(own, byte) -/
theorem append_byte {ops : Array Oper} {rest : List Oper} {o : Oper} {a : Act} {Q : Exit → Act → World → Prop} (hgd : o.guard = none) (s x : Operand)
    (ho : o.op = .call { callee := .builtin .append, args := #[s, x], argTypes := #[112, 112] })
    {w : World} {p : Int} {t : TypeId} (base : Nat) (v : Value) (l : List Int) (hs : a.eval s = v) (hown : OwnsY w base v l)
    {b : Nat} (hx : a.eval x = .slice (some ⟨b, 0, none⟩) 1 1) (hb0 : w.heap.size = b) (hlen : l.length < 900000000) (hbase : base ≤ w.heap.size)
    (h : ∀ v' w', OwnsY w' base v' (l ++ [p]) → Below base w w' → (∀ k, k < w.heap.size → v.ownBlock ≠ some k → w'.heap[k]? = w.heap[k]?) → wpList Tryz.prog ops Q rest (a.put o.dst v') w') :
    wpList Tryz.prog ops Q (o :: rest) a (w.alloc (.cells #[.int .u8 p] t)) := by
  refine append1 tBytes tByteInfo rfl (by omega) (by omega) hgd s x ho base v l.length (byC l) [.int .u8 p] hs hown hx hb0 rfl rfl (by simp [Value.oneCell']) hlen hbase ?_
  intro v' w' h1 h2 h3 _
  refine h v' w' ?_ h2 h3
  unfold OwnsY
  rw [byC_append, List.length_append]
  exact h1
theorem append_text {ops : Array Oper} {rest : List Oper} {o : Oper} {a : Act} {Q : Exit → Act → World → Prop} (hgd : o.guard = none) (s x : Operand)
    (ho : o.op = .call { callee := .builtin .append, args := #[s, x], argTypes := #[112, 9] })
    {w : World} (base : Nat) (v : Value) (l : List Int) (hs : a.eval s = v) (hown : OwnsY w base v l) (t : ByteArray)
    (hx : a.eval x = .string t) (hlen : l.length < 900000000) (ht : t.size ≤ 1000) (hbase : base ≤ w.heap.size)
    (h : ∀ v' w', OwnsY w' base v' (l ++ sNums t) → Below base w w' → wpList Tryz.prog ops Q rest (a.put o.dst v') w') :
    wpList Tryz.prog ops Q (o :: rest) a w := by
  obtain ⟨i, hi, hzz, hss, hbb⟩ := info_parts tByteInfo
  refine Lib.wpList_append_own_string w hgd s x 112 9 ho base 5 i tBytes tStr hi hzz hss hbb v l.length (byC l) hs hown t hx (by unfold maxLen; omega) (by omega) hbase ?_
  intro v' w' h1 h2 _
  refine h v' w' ?_ ((Below.refl base w).grown h2 hbase fun k hk => (hown.lt k hk).1)
  unfold OwnsY
  rw [byC_append, List.length_append, byC_str]
  have e : (sNums t).length = t.size := by simp [sNums]
  rw [e]
  exact h1
theorem make_bytes {ops : Array Oper} {rest : List Oper} {o : Oper} {a : Act} {Q : Exit → Act → World → Prop} (hgd : o.guard = none) (l c : Operand)
    (ho : o.op = Op.makeSlice 112 l c) {w : World} (base n : Nat) (hl : a.eval l = .int .i64 0) (hc : a.eval c = .int .i64 (n : Int)) (hn : n ≤ 1000000) (hbase : base ≤ w.heap.size)
    (h : ∀ v' w', OwnsY w' base v' [] → Below base w w' → wpList Tryz.prog ops Q rest (a.put o.dst v') w') : wpList Tryz.prog ops Q (o :: rest) a w := by
  obtain ⟨i, hi, hzz, hss, hbb⟩ := info_parts tByteInfo
  refine wpList_make_own w hgd l c 112 ho base 5 i (.int .u8 0) 1 tBytes hi hzz hss .i64 .i64 _ n hl hc rfl (by rw [hbb]; omega) (by unfold maxLen; omega) hbase ?_
  intro w' h1 h2
  refine h _ w' h1 ((Below.refl _ w).grown h2 hbase fun k hk => by cases hk)
/-! ### the walk -/
theorem take_va (r : VRow) (k : Nat) (h : k < r.length) : numsR (r.take (k + 1)) = numsR (r.take k) ++ numsV (va r k) := by
  unfold numsR
  rw [List.take_succ_eq_append_getElem h, List.flatMap_append, va_at h]
  simp
theorem enc_take (n : Int) (k : Nat) (h : k < 8) : ((List.range 8).take (k + 1)).map (enc1 n) = ((List.range 8).take k).map (enc1 n) ++ [enc1 n k] := by
  rw [List.take_succ_eq_append_getElem (by simpa using h)]
  simp
def EncRet (r : VRow) (w : World) (e : Ending) (w' : World) : Prop := ∃ v, e = .returned (.tuple #[v, .int .i64 0]) ∧ OwnsY w' w.heap.size v (numsR r) ∧ Below w.heap.size w w'
theorem OwnsY.lt {w : World} {base : Nat} {v : Value} {l : List Int} (h : OwnsY w base v l) : v.ownBlock ≠ some w.heap.size := fun e => by
  have := (World.ownsRow.lt h _ e).2
  omega
theorem cell_two {w w' : World} {q : Nat} {C : Array Value} {t : TypeId} (h : w.heap[q]? = some (.cells C t (0, 0))) (hb : w'.heap[q]? = w.heap[q]?) : w'.heap[q]? = some (.cells C t (0, 0)) := hb.trans h
set_option maxRecDepth 100000 in
set_option maxHeartbeats 4000000 in
theorem vEncode_c (v : Value) (r : VRow) (w : World) (hs : IsVals w v r) (ok : okR r) (hl : r.length ≤ 1000) : Calls Tryz.prog 73 #[v] w (EncRet r w) := by
  have K := Lib.hid (vall_c v r w hs)
  obtain ⟨A, c, rfl, hnc, hc⟩ := hs.form
  rw [rowB_ok ok] at K
  have Hl := Lib.hid hl; have Hok := Lib.hid ok
  have g0 : decide (1000 < (r.length : Int)) = false := decide_eq_false (by omega)
  have g1 : IntKind.i64.wrap (9 * (r.length : Int)) = ((9 * r.length : Nat) : Int) := by rw [IntKind.wrap_i64]; omega
  go_enter Tryz.func73, Tryz.ntmps73
  go_wp2_with fail
  refine K.out.mono ?_
  rintro e w1 ⟨rfl, hg⟩
  have hb1 := gw_below hg
  clear hg
  go_wp2_with (at_make; refine make_bytes rfl _ _ (by rfl) w.heap.size (9 * r.length) (by rfl) (by first | rfl | (rw [← g1]; rfl)) (by omega) hb1.size ?_; intro v2 w2 hown2 hb2)
  have hbw := hb1.trans hb2
  go_loopw [4, 21] (fun o i wr => ∃ k : Nat, k ≤ r.length ∧ i = .int .i64 (k : Int) ∧ OwnsY wr w.heap.size o (numsR (r.take k)) ∧ Below w.heap.size w wr) (fun _ i _ => r.length - (intOf i).toNat)
  case atStart => exact ⟨0, Nat.zero_le _, rfl, hown2, hbw⟩
  case round =>
    obtain ⟨k, hk, rfl, hown, hb⟩ := hrel
    clear hb1 hb2 hown2 hbw K
    by_cases hlt : k < r.length
    · obtain ⟨b, off, rfl, hbk⟩ := hs.addr (by omega)
      have c0 := (hs.below hb).c0 k hlt
      have c1 := (hs.below hb).c1 k hlt
      have c2 := (hs.below hb).c2 k hlt
      have hokx : okV (va r k) := ok _ (va_mem hlt)
      have HT := Lib.hid (take_va r k hlt)
      have hlen : (numsR (r.take k)).length < 100000 := by
        have := numsR_len (r := r.take k) fun v hv => ok v (List.mem_of_mem_take hv)
        rw [List.length_take] at this
        omega
      generalize numsR (r.take k) = L at hown HT hlen
      generalize va r k = x at c0 c1 c2 hokx HT
      obtain ⟨kd, n, s⟩ := x
      have hsz : s.size ≤ 1000 ∧ 0 ≤ kd ∧ kd ≤ 255 := by
        rcases vB_kind hokx.1 with ⟨p, q⟩ | ⟨p, _, q, _⟩ | ⟨p, q, _⟩ | ⟨p, q⟩ <;> simp only at p q <;> subst p
        · rw [q]; exact ⟨by decide, by omega⟩
        · omega
        · rw [q]; exact ⟨by decide, by omega⟩
        · rw [q]; exact ⟨by decide, by omega⟩
      obtain ⟨hs1, hs2, hs3⟩ := hsz
      have hT : (wr.alloc (.cells #[.int .i64 kd, .int .i64 n, .string s] 51)).heap[wr.heap.size]? = some (.cells #[.int .i64 kd, .int .i64 n, .string s] 51 (0, 0)) := heap_alloc_new wr _
      have t0 := (blk_get hT 0)
      simp at t0
      have hne := hown.lt
      have FT : Hid (∀ X : World, X.heap[wr.heap.size]? = (wr.alloc (.cells #[.int .i64 kd, .int .i64 n, .string s] 51)).heap[wr.heap.size]? → X.cell? ⟨wr.heap.size, 0, none⟩ = some (.int .i64 kd) ∧ X.cell? ⟨wr.heap.size, 1, none⟩ = some (.int .i64 n) ∧ X.cell? ⟨wr.heap.size, 2, none⟩ = some (.string s)) := Lib.hid fun X hX => by
        have hX2 := hX.trans hT
        have a0 := blk_get hX2 0
        have a1 := blk_get hX2 1
        have a2 := blk_get hX2 2
        simp at a0 a1 a2
        exact ⟨a0, a1, a2⟩
      have hownW := hown.below ((Below.refl wr.heap.size wr).alloc (Nat.le_refl _) (.cells #[.int .i64 kd, .int .i64 n, .string s] 51))
      have hbW : Below w.heap.size w (wr.alloc (.cells #[.int .i64 kd, .int .i64 n, .string s] 51)) := hb.alloc hb.size _
      have Hlt := Lib.hid hlt
      clear hbk hT hk hown hb hlt ok hl hs
      cases k2 : (kd == 2)
      · cases k3 : (kd == 3)
        · go_wp2_with (at_builtin; refine append_byte rfl _ _ (by rfl) w.heap.size _ L (by rfl) hownW (by rfl) (by simp) (by omega) hbW.size ?_; intro v4 w4 hown4 hb4 hbk4; obtain ⟨y0, y1, y2⟩ := FT.out _ (hbk4 wr.heap.size (by simp) hne); have hb4 := hbW.trans hb4)
          have hlen4 : (L ++ [kd]).length < 200000 := by simp; omega
          clear hownW hbW hne FT y0 y1 y2 c0 c1 c2 hlen
          obtain ⟨L4, hL4⟩ : ∃ l, l = L ++ [kd] := ⟨_, rfl⟩
          rw [← hL4] at hown4 hlen4
          have HL4 : Hid (L ++ [kd] = L4) := Lib.hid hL4.symm
          clear hL4
          go_loopw [4, 8] (fun o i wq => ∃ m : Nat, m ≤ 8 ∧ i = .int .i64 (56 - 8 * (m : Int)) ∧ OwnsY wq w.heap.size o (L4 ++ ((List.range 8).take m).map (enc1 n)) ∧ Below w.heap.size w wq) (fun _ i _ => (intOf i + 8).toNat)
          case atStart => exact ⟨0, by omega, rfl, by simpa using hown4, hb4⟩
          case round =>
            obtain ⟨m, hm, rfl, hown5, hb5⟩ := hrel
            by_cases hm8 : m < 8
            · have hlen5 : (L4 ++ ((List.range 8).take m).map (enc1 n)).length < 300000 := by simp; omega
              have HL5 : Hid (∀ p, p = enc1 n m → L4 ++ ((List.range 8).take (m + 1)).map (enc1 n) = L4 ++ ((List.range 8).take m).map (enc1 n) ++ [p]) := Lib.hid fun p hp => by rw [enc_take n m hm8, hp, List.append_assoc]
              generalize L4 ++ ((List.range 8).take m).map (enc1 n) = L5 at hown5 hlen5 HL5
              have Hm8 := Lib.hid hm8
              go_wp2_with (at_builtin; refine append_byte rfl _ _ (by rfl) w.heap.size _ L5 (by rfl) hown5 (by rfl) (by simp) (by omega) hb5.size ?_; intro v6 w6 hown6 hb6 _; have hb6 := hb5.trans hb6)
              go_roundw
              case rel =>
                refine ⟨m + 1, Hm8.out, by go_num, ?_, hb6⟩
                rw [HL5.out (enc1 n m) rfl]
                exact hown6
              case measure => have := Hm8.out; simp [intOf]; omega
            · obtain rfl : m = 8 := by omega
              have HN : Hid (numsR (r.take (k + 1)) = L4 ++ ((List.range 8).take 8).map (enc1 n)) := Lib.hid (by
                rw [HT.out, ← HL4.out, List.append_assoc]
                unfold numsV
                rw [if_neg (by simpa using k2), if_neg (by simpa using k3)]
                rfl)
              rw [← HN.out] at hown5
              go_wp2_with fail
              go_roundw
              case rel => exact ⟨k + 1, Hlt.out, by go_num, hown5, hb5⟩
              case measure => have := Hlt.out; simp [intOf]; omega
        · have kd3 : kd = 3 := by simpa using k3
          have HN : Hid (numsR (r.take (k + 1)) = L ++ [kd] ++ [n]) := Lib.hid (by
            rw [HT.out, List.append_assoc]
            unfold numsV
            rw [if_neg (by simpa using k2), if_pos kd3]
            rfl)
          have hn3 : 0 ≤ n ∧ n ≤ 255 := by
            rcases vB_kind hokx.1 with ⟨p, _⟩ | ⟨p, _⟩ | ⟨p, _, q⟩ | ⟨p, _⟩ <;> simp only at p
            · omega
            · omega
            · simp only at q; omega
            · omega
          obtain ⟨hn31, hn32⟩ := hn3
          clear kd3
          go_wp2_with (at_builtin; first | (refine append_byte rfl _ _ (by rfl) w.heap.size _ L (by rfl) hownW (by rfl) (by simp) (by omega) hbW.size ?_; intro v4 w4 hown4 hb4 hbk4; obtain ⟨y0, y1, y2⟩ := FT.out _ (hbk4 wr.heap.size (by simp) hne); have hb4 := hbW.trans hb4) | (refine append_byte rfl _ _ (by rfl) w.heap.size _ (L ++ [kd]) (by rfl) hown4 (by rfl) (by simp) (by simp; omega) hb4.size ?_; intro v5 w5 hown5 hb5 _; have hb5 := hb4.trans hb5))
          rw [← HN.out] at hown5
          go_roundw
          case rel => exact ⟨k + 1, Hlt.out, by go_num, hown5, hb5⟩
          case measure => have := Hlt.out; simp [intOf]; omega
      · have kd2 : kd = 2 := by simpa using k2
        have HN : Hid (numsR (r.take (k + 1)) = L ++ [kd] ++ sNums s ++ [0]) := Lib.hid (by
          rw [HT.out, List.append_assoc, List.append_assoc]
          unfold numsV
          rw [if_pos kd2]
          rfl)
        have hsl : (sNums s).length ≤ 1000 := by simp [sNums]; omega
        clear kd2
        go_wp2_with (at_builtin; first | (refine append_byte rfl _ _ (by rfl) w.heap.size _ L (by rfl) hownW (by rfl) (by simp) (by omega) hbW.size ?_; intro v4 w4 hown4 hb4 hbk4; obtain ⟨y0, y1, y2⟩ := FT.out _ (hbk4 wr.heap.size (by simp) hne); have hb4 := hbW.trans hb4) | (refine append_text rfl _ _ (by rfl) w.heap.size _ (L ++ [kd]) (by rfl) hown4 s (by rfl) (by simp; omega) hs1 hb4.size ?_; intro v5 w5 hown5 hb5; have hb5 := hb4.trans hb5) | (refine append_byte rfl _ _ (by rfl) w.heap.size _ (L ++ [kd] ++ sNums s) (by rfl) hown5 (by rfl) (by simp) (by simp only [List.length_append, List.length_singleton]; omega) hb5.size ?_; intro v6 w6 hown6 hb6 _; have hb6 := hb5.trans hb6))
        rw [← HN.out] at hown6
        go_roundw
        case rel => exact ⟨k + 1, Hlt.out, by go_num, hown6, hb6⟩
        case measure => have := Hlt.out; simp [intOf]; omega
    · obtain rfl : k = r.length := by omega
      rw [List.take_length] at hown
      go_wp2_with fail
      go_ret2
      exact ⟨_, rfl, hown, hb⟩
/-! ### aggregate.code -/
theorem conv_bytes {w : World} {base : Nat} {v : Value} {l : List Int} (h : OwnsY w base v l) : (convert 112 9 v).run Tryz.prog w = .ok (.string (strOfNums l)) w := by
  have hb : Tryz.prog.underlying 5 = some (.int .u8) := Tryz.underlying5
  rcases h.2 with ⟨rfl, hl⟩ | ⟨g, cap, cur, rfl, hg, hh, h4, h5, h6, h7⟩
  · have : l = [] := List.length_eq_zero_iff.1 hl
    subst this
    exact run_convert_bytes_nil w 112 5 tBytes hb 0 0 9 tStr
  · refine run_convert_bytes_arg w 112 5 tBytes hb g 0 l.length cap l rfl (fun i hi => ?_) 9 tStr
    rw [Nat.zero_add, blk_get hh, ← Array.getElem?_toList]
    have e : (cur.toList.take (l.length * 1))[i]? = (byC l)[i]? := by rw [h7]
    rw [List.getElem?_take_of_lt (by omega)] at e
    rw [e]
    simp [byC, List.getD, hi]
theorem acode_c (v : Value) (r : VRow) (w : World) (hs : IsVals w v r) (ok : okR r) (hl : r.length ≤ 1000) : Calls Tryz.prog 36 #[v] w (Ret w (.string (encR r))) := by
  have K := Lib.hid (vEncode_c v r w hs ok hl)
  obtain ⟨A, c, rfl, hnc, hc⟩ := hs.form
  clear hs
  go_enter Tryz.func36, Tryz.ntmps36
  go_wp2_with fail
  refine K.out.mono ?_
  rintro e w1 ⟨v1, rfl, hown, hb⟩
  have hcv := conv_bytes hown
  go_wp2_with fail
  go_ret
  exact ⟨rfl, hb⟩
end Go.Proofs.YtohjgegnamcnlaaGreat

/- Law 39: rows, lists of rows and lists of facts in memory; aggregate.pick. -/
namespace Go.Proofs.YtohjgegnamcnlaaGreat
open Go.RowKit Go.Shelf
open Go.Sort (grow grow_grow grow_empty)

theorem flatK_get {α : Type} {f : α → List Value} {k : Nat} (hk : ∀ x, (f x).length = k) : ∀ (L : List α) (i j : Nat) (h : i < L.length), j < k → (L.flatMap f)[i * k + j]? = (f L[i])[j]?
  | [], i, j, h, _ => absurd h (by simp)
  | a :: L, i, j, h, hj => by
    rw [List.flatMap_cons]
    cases i with
    | zero =>
      rw [Nat.zero_mul, Nat.zero_add, List.getElem?_append_left (by rw [hk]; exact hj)]
      rfl
    | succ i =>
      rw [List.getElem?_append_right (by rw [hk, Nat.succ_mul]; omega), hk, show (i + 1) * k + j - k = i * k + j by rw [Nat.succ_mul]; omega, flatK_get hk L i j (by simpa using h) hj]
      rfl
theorem flatK_len {α : Type} {f : α → List Value} {k : Nat} (hk : ∀ x, (f x).length = k) (L : List α) : (L.flatMap f).length = L.length * k := by
  induction L with
  | nil => simp
  | cons a L ih => rw [List.flatMap_cons, List.length_append, hk, ih, List.length_cons, Nat.succ_mul]; omega
theorem rows_of_own {w : World} {base k n : Nat} {e : TypeId} {v : Value} {xs : List Value} {f : Nat → Nat → Value} (h : w.ownsRow base e k v n xs) (hf : ∀ i j, i < n → j < k → xs[i * k + j]? = some (f i j)) : RowsIn w v n k f := by
  rcases h.2 with ⟨rfl, rfl⟩ | ⟨g, cap, cur, rfl, hg, hh, h4, h5, h6, h7⟩
  · exact RowsIn.nil
  · refine ⟨_, _, rfl, h4, by unfold maxLen at h5; exact h5, fun _ => ⟨g, 0, rfl, blk_lt hh, fun i j hi hj => ?_⟩⟩
    have hlt : i * k + j < n * k := by
      have := Nat.mul_le_mul_right k (show i + 1 ≤ n by omega)
      rw [Nat.succ_mul] at this
      omega
    rw [Nat.zero_add, blk_get hh, ← hf i j hi hj, ← h7, List.getElem?_take_of_lt hlt, Array.getElem?_toList]
/-! ### a row of one's own -/
def valL (x : Val) : List Value := [.int .i64 x.1, .int .i64 x.2.1, .string x.2.2]
def flatV (r : VRow) : List Value := r.flatMap valL
theorem valL_len (x : Val) : (valL x).length = 3 := rfl
theorem flatV_get (r : VRow) (i j : Nat) (hi : i < r.length) (hj : j < 3) : (flatV r)[i * 3 + j]? = some (valCell r i j) := by
  unfold flatV
  rw [flatK_get valL_len r i j hi hj, va_at hi]
  unfold valL valCell
  rcases (by omega : j = 0 ∨ j = 1 ∨ j = 2) with rfl | rfl | rfl <;> rfl
theorem flatV_len (r : VRow) : (flatV r).length = r.length * 3 := flatK_len valL_len r
theorem flatV_one (r : VRow) : ∀ u ∈ flatV r, u.oneCell' = true := fun u hu => by
  obtain ⟨x, _, hx⟩ := List.mem_flatMap.1 hu
  simp only [valL, List.mem_cons, List.not_mem_nil, or_false] at hx
  rcases hx with rfl | rfl | rfl <;> rfl
def OwnsV (w : World) (base : Nat) (v : Value) (r : VRow) : Prop := w.ownsRow base 51 3 v r.length (flatV r)
theorem OwnsV.below {w w' : World} {base : Nat} {v : Value} {r : VRow} (h : OwnsV w base v r) (hb : Below w.heap.size w w') : OwnsV w' base v r := own_below h hb (Nat.le_refl _)
theorem OwnsV.vals {w : World} {base : Nat} {v : Value} {r : VRow} (h : OwnsV w base v r) : IsVals w v r := rows_of_own h fun i j hi hj => flatV_get r i j hi hj
theorem OwnsV.nil (w : World) (base : Nat) : OwnsV w base (.slice none 0 0) [] := own_nil _ _ _ _
theorem OwnsV.lt {w : World} {base : Nat} {v : Value} {r : VRow} (h : OwnsV w base v r) : v.ownBlock ≠ some w.heap.size := fun e => by
  have := (World.ownsRow.lt h _ e).2
  omega
theorem tValues : Tryz.prog.underlying 47 = some (.slice 51) := Tryz.underlying47
theorem tValueInfo : (Tryz.prog.info? 51).map (fun i => (i.zero, i.size, i.bytes)) = some (some (.agg #[.int .i64 0, .int .i64 0, .string ⟨#[]⟩]), 3, 32) := by kernel_rfl
/-- append(own, value) -/
theorem append_val {ops : Array Oper} {rest : List Oper} {o : Oper} {a : Act} {Q : Exit → Act → World → Prop} (hgd : o.guard = none) (s x : Operand)
    (ho : o.op = .call { callee := .builtin .append, args := #[s, x], argTypes := #[47, 47] })
    {w : World} {k n : Int} {st : ByteArray} {t : TypeId} (base : Nat) (v : Value) (r : VRow) (hs : a.eval s = v) (hown : OwnsV w base v r)
    {b : Nat} (hx : a.eval x = .slice (some ⟨b, 0, none⟩) 1 1) (hb0 : w.heap.size = b) (hlen : r.length < 900000000) (hbase : base ≤ w.heap.size)
    (h : ∀ v' w', OwnsV w' base v' (r ++ [(k, n, st)]) → Below base w w' → (∀ k, k < w.heap.size → v.ownBlock ≠ some k → w'.heap[k]? = w.heap[k]?) → (v'.ownBlock = v.ownBlock ∨ v'.ownBlock = some (w.heap.size + 1)) → wpList Tryz.prog ops Q rest (a.put o.dst v') w') :
    wpList Tryz.prog ops Q (o :: rest) a (w.alloc (.cells #[.int .i64 k, .int .i64 n, .string st] t)) := by
  refine append1 tValues tValueInfo rfl (by omega) (by omega) hgd s x ho base v r.length (flatV r) (valL (k, n, st)) hs hown hx hb0 rfl rfl (by simp [valL, Value.oneCell']) hlen hbase ?_
  intro v' w' h1 h2 h3 h4
  refine h v' w' ?_ h2 h3 h4
  unfold OwnsV flatV
  rw [List.flatMap_append, List.length_append]
  simpa [flatV] using h1
/-! ### lists of rows -/
def vr (R : List VRow) (i : Nat) : VRow := R.getD i []
theorem vr_at {R : List VRow} {i : Nat} (h : i < R.length) : R[i] = vr R i := by simp [vr, h]
theorem vr_mem {R : List VRow} {i : Nat} (h : i < R.length) : vr R i ∈ R := by rw [← vr_at h]; exact List.getElem_mem h
/-- A list of rows; S: their slices. -/
def RvIn (w : World) (v : Value) (R : List VRow) (S : Nat → Value) : Prop := RowsIn w v R.length 1 (fun i _ => S i) ∧ ∀ i, i < R.length → IsVals w (S i) (vr R i)
def IsRv (w : World) (v : Value) (R : List VRow) : Prop := ∃ S, RvIn w v R S
section
variable {w w' : World} {v : Value} {R : List VRow} {S : Nat → Value} {A : Option Addr} {b off c : Nat}
theorem RvIn.below (h : RvIn w v R S) (hb : Below w.heap.size w w') : RvIn w' v R S := ⟨h.1.below hb, fun i hi => (h.2 i hi).below hb⟩
theorem IsRv.below (h : IsRv w v R) (hb : Below w.heap.size w w') : IsRv w' v R := by obtain ⟨S, h⟩ := h; exact ⟨S, h.below hb⟩
theorem RvIn.form (h : RvIn w v R S) : ∃ A c, v = .slice A R.length c ∧ R.length ≤ c ∧ c ≤ 9223372036854775807 := RowsIn.form h.1
theorem RvIn.addr (h : RvIn w (.slice A R.length c) R S) (hn : 0 < R.length) : ∃ b off, A = some ⟨b, off, none⟩ ∧ b < w.heap.size := RowsIn.addr h.1 hn
theorem RvIn.cell (h : RvIn w (.slice (some ⟨b, off, none⟩) R.length c) R S) (i : Nat) (hi : i < R.length) : w.cell? ⟨b, off + i, none⟩ = some (S i) := by
  have := RowsIn.cells h.1 i 0 hi (by omega)
  simpa using this
end
/-! ### lists of facts -/
def fc (F : List Fct) (i : Nat) : Fct := F.getD i ([], (0, 0))
theorem fc_at {F : List Fct} {i : Nat} (h : i < F.length) : F[i] = fc F i := by simp [fc, h]
theorem fc_mem {F : List Fct} {i : Nat} (h : i < F.length) : fc F i ∈ F := by rw [← fc_at h]; exact List.getElem_mem h
def fcCell (F : List Fct) (S : Nat → Value) (i j : Nat) : Value := if j = 0 then S i else .int .i64 (if j = 1 then (fc F i).2.1 else (fc F i).2.2)
/-- A list of facts; S: the slices of their values. -/
def FsIn (w : World) (v : Value) (F : List Fct) (S : Nat → Value) : Prop := RowsIn w v F.length 3 (fcCell F S) ∧ ∀ i, i < F.length → IsVals w (S i) (fc F i).1
def IsFs (w : World) (v : Value) (F : List Fct) : Prop := ∃ S, FsIn w v F S
section
variable {w w' : World} {v : Value} {F : List Fct} {S : Nat → Value} {A : Option Addr} {b off c : Nat}
theorem FsIn.below (h : FsIn w v F S) (hb : Below w.heap.size w w') : FsIn w' v F S := ⟨h.1.below hb, fun i hi => (h.2 i hi).below hb⟩
theorem IsFs.below (h : IsFs w v F) (hb : Below w.heap.size w w') : IsFs w' v F := by obtain ⟨S, h⟩ := h; exact ⟨S, h.below hb⟩
theorem FsIn.form (h : FsIn w v F S) : ∃ A c, v = .slice A F.length c ∧ F.length ≤ c ∧ c ≤ 9223372036854775807 := RowsIn.form h.1
theorem FsIn.addr (h : FsIn w (.slice A F.length c) F S) (hn : 0 < F.length) : ∃ b off, A = some ⟨b, off, none⟩ ∧ b < w.heap.size := RowsIn.addr h.1 hn
theorem FsIn.c0 (h : FsIn w (.slice (some ⟨b, off, none⟩) F.length c) F S) (i : Nat) (hi : i < F.length) : w.cell? ⟨b, off + i * 3, none⟩ = some (S i) := RowsIn.cells h.1 i 0 hi (by omega)
theorem FsIn.c1 (h : FsIn w (.slice (some ⟨b, off, none⟩) F.length c) F S) (i : Nat) (hi : i < F.length) : w.cell? ⟨b, off + i * 3 + 1, none⟩ = some (.int .i64 (fc F i).2.1) := RowsIn.cells h.1 i 1 hi (by omega)
theorem FsIn.c2 (h : FsIn w (.slice (some ⟨b, off, none⟩) F.length c) F S) (i : Nat) (hi : i < F.length) : w.cell? ⟨b, off + i * 3 + 2, none⟩ = some (.int .i64 (fc F i).2.2) := RowsIn.cells h.1 i 2 hi (by omega)
theorem IsFs.nil : IsFs w (.slice none 0 0) [] := ⟨fun _ => undef, RowsIn.nil, fun i hi => absurd hi (by simp)⟩
end
/-! ### pick -/
def pickR (r : VRow) (ks : List Int) : VRow := ks.map fun k => va r k.toNat
def keysIn (n : Nat) (ks : List Int) : Prop := ∀ k ∈ ks, 0 ≤ k ∧ k < n
def VRet (r : VRow) (w : World) (e : Ending) (w' : World) : Prop := ∃ v, e = .returned v ∧ OwnsV w' w.heap.size v r ∧ Below w.heap.size w w'
theorem iv_mem' {l : List Int} {k : Nat} (h : k < l.length) : iv l k ∈ l := by rw [← iv_at h]; exact List.getElem_mem h
set_option maxRecDepth 100000 in
theorem apick_c (v vk : Value) (r : VRow) (ks : List Int) (w : World) (hs : IsVals w v r) (hk : IsInts w vk ks) (hok : keysIn r.length ks) (hl : ks.length ≤ 100000) : Calls Tryz.prog 37 #[v, vk] w (VRet (pickR r ks) w) := by
  obtain ⟨A1, c1, rfl, hn1, hc1⟩ := hs.form
  obtain ⟨A2, c2, rfl, hn2, hc2⟩ := hk.form
  have Hok := Lib.hid hok; have Hl := Lib.hid hl
  clear hok hl
  go_enter Tryz.func37, Tryz.ntmps37
  go_wp2_with fail
  go_loopw [5, 10] (fun o i wr => ∃ k : Nat, i = .int .i64 (k : Int) ∧ k ≤ ks.length ∧ OwnsV wr w.heap.size o (pickR r (ks.take k)) ∧ Below w.heap.size w wr) (fun _ i _ => ks.length - (intOf i).toNat)
  case atStart => exact ⟨0, rfl, Nat.zero_le _, OwnsV.nil _ _, Below.refl _ _⟩
  case round =>
    obtain ⟨k, rfl, hkl, hown, hb⟩ := hrel
    by_cases hlt : k < ks.length
    · obtain ⟨b2, o2, rfl, hbk2⟩ := hk.addr (by omega)
      have c0 := (hk.below hb).c0 k hlt
      obtain ⟨hp0, hp1⟩ := Hok.out _ (iv_mem' hlt)
      obtain ⟨m, hm⟩ : ∃ m : Nat, iv ks k = (m : Int) := ⟨(iv ks k).toNat, by omega⟩
      have HT : Hid (pickR r (ks.take (k + 1)) = pickR r (ks.take k) ++ [va r m]) := Lib.hid (by
        unfold pickR
        rw [List.take_succ_eq_append_getElem hlt, List.map_append, iv_at hlt, hm]
        simp)
      rw [hm] at c0 hp0 hp1
      have hmr : m < r.length := by omega
      obtain ⟨b1, o1, rfl, hbk1⟩ := hs.addr (by omega)
      have x0 := (hs.below hb).c0 m hmr
      have x1 := (hs.below hb).c1 m hmr
      have x2 := (hs.below hb).c2 m hmr
      have hlen : (pickR r (ks.take k)).length < 900000000 := by
        have := Hl.out
        unfold pickR
        rw [List.length_map, List.length_take]
        omega
      have Hlt := Lib.hid hlt
      generalize pickR r (ks.take k) = L at hown HT hlen
      generalize va r m = x at x0 x1 x2 HT
      clear hm hbk1 hbk2
      go_wp2_with (at_builtin; refine append_val rfl _ _ (by rfl) w.heap.size _ L (by rfl) hown (by rfl) (by rfl) hlen hb.size ?_; intro v4 w4 hown4 hb4 _ _; have hb4 := hb.trans hb4)
      go_roundw
      case rel => exact ⟨k + 1, by go_num, Hlt.out, by rw [HT.out]; exact hown4, hb4⟩
      case measure => have := Hlt.out; simp [intOf]; omega
    · obtain rfl : k = ks.length := by omega
      rw [List.take_length] at hown
      go_wp2_with fail
      go_ret
      exact ⟨_, rfl, hown, hb⟩
end Go.Proofs.YtohjgegnamcnlaaGreat
