/- Law 39: values in memory; is a value valid. -/
import Derived.Laws.RangeAny
import Derived.Lib.OthersKept
import Derived.Deep.LoopGhost
import Derived.Shelf.GgClosure.StringsIndexFunc
import Derived.Test.YtohjgegnamcnlaaGreatAgP
import Derived.Test.YtohjgegnamcnlaaGreatDjM
namespace Go.Proofs.YtohjgegnamcnlaaGreat
open Go.RowKit Go.Shelf
open Go.Sort (grow grow_grow grow_empty)

/-! ### texts -/
def badB (x : Nat) : Bool := decide (x < 32) || decide (126 < x)
def textB (s : ByteArray) : Bool := s.data.toList.all fun b => !badB b.toNat
theorem idx_from (s : ByteArray) : ∀ (f pos : Nat), s.size ≤ pos + f → (0 ≤ Lib.idxFuncFrom badB true s f pos ↔ ∃ i, pos ≤ i ∧ ∃ h : i < s.size, badB (s[i]'h).toNat = true)
  | 0, pos, h => by
    unfold Lib.idxFuncFrom
    exact ⟨fun h => absurd h (by omega), fun ⟨i, h1, h2, _⟩ => by omega⟩
  | f + 1, pos, h => by
    unfold Lib.idxFuncFrom
    by_cases hp : pos < s.size
    · rw [if_pos hp]
      by_cases ha : (s[pos]'hp).toNat < 128
      · rw [decode_ascii s pos hp ha]
        simp only
        cases hb : badB (s[pos]'hp).toNat
        · rw [if_neg (by decide), idx_from s f (pos + 1) (by omega)]
          constructor
          · rintro ⟨i, h1, h2, h3⟩
            exact ⟨i, by omega, h2, h3⟩
          · rintro ⟨i, h1, h2, h3⟩
            refine ⟨i, ?_, h2, h3⟩
            rcases Nat.eq_or_lt_of_le h1 with e | e
            · subst e
              rw [hb] at h3
              cases h3
            · exact e
        · rw [if_pos rfl]
          exact ⟨fun _ => ⟨pos, Nat.le_refl _, hp, hb⟩, fun _ => by omega⟩
      · obtain ⟨h1, _⟩ := decode_high s pos hp (by omega)
        have hb : badB (Utf8.decode s pos).1 = true := by unfold badB; rw [decide_eq_true (show 126 < (Utf8.decode s pos).1 by omega)]; simp
        have hb2 : badB (s[pos]'hp).toNat = true := by unfold badB; rw [decide_eq_true (show 126 < (s[pos]'hp).toNat by omega)]; simp
        rw [if_pos hb]
        exact ⟨fun _ => ⟨pos, Nat.le_refl _, hp, hb2⟩, fun _ => by omega⟩
    · rw [if_neg hp]
      exact ⟨fun h => absurd h (by omega), fun ⟨i, h1, h2, _⟩ => by omega⟩
theorem idx_text (s : ByteArray) : decide (0 ≤ Lib.idxFunc badB true s) = !textB s := by
  have h := idx_from s s.size 0 (by omega)
  have key : (∃ i, 0 ≤ i ∧ ∃ h : i < s.size, badB (s[i]'h).toNat = true) ↔ textB s = false := by
    unfold textB
    rw [List.all_eq_false]
    constructor
    · rintro ⟨i, _, h1, h2⟩
      refine ⟨s[i]'h1, ?_, by rw [h2]; decide⟩
      exact Array.mem_toList_iff.2 (Array.getElem_mem _)
    · rintro ⟨b, hb, h2⟩
      obtain ⟨i, h1, rfl⟩ := List.getElem_of_mem hb
      refine ⟨i, Nat.zero_le _, h1, ?_⟩
      have : badB (s.data.toList[i]).toNat = true := by simpa using h2
      exact this
  unfold Lib.idxFunc
  rw [key] at h
  cases ht : textB s
  · rw [decide_eq_true (h.2 ht)]; rfl
  · rw [decide_eq_false (fun e => by rw [h.1 e] at ht; cases ht)]; rfl
/-! ### values -/
def vB (v : Val) : Bool :=
  if v.1 = 1 then v.2.2.toList.isEmpty else if v.1 = 2 then decide (v.2.1 = 0) && decide (v.2.2.size ≤ 30) && textB v.2.2 else if v.1 = 3 then v.2.2.toList.isEmpty && (decide (v.2.1 = 0) || decide (v.2.1 = 1))
  else if v.1 = 4 then v.2.2.toList.isEmpty && decide (-62135596800 ≤ v.2.1) && decide (v.2.1 ≤ 253402300800) else false
def encV (v : Val) : Value := .agg #[.int .i64 v.1, .int .i64 v.2.1, .string v.2.2]
theorem vValid1_c (x : Nat) (w : World) : Calls Tryz.prog 100 #[.int .i32 (x : Int)] w (fun e w' => e = .returned (.bool (badB x)) ∧ w' = w) := by
  unfold badB
  have e1 : decide ((x : Int) < 32) = decide (x < 32) := decide_eq_decide.2 (by omega)
  have e2 : decide ((126 : Int) < (x : Int)) = decide (126 < x) := decide_eq_decide.2 (by omega)
  cases h1 : decide (x < 32) <;> cases h2 : decide (126 < x)
  all_goals
    rw [h1] at e1
    rw [h2] at e2
    go_enter Tryz.func100, Tryz.ntmps100
    go_wp2_with fail
    go_ret
    exact ⟨rfl, rfl⟩
theorem ent_vValid1 : ∀ (args : Array Value) (w : World), Sem.run Tryz.prog (callFunc 100 args) w = .ok (.enter 100 args) w := fun _ _ => by kernel_rfl
theorem iter_alloc (w : World) (s : ByteArray) (p q : Nat) : (w.alloc (.stringIter s p)).iterAt w.heap.size s q = w.alloc (.stringIter s q) := by
  unfold World.iterAt World.alloc
  congr 1
  apply Array.ext_getElem?
  intro i
  rw [Array.getElem?_setIfInBounds]
  by_cases h : w.heap.size = i
  · subst h
    simp
  · rw [if_neg h, Array.getElem?_push, Array.getElem?_push, if_neg (fun e => h e.symm), if_neg (fun e => h e.symm)]
theorem iter_new (w : World) (s : ByteArray) (p : Nat) : (w.alloc (.stringIter s p)).heap[w.heap.size]? = some (.stringIter s p) := by
  unfold World.alloc
  simp only [Array.getElem?_push_size]
theorem strindex_c (s : ByteArray) (w : World) : Calls Tryz.prog 150 #[.string s, .func (.func 100) #[] #[], .bool true] w (Grown w (.int .i64 (Lib.idxFunc badB true s))) := by
  have eg := ent_vValid1
  obtain ⟨R, hR⟩ : ∃ r, r = Lib.idxFunc badB true s := ⟨_, rfl⟩
  rw [← hR]
  have HR := Lib.hid hR
  clear hR
  go_enter Tryz.func150, Tryz.ntmps150
  go_wp2
  go_loopg [] s.size (fun gf wx => ∃ pos : Nat, wx = w.alloc (.stringIter s pos) ∧ Hid (Lib.idxFuncFrom badB true s gf pos = R) ∧ s.size ≤ pos + gf)
  case atStart => exact ⟨0, rfl, Lib.hid (by rw [HR.out]; rfl), by omega⟩
  case round =>
    obtain ⟨pos, hwx, HL, hfu⟩ := hrel
    have hit : wr.heap[w.heap.size]? = some (.stringIter s pos) := by rw [hwx]; exact iter_new w s pos
    by_cases hps : pos < s.size
    · obtain ⟨g', rfl⟩ : ∃ g', gk = g' + 1 := ⟨gk - 1, by omega⟩
      have hnx : ∀ ty, (Instr.next (.pointer (some ⟨w.heap.size, 0, none⟩)) true ty).run Tryz.prog wr = _ := fun ty => Lib.run_next_any_at wr w.heap.size s pos ty hit hps
      have hwd := Lib.width_pos s pos
      have hleft := HL.out
      obtain ⟨r, hr⟩ : ∃ r, (Utf8.decode s pos).1 = r := ⟨_, rfl⟩
      obtain ⟨k, hk⟩ : ∃ k, (Utf8.decode s pos).2 = k := ⟨_, rfl⟩
      simp only [Lib.idxFuncFrom, hps, if_true, hr, hk] at hleft
      rw [hr, hk, hwx, iter_alloc] at hnx
      rw [hk] at hwd
      obtain ⟨W, hW⟩ : ∃ y, y = w.alloc (.stringIter s (pos + k)) := ⟨_, rfl⟩
      rw [← hW] at hnx
      rw [← hwx] at hnx
      have HW := Lib.hid hW
      have cS := vValid1_c r W
      clear hit hwx HL hr hk hW
      cases hb : badB r
      · rw [hb] at cS hleft
        rw [if_neg (by decide)] at hleft
        have HL := Lib.hid hleft
        have CS := Lib.hid cS
        clear cS hleft hb
        go_wp2_with (go_at_fn 100; refine CS.out.mono ?_; rintro e W' ⟨rfl, hW'⟩; subst hW')
        go_roundg g'
        case measure => omega
        case rel => exact ⟨pos + k, HW.out, HL, by omega⟩
      · rw [hb, if_pos rfl] at hleft
        rw [hb] at cS
        have HL := Lib.hid hleft
        have CS := Lib.hid cS
        clear cS hleft hb
        go_wp2_with (go_at_fn 100; refine CS.out.mono ?_; rintro e W' ⟨rfl, hW'⟩; subst hW')
        go_ret
        exact ⟨by rw [← HL.out]; rfl, by rw [HW.out]; exact grown_alloc _ _⟩
    · have hnx : ∀ ty, (Instr.next (.pointer (some ⟨w.heap.size, 0, none⟩)) true ty).run Tryz.prog wr = _ := fun ty => Lib.run_next_end_at wr w.heap.size s pos ty hit hps
      have hleft := HL.out
      rw [Lib.idxFuncFrom_end badB true s gk pos hps] at hleft
      have HL := Lib.hid hleft
      have HX := Lib.hid hwx
      clear hleft hwx hit
      go_wp2
      go_ret
      exact ⟨by rw [← HL.out]; rfl, by rw [HX.out]; exact grown_alloc _ _⟩
theorem strIndex_c (s : ByteArray) (w : World) : Calls Tryz.prog 118 #[.string s, .func (.func 100) #[] #[]] w (Grown w (.int .i64 (Lib.idxFunc badB true s))) := by
  have K := Lib.hid (strindex_c s w)
  generalize Lib.idxFunc badB true s = R at K ⊢
  go_enter Tryz.func118, Tryz.ntmps118
  go_wp2_with fail
  refine K.out.mono ?_
  rintro e w' ⟨rfl, hg⟩
  have Hg := Lib.hid hg
  clear hg
  go_wp2_with fail
  go_ret
  exact ⟨rfl, Hg.out⟩
theorem strContains_c (s : ByteArray) (w : World) : Calls Tryz.prog 99 #[.string s, .func (.func 100) #[] #[]] w (Grown w (.bool (!textB s))) := by
  have K := Lib.hid (strIndex_c s w)
  have hx := idx_text s
  generalize Lib.idxFunc badB true s = R at K hx
  cases ht : textB s
  all_goals
    rw [ht] at hx
    clear ht
    have hx : decide (0 ≤ R) = _ := hx
    go_enter Tryz.func99, Tryz.ntmps99
    go_wp2_with fail
    refine K.out.mono ?_
    rintro e w' ⟨rfl, hg⟩
    have Hg := Lib.hid hg
    clear hg
    go_wp2_with fail
    go_ret
    exact ⟨rfl, Hg.out⟩
set_option maxRecDepth 100000 in
theorem vValid_c (k n : Int) (s : ByteArray) (w : World) : Calls Tryz.prog 69 #[.agg #[.int .i64 k, .int .i64 n, .string s]] w (Grown w (.bool (vB (k, n, s)))) := by
  obtain ⟨W, hW⟩ : ∃ y, y = w.alloc (.cells #[.int .i64 k, .int .i64 n, .string s] 51) := ⟨_, rfl⟩
  have hb : Below w.heap.size w W := by rw [hW]; exact (Below.refl _ _).alloc (Nat.le_refl _) _
  have hT : W.heap[w.heap.size]? = some (.cells #[.int .i64 k, .int .i64 n, .string s] 51 (0, 0)) := by rw [hW]; exact heap_alloc_new w _
  have a0 := blk_get hT 0
  have a1 := blk_get hT 1
  have a2 := blk_get hT 2
  simp at a0 a1 a2
  rw [hW] at a0 a1 a2
  have HW := Lib.hid hW; have Hb := Lib.hid hb; have HT := Lib.hid hT
  have KC := Lib.hid fun X => strContains_c s X
  obtain ⟨R, hR⟩ : ∃ b, b = vB (k, n, s) := ⟨_, rfl⟩
  rw [← hR]
  unfold vB at hR
  simp only at hR
  clear hW hb hT
  by_cases k1 : k = 1
  · rw [if_pos k1] at hR
    have HR := Lib.hid hR
    subst k1
    clear hR
    go_enter Tryz.func69, Tryz.ntmps69
    go_wp2_with fail
    go_ret
    exact ⟨by rw [HR.out]; rfl, grown_alloc _ _⟩
  rw [if_neg k1] at hR
  have e1 : (k == 1) = false := by rw [beq_eq_false_iff_ne]; exact k1
  by_cases k2 : k = 2
  · rw [if_pos k2] at hR
    subst k2
    cases q1 : (n == 0)
    · have q11 : decide (n = 0) = false := by simpa using q1
      have HR : Hid (R = false) := Lib.hid (by rw [hR, q11]; rfl)
      clear hR q11
      go_enter Tryz.func69, Tryz.ntmps69
      go_wp2_with fail
      go_ret
      exact ⟨by rw [HR.out]; rfl, grown_alloc _ _⟩
    · have q11 : decide (n = 0) = true := by simpa using q1
      have q2 : decide ((s.size : Int) ≤ 30) = decide (s.size ≤ 30) := decide_eq_decide.2 (by omega)
      rw [q11] at hR
      obtain rfl : n = 0 := of_decide_eq_true q11
      cases q3 : decide (s.size ≤ 30)
      · rw [q3] at q2 hR
        have HR : Hid (R = false) := Lib.hid (by rw [hR]; rfl)
        clear hR
        go_enter Tryz.func69, Tryz.ntmps69
        go_wp2_with fail
        go_ret
        exact ⟨by rw [HR.out]; rfl, grown_alloc _ _⟩
      · rw [q3] at q2 hR
        have HR : Hid (R = textB s) := Lib.hid (by rw [hR]; simp)
        clear hR
        go_enter Tryz.func69, Tryz.ntmps69
        go_wp2_with fail
        rw [← HW.out]
        refine (KC.out W).mono ?_
        rintro e w2 ⟨rfl, hb2⟩
        have Hb2 := Lib.hid (grown_trans (w1 := W) (by rw [HW.out]; exact grown_alloc _ _) hb2)
        clear hb2
        go_wp2_with fail
        go_ret
        exact ⟨by rw [HR.out]; simp, Hb2.out⟩
  rw [if_neg k2] at hR
  have e2 : (k == 2) = false := by rw [beq_eq_false_iff_ne]; exact k2
  by_cases k3 : k = 3
  · rw [if_pos k3] at hR
    subst k3
    cases q1 : s.toList.isEmpty
    · have HR : Hid (R = false) := Lib.hid (by rw [hR, q1]; rfl)
      clear hR
      go_enter Tryz.func69, Tryz.ntmps69
      go_wp2_with fail
      go_ret
      exact ⟨by rw [HR.out]; rfl, grown_alloc _ _⟩
    · cases q2 : (n == 0)
      · have q22 : decide (n = 0) = false := by simpa using q2
        have HR : Hid (R = (n == 1)) := Lib.hid (by rw [hR, q1, q22]; rfl)
        clear hR q22
        go_enter Tryz.func69, Tryz.ntmps69
        go_wp2_with fail
        go_ret
        exact ⟨by rw [HR.out]; rfl, grown_alloc _ _⟩
      · have q22 : decide (n = 0) = true := by simpa using q2
        have HR : Hid (R = true) := Lib.hid (by rw [hR, q1, q22]; rfl)
        clear hR q22
        go_enter Tryz.func69, Tryz.ntmps69
        go_wp2_with fail
        go_ret
        exact ⟨by rw [HR.out]; rfl, grown_alloc _ _⟩
  rw [if_neg k3] at hR
  have e3 : (k == 3) = false := by rw [beq_eq_false_iff_ne]; exact k3
  by_cases k4 : k = 4
  · rw [if_pos k4] at hR
    subst k4
    cases q1 : s.toList.isEmpty
    · have HR : Hid (R = false) := Lib.hid (by rw [hR, q1]; rfl)
      clear hR
      go_enter Tryz.func69, Tryz.ntmps69
      go_wp2_with fail
      go_ret
      exact ⟨by rw [HR.out]; rfl, grown_alloc _ _⟩
    · cases q2 : decide (-62135596800 ≤ n)
      · have HR : Hid (R = false) := Lib.hid (by rw [hR, q1, q2]; rfl)
        clear hR
        go_enter Tryz.func69, Tryz.ntmps69
        go_wp2_with fail
        go_ret
        exact ⟨by rw [HR.out]; rfl, grown_alloc _ _⟩
      · have HR : Hid (R = decide (n ≤ 253402300800)) := Lib.hid (by rw [hR, q1, q2]; simp)
        clear hR
        go_enter Tryz.func69, Tryz.ntmps69
        go_wp2_with fail
        go_ret
        exact ⟨by rw [HR.out]; rfl, grown_alloc _ _⟩
  · rw [if_neg k4] at hR
    have e4 : (k == 4) = false := by rw [beq_eq_false_iff_ne]; exact k4
    have HR := Lib.hid hR
    clear hR
    go_enter Tryz.func69, Tryz.ntmps69
    go_wp2_with fail
    go_ret
    exact ⟨by rw [HR.out]; rfl, grown_alloc _ _⟩
end Go.Proofs.YtohjgegnamcnlaaGreat
