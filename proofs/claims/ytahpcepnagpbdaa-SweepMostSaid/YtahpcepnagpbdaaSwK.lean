/- The walks of slices.Clone at numbers and of SweepMost's closure apart; the plain law of SweepMost. -/
import Derived.Test.YtahpcepnagpbdaaSwD
import Derived.Test.YtahpcepnagpbdaaMostP
import Derived.Test.YtahpcepnagpbdaaSwJ
namespace Go.Proofs.Ytahpcepnagpbdaa
open Go.RowKit Go.Shelf

theorem eql_nilI (a : Option Addr) (n c : Nat) (w : World) : (binOp .eql 25 (.slice a n c) (.slice none 0 0)).run Try.prog w = .ok (.bool a.isNone) w := by
  simp only [binOp]
  simp [run_equal_slice_nil (P := Try.prog) w 25 3 a n c tInts]
attribute [local go_sem ↓] eql_nilI
def RetIx (w : World) (P : List Nat) (e : Ending) (w' : World) : Prop := ∃ v', e = .returned v' ∧ OwnsIx w' w.heap.size v' P ∧ Below w.heap.size w w'
set_option maxRecDepth 100000 in
theorem slCloneIdx_c (v : Value) (P : List Nat) (w : World) (base : Nat) (hown : OwnsIx w base v P) (hl : P.length ≤ 100000) : Calls Try.prog 24 #[v] w (RetIx w P) := by
  have hs := hown.ints
  have hPl := idx_len P
  obtain ⟨A, c, rfl, hnc, hc⟩ := hs.form
  cases A with
  | none =>
    have hz : (idx P).length = 0 := by
      rcases Nat.eq_zero_or_pos (idx P).length with h | h
      · exact h
      · obtain ⟨b, off, h1, _⟩ := hs.addr h; cases h1
    obtain rfl : P = [] := List.length_eq_zero_iff.1 (by omega)
    have hc0 : c = 0 := by
      rcases hown.2 with ⟨h, _⟩ | ⟨g, cap, cur, h, _⟩
      · injection h
      · cases h
    subst hc0
    clear hs hPl hnc hc
    go_enter Try.func24, Try.ntmps24
    go_wp2
    go_ret
    exact ⟨_, rfl, own_nilI _ _ _, Below.refl _ _⟩
  | some ad =>
    go_enter Try.func24, Try.ntmps24
    go_wp2_with (at_builtin; refine append_ints tInts tIntInfo (by rfl) (.tmp 5) (.tmp 6) (by rfl) w.heap.size _ _ 0 [] (idx P) (by rfl) (World.ownsRow_made w #[] 0 (Nat.le_refl _) (by unfold maxLen; omega) rfl) rfl (by rfl) (hs.alloc _) (by omega) (by simp) ?_; intro v3 w1 hown1 hb1)
    go_ret
    refine ⟨v3, rfl, ?_, ((Below.refl w.heap.size w).alloc (Nat.le_refl _) _).trans hb1⟩
    rw [List.nil_append, idx_len] at hown1
    exact hown1

/-- An operation that its guard lets run runs as one without a guard. -/
theorem wpList_unguard {P : Program} {ops : Array Oper} {rest : List Oper} {dst : Option Tmp} {op : Op} {ty : TypeId} {pos : String} {after : Array Edge} {gd : Option (Nat × Bool)} {a : Act} {w : World} {Q : Exit → Act → World → Prop}
    (hw : Region.wanted { dst := dst, op := op, type := ty, pos := pos, after := after, guard := gd } (yielded ops a.tmps) = true)
    (h : wpList P ops Q ({ dst := dst, op := op, type := ty, pos := pos, after := after, guard := none } :: rest) a w) : wpList P ops Q ({ dst := dst, op := op, type := ty, pos := pos, after := after, guard := gd } :: rest) a w := by
  unfold wpList at h ⊢
  rw [if_pos hw]
  rw [if_pos (by rfl)] at h
  exact h
/-- Are the first k of some indices inside and apart. -/
def apOk (l : List Sp) (s : Sp) (P : List Nat) (i : Nat) : Prop := insideB s (sp l (ix P i)) = true ∧ ∀ j, j < i → comSp (sp l (ix P i)) (sp l (ix P j)) = false
def Apart (l : List Sp) (s : Sp) (P : List Nat) (k : Nat) : Prop := ∀ i, i < k → apOk l s P i
def apartB (l : List Sp) (s : Sp) (P : List Nat) : Bool := (List.range P.length).all fun i => insideB s (sp l (ix P i)) && (List.range i).all fun j => !comSp (sp l (ix P i)) (sp l (ix P j))
theorem apartB_iff {l : List Sp} {s : Sp} {P : List Nat} : apartB l s P = true ↔ Apart l s P P.length := by
  unfold apartB Apart apOk
  simp only [List.all_eq_true, List.mem_range, Bool.and_eq_true, Bool.not_eq_true']
theorem apartB_not {l : List Sp} {s : Sp} {P : List Nat} {i : Nat} (hi : i < P.length) (h : ¬ apOk l s P i) : apartB l s P = false := by
  rw [Bool.eq_false_iff, Ne, apartB_iff]
  exact fun hA => h (hA i hi)
theorem apart_step {l : List Sp} {s : Sp} {P : List Nat} {k : Nat} (h : Apart l s P k) (hk : apOk l s P k) : Apart l s P (k + 1) := fun i hi => by
  rcases Nat.eq_or_lt_of_le (show i ≤ k by omega) with e | e
  · rw [e]; exact hk
  · exact h i e

set_option maxRecDepth 100000 in
set_option maxHeartbeats 4000000 in
theorem lawMost1_c (vk v : Value) (l : List Sp) (P : List Nat) (p q : Int) (g3 g4 : Nat) (w : World) (hs : IsSpans w v l) (hk : IsInts w vk (idx P)) (h3 : w.cell? ⟨g3, 0, none⟩ = some v)
    (h4 : w.cell? ⟨g4, 0, none⟩ = some (.int .i64 p)) (h5 : w.cell? ⟨g4, 1, none⟩ = some (.int .i64 q)) (hg3 : g3 < w.heap.size) (hg4 : g4 < w.heap.size) (hP : ∀ x ∈ P, x < l.length) (hl : l.length ≤ 100000) :
    Calls Try.prog 23 #[vk, .pointer (some ⟨g3, 0, none⟩), .pointer (some ⟨g4, 0, none⟩)] w (Ret w (.bool (apartB l (p, q) P))) := by
  obtain ⟨A, c, rfl, hnc, hc⟩ := hs.form
  replace hk := rows_idx hk
  obtain ⟨A2, c2, rfl, hnc2, hc2⟩ := hk.form
  have HP := Lib.hid hP; clear hP
  go_enter Try.func23, Try.ntmps23
  go_wp2
  go_loopw [11] (fun i wr => ∃ k : Nat, i = .int .i64 k ∧ k ≤ P.length ∧ Hid (Apart l (p, q) P k) ∧ Below w.heap.size w wr) (fun i _ => P.length - (intOf i).toNat)
  case atStart => exact ⟨0, rfl, Nat.zero_le _, fun i hi => absurd hi (by omega), Below.refl _ _⟩
  case round =>
    obtain ⟨k, rfl, hk', HA, hb⟩ := hrel
    obtain ⟨wo, rfl⟩ : ∃ wo : World, wo = wr := ⟨_, rfl⟩
    by_cases hlt : k < P.length
    · obtain ⟨b2, o2, rfl, hb2⟩ := hk.addr (by omega)
      have hx := HP.out _ (ix_mem hlt)
      obtain ⟨b1, o1, rfl, hb1⟩ := hs.addr (by omega)
      have s0 := (hk.below hb).i0 k hlt
      rw [iv_ix hlt] at s0
      have d0 := (hs.below hb).c0 _ hx
      have d1 := (hs.below hb).c1 _ hx
      have z1 : b1 < wo.heap.size := Nat.lt_of_lt_of_le hb1 hb.size
      have z2 : b2 < wo.heap.size := Nat.lt_of_lt_of_le hb2 hb.size
      have z3 : g3 < wo.heap.size := Nat.lt_of_lt_of_le hg3 hb.size
      have z4 : g4 < wo.heap.size := Nat.lt_of_lt_of_le hg4 hb.size
      have x3 := (hb.cell (p := ⟨g3, 0, none⟩) hg3).trans h3
      have x4 := (hb.cell (p := ⟨g4, 0, none⟩) hg4).trans h4
      have x5 := (hb.cell (p := ⟨g4, 1, none⟩) hg4).trans h5
      have Hno := Lib.hid (fun h => apartB_not (l := l) (s := (p, q)) hlt h)
      have Hstep := Lib.hid (fun h => apart_step HA.out h)
      have hap : ∀ (hi : insideB (p, q) (fr l (ix P k), tt l (ix P k)) = true) (hc : ∀ j, j < k → comSp (fr l (ix P k), tt l (ix P k)) (fr l (ix P j), tt l (ix P j)) = false), apOk l (p, q) P k := fun hi hc => ⟨hi, hc⟩
      have hin : apOk l (p, q) P k → insideB (p, q) (fr l (ix P k), tt l (ix P k)) = true := fun h => h.1
      have hcm : ∀ j, j < k → apOk l (p, q) P k → comSp (fr l (ix P k), tt l (ix P k)) (fr l (ix P j), tt l (ix P j)) = false := fun j hj h => h.2 j hj
      generalize ix P k = t at *
      generalize fr l t = a at *
      generalize tt l t = b at *
      have f0 := fun X : BW wo => bw_cell X d0 z1
      have f1 := fun X : BW wo => bw_cell X d1 z1
      have f2 := fun X : BW wo => bw_cell X x3 z3
      have f3 := fun X : BW wo => bw_cell X x4 z4
      have f4 := fun X : BW wo => bw_cell X x5 z4
      have hgo : (decide (a < p) = true ∧ insideB (p, q) (a, b) = false) ∨ (decide (a < p) = false ∧ decide (q < b) = true ∧ insideB (p, q) (a, b) = false) ∨ (decide (a < p) = false ∧ decide (q < b) = false ∧ insideB (p, q) (a, b) = true) := by
        by_cases e1 : a < p
        · exact .inl ⟨decide_eq_true e1, by simp [insideB]; omega⟩
        · by_cases e2 : q < b
          · exact .inr (.inl ⟨decide_eq_false e1, decide_eq_true e2, by simp [insideB]; omega⟩)
          · exact .inr (.inr ⟨decide_eq_false e1, decide_eq_false e2, by simp [insideB]; omega⟩)
      have y1 : decide ((t : Int) < 0) = false := decide_eq_false (by omega)
      have y2 : decide ((l.length : Int) ≤ (t : Int)) = false := decide_eq_false (by omega)
      have y3 : decide (l.length ≤ t) = false := decide_eq_false (by omega)
      rcases hgo with ⟨e1, hi⟩ | ⟨e1, e2, hi⟩ | ⟨e1, e2, hi⟩
      rotate_right
      · have Hap := Lib.hid (hap hi); have Hcm := Lib.hid hcm
        clear hap hin hcm hi
        go_wp2_with fail
        refine wp_region_below (by kernel_rfl) (by kernel_rfl) ?_
        repeat (go_big_quiet_step (fail))
        refine wpQuiet_nil ?_
        rintro w5 ⟨⟨_, hb5⟩, rfl⟩
        clear f0 f1 f2 f3 f4
        have hbw := hb.trans (hb5.mono hb.size)
        go_wp2
        go_loopw [48] (fun i wr => ∃ j : Nat, i = .int .i64 j ∧ j ≤ k ∧ Hid (∀ i, i < j → comSp (a, b) (fr l (ix P i), tt l (ix P i)) = false) ∧ Below w5.heap.size w5 wr) (fun i _ => k - (intOf i).toNat)
        case atStart => exact ⟨0, rfl, Nat.zero_le _, fun i hi => absurd hi (by omega), Below.refl _ _⟩
        case round =>
          obtain ⟨j, rfl, hj, HC, hbi⟩ := hrel
          by_cases hlj : j < k
          · have hjP : j < P.length := by omega
            have hbx := hbw.trans (hbi.mono hbw.size)
            have hb6 := hb5.trans (hbi.mono hb5.size)
            have hy := HP.out _ (ix_mem hjP)
            have s1 := (hk.below hbx).i0 j hjP
            rw [iv_ix hjP] at s1
            have n0 := (hs.below hbx).c0 _ hy
            have n1 := (hs.below hbx).c1 _ hy
            have m0 := (hb6.cell (p := ⟨b1, o1 + t * 2, none⟩) z1).trans d0
            have m1 := (hb6.cell (p := ⟨b1, o1 + t * 2 + 1, none⟩) z1).trans d1
            have x3 := (hbx.cell (p := ⟨g3, 0, none⟩) hg3).trans h3
            have zz1 : b1 < wr.heap.size := Nat.lt_of_lt_of_le z1 hb6.size
            have zz3 : g3 < wr.heap.size := Nat.lt_of_lt_of_le z3 hb6.size
            have hcj := Hcm.out j hlj
            have Hcs := Lib.hid (fun (h : comSp (a, b) (fr l (ix P j), tt l (ix P j)) = false) (i : Nat) (hi : i < j + 1) => (show comSp (a, b) (fr l (ix P i), tt l (ix P i)) = false by
              rcases Nat.eq_or_lt_of_le (show i ≤ j by omega) with e | e
              · rw [e]; exact h
              · exact HC.out i e))
            generalize ix P j = t' at *
            generalize fr l t' = a' at *
            generalize tt l t' = b' at *
            have f0 := fun X : BW wr => bw_cell X n0 zz1
            have f1 := fun X : BW wr => bw_cell X n1 zz1
            have f2 := fun X : BW wr => bw_cell X x3 zz3
            have f3 := fun X : BW wr => bw_cell X m0 zz1
            have f4 := fun X : BW wr => bw_cell X m1 zz1
            have hgo : (decide (a < b') = false ∧ comSp (a, b) (a', b') = false) ∨ (decide (a < b') = true ∧ decide (a' < b) = false ∧ comSp (a, b) (a', b') = false) ∨ (decide (a < b') = true ∧ decide (a' < b) = true ∧ comSp (a, b) (a', b') = true) := by
              by_cases e1 : a < b'
              · by_cases e2 : a' < b
                · exact .inr (.inr ⟨decide_eq_true e1, decide_eq_true e2, by simp [comSp, e1, e2]⟩)
                · exact .inr (.inl ⟨decide_eq_true e1, decide_eq_false e2, by simp [comSp, e2]⟩)
              · exact .inl ⟨decide_eq_false e1, by simp [comSp, e1]⟩
            clear m0 m1 n0 n1 d0 d1
            rcases hgo with ⟨q1, hcx⟩ | ⟨q1, q2, hcx⟩ | ⟨q1, q2, hcx⟩
            rotate_right
            · have Hres := Lib.hid (Hno.out (fun h => by have := hcj h; rw [hcx] at this; cases this))
              clear hcj hcx
              go_wp2_with fail
              refine wp_region_below (by kernel_rfl) (by kernel_rfl) ?_
              repeat (go_big_quiet_step (fail))
              refine wpQuiet_nil ?_
              rintro w7 ⟨⟨_, hb7⟩, rfl⟩
              clear f0 f1 f2 f3 f4
              have hfin := hbx.trans (hb7.mono hbx.size)
              go_wp2
              go_ret
              exact ⟨ret_bool Hres.out.symm, hfin⟩
            all_goals
              have Hn := Lib.hid (Hcs.out hcx)
              clear hcj hcx
              go_wp2_with fail
              refine wp_region_below (by kernel_rfl) (by kernel_rfl) ?_
              repeat (go_big_quiet_step (fail))
              refine wpQuiet_nil ?_
              rintro w7 ⟨⟨_, hb7⟩, rfl⟩
              clear f0 f1 f2 f3 f4
              have hfin := hbi.trans (hb7.mono hbi.size)
              go_wp2
              go_roundw
              case rel => exact ⟨j + 1, by go_num, hlj, Hn, hfin⟩
              case measure => simp [intOf]; omega
          · obtain rfl : j = k := by omega
            have Hn := Lib.hid (Hstep.out (Hap.out HC.out))
            have hfin := hbw.trans (hbi.mono hbw.size)
            go_wp2
            go_roundw
            case rel => exact ⟨j + 1, by go_num, hlt, Hn, hfin⟩
            case measure => simp [intOf]; omega
      all_goals
        have Hres := Lib.hid (Hno.out (fun h => by have := hin h; rw [hi] at this; cases this))
        clear hap hin hcm hi
        go_wp2_with fail
        refine wp_region_below (by kernel_rfl) (by kernel_rfl) ?_
        repeat (go_big_quiet_step (fail))
        refine wpQuiet_nil ?_
        rintro w5 ⟨⟨_, hb5⟩, rfl⟩
        clear f0 f1 f2 f3 f4
        have hfin := hb.trans (hb5.mono hb.size)
        go_wp2
        go_ret
        exact ⟨ret_bool Hres.out.symm, hfin⟩
    · obtain rfl : k = P.length := by omega
      have Hres := Lib.hid (apartB_iff.2 HA.out)
      clear HA
      go_wp2
      go_ret
      exact ⟨ret_bool Hres.out.symm, hb⟩
end Go.Proofs.Ytahpcepnagpbdaa
