/- The walk of civiltimeref44.taken. -/
import Derived.Test.YtahpcepnagpbdaaSwD
import Derived.Test.YtahpcepnagpbdaaSwE
namespace Go.Proofs.Ytahpcepnagpbdaa
open Go.RowKit Go.Shelf

/-- Has the room, by the table R, one of these spans that meets s. -/
def takB (l : List Sp) (R : List Int) (s : Sp) (r : Nat) (L : List Nat) : Bool := L.any fun i => (iv R i == (r : Int)) && comSp (sp l i) s
theorem takB_take {l : List Sp} {R : List Int} {s : Sp} {r : Nat} {L : List Nat} {k : Nat} (hk : k < L.length) (h : takB l R s r (L.take k) = false) :
    takB l R s r (L.take (k + 1)) = ((iv R (ix L k) == (r : Int)) && comSp (sp l (ix L k)) s) := by
  rw [take_ix hk]; unfold takB at *; rw [List.any_append, h]; simp
theorem takB_more {l : List Sp} {R : List Int} {s : Sp} {r : Nat} {L : List Nat} {k : Nat} (h : takB l R s r (L.take k) = true) : takB l R s r L = true := by
  unfold takB at *
  obtain ⟨x, hx, hp⟩ := List.any_eq_true.1 h
  exact List.any_eq_true.2 ⟨x, List.mem_of_mem_take hx, hp⟩

set_option maxRecDepth 100000 in
set_option maxHeartbeats 4000000 in
theorem r44taken_c (v vs vr : Value) (l : List Sp) (L : List Nat) (R : List Int) (p q : Int) (r : Nat) (w : World) (hs : IsSpans w v l) (hsome : IsInts w vs (idx L)) (hR : IsInts w vr R)
    (hl : L.length ≤ 100000) (hA : ∀ k, k < L.length → ix L k < l.length ∧ ix L k < R.length) :
    Calls Try.prog 50 #[v, vs, vr, .agg #[.int .i64 p, .int .i64 q], .int .i64 r] w (Ret w (.bool (takB l R (p, q) r L))) := by
  obtain ⟨A1, c1, rfl, hnc1, hc1⟩ := hs.form
  have hsome := rows_idx hsome
  obtain ⟨A2, c2, rfl, hnc2, hc2⟩ := hsome.form
  obtain ⟨A3, c3, rfl, hnc3, hc3⟩ := hR.form
  have HA := Lib.hid hA; clear hA
  go_enter Try.func50, Try.ntmps50
  go_wp2
  have hal := (Below.refl w.heap.size w).alloc (Nat.le_refl _) (.cells #[.int .i64 p, .int .i64 q] 31)
  have x0 : (w.alloc (.cells #[.int .i64 p, .int .i64 q] 31)).cell? ⟨w.heap.size, 0, none⟩ = some (.int .i64 p) := by simp
  have x1 : (w.alloc (.cells #[.int .i64 p, .int .i64 q] 31)).cell? ⟨w.heap.size, 1, none⟩ = some (.int .i64 q) := by simp
  have hxs : w.heap.size < (w.alloc (.cells #[.int .i64 p, .int .i64 q] 31)).heap.size := by simp
  generalize hw2 : w.alloc (.cells #[.int .i64 p, .int .i64 q] 31) = w1 at *
  clear hw2
  go_loopw [11] (fun i wr => ∃ k : Nat, i = .int .i64 k ∧ k ≤ L.length ∧ Hid (takB l R (p, q) r (L.take k) = false) ∧ Below w.heap.size w wr ∧ Below w1.heap.size w1 wr) (fun i _ => L.length - (intOf i).toNat)
  case atStart => exact ⟨0, rfl, Nat.zero_le _, rfl, hal, Below.refl _ _⟩
  case round =>
    obtain ⟨k, rfl, hk, HT, hb, hb1⟩ := hrel
    by_cases hlt : k < L.length
    · obtain ⟨hi1, hi2⟩ := HA.out k hlt
      obtain ⟨g1, o1, rfl, hg1⟩ := hs.addr (by omega)
      obtain ⟨g2, o2, rfl, hg2⟩ := hsome.addr (by omega)
      obtain ⟨g3, o3, rfl, hg3⟩ := hR.addr (by omega)
      have d0 := (hs.below hb).c0 _ hi1
      have d1 := (hs.below hb).c1 _ hi1
      have s0 := (hsome.below hb).i0 k hlt
      rw [iv_ix hlt] at s0
      have r0 := (hR.below hb).i0 _ hi2
      have x0 := (hb1.cell (p := ⟨w.heap.size, 0, none⟩) hxs).trans x0
      have x1 := (hb1.cell (p := ⟨w.heap.size, 1, none⟩) hxs).trans x1
      have ht := takB_take hlt HT.out
      rw [show sp l (ix L k) = (fr l (ix L k), tt l (ix L k)) from rfl] at ht
      have kC := fun (W : World) => r44common_c (fr l (ix L k)) (tt l (ix L k)) p q W
      generalize ix L k = t at *
      have z1 : g1 < wr.heap.size := Nat.lt_of_lt_of_le hg1 hb.size
      have z2 : g2 < wr.heap.size := Nat.lt_of_lt_of_le hg2 hb.size
      have z3 : g3 < wr.heap.size := Nat.lt_of_lt_of_le hg3 hb.size
      have z4 : w.heap.size < wr.heap.size := Nat.lt_of_lt_of_le hxs hb1.size
      have e0 := fun x : BW wr => bw_cell x d0 z1
      have e1 := fun x : BW wr => bw_cell x d1 z1
      have e2 := fun x : BW wr => bw_cell x s0 z2
      have e3 := fun x : BW wr => bw_cell x r0 z3
      have e4 := fun x : BW wr => bw_cell x x0 z4
      have e5 := fun x : BW wr => bw_cell x x1 z4
      clear d0 d1 s0 r0 x0 x1
      cases hq : iv R t == (r : Int)
      · rw [hq, Bool.false_and] at ht
        have Ht := Lib.hid ht
        clear ht kC
        go_wp2_with fail
        refine wp_region_below (by kernel_rfl) (by kernel_rfl) ?_
        repeat (go_big_quiet_step (fail))
        refine wpQuiet_nil ?_
        rintro w5 ⟨⟨_, hb5⟩, rfl⟩
        have hb6 := hb.trans (hb5.mono hb.size)
        have hb7 := hb1.trans (hb5.mono hb1.size)
        clear e0 e1 e2 e3 e4 e5 hq
        go_wp2
        go_roundw
        case rel => exact ⟨k + 1, by go_num, hlt, Ht, hb6, hb7⟩
        case measure => simp [intOf]; omega
      · rw [hq, Bool.true_and] at ht
        cases hcm : comSp (fr l t, tt l t) (p, q)
        · rw [hcm] at kC ht
          have KC := Lib.hid kC; have Ht := Lib.hid ht; clear kC ht hcm
          go_wp2_with fail
          refine wp_region_below (by kernel_rfl) (by kernel_rfl) ?_
          repeat (go_big_quiet_step ((go_at_call 58; exact calls_bw _ (KC.out _))))
          refine wpQuiet_nil ?_
          rintro w5 ⟨⟨_, hb5⟩, rfl⟩
          have hb6 := hb.trans (hb5.mono hb.size)
          have hb7 := hb1.trans (hb5.mono hb1.size)
          clear e0 e1 e2 e3 e4 e5 hq
          go_wp2
          go_roundw
          case rel => exact ⟨k + 1, by go_num, hlt, Ht, hb6, hb7⟩
          case measure => simp [intOf]; omega
        · rw [hcm] at kC ht
          have htt := takB_more ht
          rw [htt]
          have KC := Lib.hid kC; clear kC ht hcm htt
          go_wp2_with fail
          refine wp_region_below (by kernel_rfl) (by kernel_rfl) ?_
          repeat (go_big_quiet_step ((go_at_call 58; exact calls_bw _ (KC.out _))))
          refine wpQuiet_nil ?_
          rintro w5 ⟨⟨_, hb5⟩, rfl⟩
          have hb6 := hb.trans (hb5.mono hb.size)
          clear e0 e1 e2 e3 e4 e5 hq
          go_wp2
          go_ret
          exact ⟨rfl, hb6⟩
    · obtain rfl : k = L.length := by omega
      have ht := HT.out
      rw [List.take_length] at ht
      have Hf := Lib.hid ht
      clear ht HT
      go_wp2
      go_ret
      exact ⟨by rw [Hf.out]; rfl, hb⟩
end Go.Proofs.Ytahpcepnagpbdaa
