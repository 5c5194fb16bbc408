/- The examples of chapter 12: awake answers true. -/
import Derived.Test.YthnikjmdnhlneaaRunsD
import Derived.Test.YthnikjmdnhlneaaRunsE
import Derived.Test.YthnikjmdnhlneaaRunsF
namespace Go.Proofs.Ythnikjmdnhlneaa
open Go.RowKit

theorem spans_lit {w : World} {cs : Array Value} {t : TypeId} (b : Nat) (l : List Sp) (n : Nat) (hb : w.heap.size = b) (hn : n = l.length) (hc : cs.toList = flat l) (hl : n ≤ 1000000) : IsSpans (w.alloc (.cells cs t)) (.slice (some ⟨b, 0, none⟩) n n) l := by
  subst hn hb
  refine ⟨_, l.length, rfl, Nat.le_refl _, by omega, fun _ => ⟨w.heap.size, 0, rfl, by simp, fun i j hi hj => ?_⟩⟩
  have e : cs = (flat l).toArray := by rw [← hc]
  subst e
  have := flat_get l i j hi hj
  simp [this]

theorem op_ok {g : Bool → Bool → Bool} {a b l : List Sp} {r : List Sp × Int} (h : OpSpec g a b r) (ha : validB a = true) (hb : validB b = true) (hl : IsOp g a b l) (h2 : l.length ≤ 2000) : r = (l, 0) := by
  rw [OpSpec, if_pos (by rw [ha, hb]; rfl)] at h
  obtain ⟨l', h1, _, rfl⟩ := h
  rw [isOp_unique h1 hl, opR, if_pos h2]

theorem awake12_union : IsOp gUnion [(0, 3)] [(3, 5)] [(0, 5)] := by
  refine ⟨⟨by simp [OkSp], by simp⟩, fun x => ?_⟩
  rw [Bool.eq_iff_iff]
  simp [mem, gUnion]
  omega

set_option maxRecDepth 100000 in
theorem awake12_c (w : World) : Calls Try.prog 13 #[] w (Ret w (.bool true)) := by
  go_enter Try.func13, Try.ntmps13
  go_wp2_with fail
  refine (rUnion_c _ _ [(0, 3)] [(3, 5)] _ (by exact (spans_lit (w.heap.size + 1) [(0, 3)] 1 (by simp) rfl rfl (by omega)).alloc _) (by exact spans_lit (w.heap.size + 1 + 1) [(3, 5)] 1 (by simp) rfl rfl (by omega))).mono ?_
  rintro e w1 ⟨r, hr, v, rfl, hv, hb1⟩
  have hr' := op_ok hr (by rfl) (by rfl) awake12_union (by simp)
  subst hr'
  have hA := (((spans_lit (w := w) (t := 27) (cs := #[.int .i64 0, .int .i64 4, .int .i64 6, .int .i64 8]) w.heap.size [(0, 4), (6, 8)] 2 rfl rfl rfl (by omega)).alloc (.cells #[.int .i64 0, .int .i64 3] 27)).alloc (.cells #[.int .i64 3, .int .i64 5] 27)).below hb1
  have hw1 : Below w.heap.size w w1 := Below.trans (by go_grown) (hb1.mono (by simp; omega))
  clear hb1 hr
  go_wp2_with fail
  refine (rNth_c _ [(0, 4), (6, 8)] 4 _ (by omega) (by omega) hA).mono ?_
  rintro e w2 ⟨rfl, hb2⟩
  rw [show nthR [(0, 4), (6, 8)] 4 = (6, 0) from by rfl]
  go_wp2_with fail
  refine (rNext_c _ [(0, 4), (6, 8)] 4 _ (hA.below hb2)).mono ?_
  rintro e w3 ⟨rfl, hb3⟩
  rw [show nextR [(0, 4), (6, 8)] 4 = (6, true) from by rfl]
  have hw2 := hw1.trans (hb2.mono hw1.size)
  have hw3 := hw2.trans (hb3.mono hw2.size)
  have hA3 := (hA.below hb2).below hb3
  have hv3 := (hv.below hb2).below hb3
  clear hA hb2 hb3 hw1 hw2 hv
  go_wp2_with fail
  refine (slEqualSpan_c _ _ [(0, 5)] [(0, 5)] _ (by exact hv3.alloc _) (by exact spans_lit w3.heap.size [(0, 5)] 1 rfl rfl rfl (by omega))).mono ?_
  rintro e w4 ⟨rfl, hb4⟩
  have hw4 := (hw3.alloc hw3.size (.cells #[.int .i64 0, .int .i64 5] 27)).trans (hb4.mono (by have := hw3.size; simp; omega))
  have hA4 := (hA3.alloc (.cells #[.int .i64 0, .int .i64 5] 27)).below hb4
  rw [show sameL [(0, 5)] [(0, 5)] = true from by rfl]
  go_wp2_with fail
  refine (rMeasure_c _ [(0, 4), (6, 8)] _ hA4).mono ?_
  rintro e w5 ⟨rfl, hb5⟩
  rw [show (if validB [(0, 4), (6, 8)] = true then measL [(0, 4), (6, 8)] else 0) = 6 from by rfl]
  go_wp2_with fail
  refine (rRank_c _ [(0, 4), (6, 8)] 7 _ (hA4.below hb5)).mono ?_
  rintro e w6 ⟨rfl, hb6⟩
  rw [show (if validB [(0, 4), (6, 8)] = true then rankL 7 [(0, 4), (6, 8)] else 0) = 5 from by rfl]
  have hw5 := hw4.trans (hb5.mono hw4.size)
  have hw6 := hw5.trans (hb6.mono hw5.size)
  go_wp2
  go_ret
  exact ⟨rfl, hw6⟩
end Go.Proofs.Ythnikjmdnhlneaa
