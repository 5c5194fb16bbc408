/- Law 42: slices.BinarySearchFunc at entries. -/
import Derived.Test.YtgdcgdjlhljbiaaIyB
namespace Go.Proofs.Ytgdcgdjlhljbiaa
open Go.RowKit

structure IsBs (l : List En) (x : En) (k : Nat) : Prop where
  le : k ≤ l.length
  lo : ∀ t, t < k → enLt (en l t) x
  hi : ∀ t, k ≤ t → t < l.length → ¬ enLt (en l t) x
theorem en_lt {l : List En} (ho : l.Pairwise enLt) {s t : Nat} (h : s < t) (ht : t < l.length) : enLt (en l s) (en l t) := by
  have := List.pairwise_iff_getElem.1 ho s t (by omega) ht h
  rwa [en_at, en_at] at this
theorem bs_found {l : List En} {x : En} {k : Nat} (ho : l.Pairwise enLt) (h : IsBs l x k) : x ∈ l ↔ k < l.length ∧ en l k = x := by
  constructor
  · intro hx
    obtain ⟨t, ht, e⟩ := List.mem_iff_getElem.1 hx
    rw [en_at] at e
    have h1 : k ≤ t := by
      rcases Nat.lt_or_ge t k with h1 | h1
      · have := h.lo t h1
        rw [e] at this
        exact absurd this (enLt_irrefl _)
      · exact h1
    rcases Nat.lt_or_ge k t with h2 | h2
    · have := en_lt ho h2 ht
      rw [e] at this
      exact absurd this (h.hi k (Nat.le_refl _) (by omega))
    · obtain rfl : k = t := by omega
      exact ⟨ht, e⟩
  · rintro ⟨h1, h2⟩
    rw [← h2, ← en_at h1]
    exact List.getElem_mem h1
def BsRet (l : List En) (x : En) (w : World) (e : Ending) (w' : World) : Prop := ∃ k : Nat, IsBs l x k ∧ e = .returned (.tuple #[.int .i64 k, .bool (decide (x ∈ l))]) ∧ Below w.heap.size w w'
set_option maxRecDepth 100000 in
set_option maxHeartbeats 2000000 in
theorem slBinEntry_c (v : Value) (l : List En) (x : En) (w : World) (hs : IsEnts w v l) (ho : l.Pairwise enLt) (hlen : l.length ≤ 100000) :
    Calls Try.prog 65 #[v, enV x, .func (.func 52) #[] #[]] w (BsRet l x w) := by
  obtain ⟨A, c, rfl, hnc, hc⟩ := hs.form
  obtain ⟨x0, x1, x2⟩ := x
  obtain ⟨w1, hw1⟩ : ∃ w1, w1 = w.alloc (.cells #[.int .i64 x0, .int .i64 x1, .int .i64 x2] 75) := ⟨_, rfl⟩
  have hX : w1.heap[w.heap.size]? = some (.cells #[.int .i64 x0, .int .i64 x1, .int .i64 x2] 75 (0, 0)) := by rw [hw1]; exact new_blk _ _ rfl
  have hb1 : Below w.heap.size w w1 := by rw [hw1]; exact (Below.refl _ _).alloc (Nat.le_refl _) _
  obtain ⟨B, hB⟩ : ∃ B, B = w.heap.size := ⟨_, rfl⟩
  have hBw : B < w1.heap.size := by have := lt_of_block hX; omega
  rw [← hB] at hX
  have hs1 := hs.below hb1
  have hal : 0 < l.length → ∃ b off, A = some ⟨b, off, none⟩ := fun h => by obtain ⟨b, off, e, _⟩ := hs.addr h; exact ⟨b, off, e⟩
  have Hal := Lib.hid hal
  have KC : Hid (∀ (y : En) (X : World), Calls Try.prog 52 #[.agg #[.int .i64 y.1, .int .i64 y.2.1, .int .i64 y.2.2], .agg #[.int .i64 x0, .int .i64 x1, .int .i64 x2]] X (Ret X (.int .i64 (cmpE y (x0, x1, x2))))) := Lib.hid fun y X => xcompare_b y (x0, x1, x2) X
  unfold enV
  have HX := Lib.hid hX; have Hb1 := Lib.hid hb1; have Hs1 := Lib.hid hs1; have HB := Lib.hid hB
  clear hX hb1 hs1 hs hal
  go_enter Try.func65, Try.ntmps65
  go_wp2_with fail
  rw [← hw1, ← hB]
  clear hw1 hB
  go_loopw [9, 10] (fun i j wr => ∃ a b : Nat, i = .int .i64 a ∧ j = .int .i64 b ∧ a ≤ b ∧ b ≤ l.length ∧ Hid ((∀ t, t < a → enLt (en l t) (x0, x1, x2)) ∧ (∀ t, b ≤ t → t < l.length → ¬ enLt (en l t) (x0, x1, x2))) ∧ Below w1.heap.size w1 wr) (fun i j _ => (intOf j).toNat - (intOf i).toNat)
  case atStart => exact ⟨0, l.length, rfl, rfl, Nat.zero_le _, Nat.le_refl _, ⟨fun t ht => absurd ht (by omega), fun t h1 h2 => absurd h1 (by omega)⟩, Below.refl _ _⟩
  case round =>
    obtain ⟨a, b, rfl, rfl, hab, hbl, Hab, hb⟩ := hrel
    have hblk := (hb.block _ hBw).trans HX.out
    have b0 := blk_cell hblk 0
    have b1 := blk_cell hblk 1
    have b2 := blk_cell hblk 2
    simp at b0 b1 b2
    have hBr : B < wr.heap.size := Nat.lt_of_lt_of_le hBw hb.size
    have hsr := Hs1.out.below hb
    by_cases hlt : a < b
    · obtain ⟨g, off, rfl⟩ := Hal.out (by omega)
      obtain ⟨m, hmm⟩ : ∃ m, m = (a + b) / 2 := ⟨_, rfl⟩
      have hm : m < l.length := by omega
      have hmz : m < b := by omega
      have hma : a ≤ m := by omega
      have Hm := Lib.hid (fun (t : Nat) (h : t < m) => en_lt ho h hm)
      have Hm' := Lib.hid (fun (t : Nat) (h : m < t) (ht : t < l.length) => en_lt ho h ht)
      have Hb := Lib.hid hb
      have Hi := Lib.hid (show ((a : Int) + (b : Int)) / 2 = (m : Int) from by omega)
      clear hblk hb hmm
      have e0 := fun X : BW wr => (hsr.below X.2).c0 m hm
      have e1 := fun X : BW wr => (hsr.below X.2).c1 m hm
      have e2 := fun X : BW wr => (hsr.below X.2).c2 m hm
      have e3 := fun X : BW wr => bw_cell X b0 hBr
      have e4 := fun X : BW wr => bw_cell X b1 hBr
      have e5 := fun X : BW wr => bw_cell X b2 hBr
      clear hsr b0 b1 b2
      go_wp2_with fail
      rw [Hi.out]
      by_cases hx : cmpE (en l m) (x0, x1, x2) < 0
      · have c1 : decide (cmpE (en l m) (x0, x1, x2) < 0) = true := decide_eq_true hx
        have hlx : enLt (en l m) (x0, x1, x2) := by have := cmpE_lt (en l m) (x0, x1, x2); rw [c1] at this; exact of_decide_eq_true this.symm
        have Hlx := Lib.hid hlx
        clear hx hlx
        refine wp_region_below (by kernel_rfl) (by kernel_rfl) ?_
        repeat (go_big_quiet_step ((go_at_call 52; exact calls_bw _ (KC.out _ _))))
        refine wpQuiet_nil ?_
        rintro w2 ⟨⟨_, hb2⟩, rfl⟩
        clear e0 e1 e2 e3 e4 e5
        go_wp2_with fail
        go_roundw
        case rel => exact ⟨m + 1, b, by go_num, rfl, by omega, hbl, ⟨fun t ht => by
          rcases Nat.lt_or_ge t m with h | h
          · exact enLt_trans (Hm.out t h) Hlx.out
          · obtain rfl : t = m := by omega
            exact Hlx.out, Hab.out.2⟩, Hb.out.trans (hb2.mono Hb.out.size)⟩
        case measure => simp [intOf]; omega
      · have c1 : decide (cmpE (en l m) (x0, x1, x2) < 0) = false := decide_eq_false hx
        have hlx : ¬ enLt (en l m) (x0, x1, x2) := by have := cmpE_lt (en l m) (x0, x1, x2); rw [c1] at this; exact of_decide_eq_false this.symm
        have Hlx := Lib.hid hlx
        clear hx hlx
        refine wp_region_below (by kernel_rfl) (by kernel_rfl) ?_
        repeat (go_big_quiet_step ((go_at_call 52; exact calls_bw _ (KC.out _ _))))
        refine wpQuiet_nil ?_
        rintro w2 ⟨⟨_, hb2⟩, rfl⟩
        clear e0 e1 e2 e3 e4 e5
        go_wp2_with fail
        go_roundw
        case rel => exact ⟨a, m, rfl, rfl, by omega, by omega, ⟨Hab.out.1, fun t h1 h2 hlt => by
          rcases Nat.lt_or_ge m t with h | h
          · exact Hlx.out (enLt_trans (Hm'.out t h h2) hlt)
          · obtain rfl : t = m := by omega
            exact Hlx.out hlt⟩, Hb.out.trans (hb2.mono Hb.out.size)⟩
        case measure => simp [intOf]; omega
    · obtain rfl : a = b := by omega
      have hbs : IsBs l (x0, x1, x2) a := ⟨hbl, Hab.out.1, Hab.out.2⟩
      have Hbs := Lib.hid hbs
      have Hfd := Lib.hid (bs_found ho hbs)
      have Hb := Lib.hid hb
      by_cases hn : a < l.length
      · obtain ⟨g, off, rfl⟩ := Hal.out (by omega)
        have e0 := fun X : BW wr => (hsr.below X.2).c0 a hn
        have e1 := fun X : BW wr => (hsr.below X.2).c1 a hn
        have e2 := fun X : BW wr => (hsr.below X.2).c2 a hn
        have e3 := fun X : BW wr => bw_cell X b0 hBr
        have e4 := fun X : BW wr => bw_cell X b1 hBr
        have e5 := fun X : BW wr => bw_cell X b2 hBr
        clear hblk hb hsr b0 b1 b2 hbs
        go_wp2_with fail
        obtain ⟨d, hd⟩ : ∃ d, d = decide ((x0, x1, x2) ∈ l) := ⟨_, rfl⟩
        cases hq : (cmpE (en l a) (x0, x1, x2) == 0)
        · have hd2 : decide ((x0, x1, x2) ∈ l) = false := decide_eq_false fun hin => by
            have h := (cmpE_eq _ _).2 (Hfd.out.1 hin).2
            rw [h] at hq; simp at hq
          have Hd := Lib.hid hd2
          clear hd hd2
          refine wp_region_below (by kernel_rfl) (by kernel_rfl) ?_
          repeat (go_big_quiet_step ((go_at_call 52; exact calls_bw _ (KC.out _ _))))
          refine wpQuiet_nil ?_
          rintro w2 ⟨⟨_, hb2⟩, rfl⟩
          clear e0 e1 e2 e3 e4 e5
          go_wp2_with fail
          go_ret2
          have hbF := (Hb1.out.trans (Hb.out.mono Hb1.out.size)).trans (hb2.mono (Hb1.out.trans (Hb.out.mono Hb1.out.size)).size)
          exact ⟨a, Hbs.out, by rw [Hd.out]; rfl, hbF⟩
        · have hd2 : decide ((x0, x1, x2) ∈ l) = true := decide_eq_true (Hfd.out.2 ⟨hn, (cmpE_eq _ _).1 (by simpa using hq)⟩)
          have Hd := Lib.hid hd2
          clear hd hd2
          refine wp_region_below (by kernel_rfl) (by kernel_rfl) ?_
          repeat (go_big_quiet_step ((go_at_call 52; exact calls_bw _ (KC.out _ _))))
          refine wpQuiet_nil ?_
          rintro w2 ⟨⟨_, hb2⟩, rfl⟩
          clear e0 e1 e2 e3 e4 e5
          go_wp2_with fail
          go_ret2
          have hbF := (Hb1.out.trans (Hb.out.mono Hb1.out.size)).trans (hb2.mono (Hb1.out.trans (Hb.out.mono Hb1.out.size)).size)
          exact ⟨a, Hbs.out, by rw [Hd.out]; rfl, hbF⟩
      · have hd2 : decide ((x0, x1, x2) ∈ l) = false := decide_eq_false fun hin => hn (Hfd.out.1 hin).1
        have Hd := Lib.hid hd2
        clear hblk hb hsr b0 b1 b2 hbs hd2
        go_wp2_with fail
        refine wp_region_below (by kernel_rfl) (by kernel_rfl) ?_
        repeat (go_big_quiet_step (fail))
        refine wpQuiet_nil ?_
        rintro w2 ⟨⟨_, hb2⟩, rfl⟩
        go_wp2_with fail
        go_ret2
        have hbF := (Hb1.out.trans (Hb.out.mono Hb1.out.size)).trans (hb2.mono (Hb1.out.trans (Hb.out.mono Hb1.out.size)).size)
        exact ⟨a, Hbs.out, by rw [Hd.out]; rfl, hbF⟩
end Go.Proofs.Ytgdcgdjlhljbiaa
