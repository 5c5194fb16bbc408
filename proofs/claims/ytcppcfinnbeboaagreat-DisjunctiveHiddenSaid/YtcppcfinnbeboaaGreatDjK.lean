/- Law 47: the chapter's example is narrowed. -/
import Derived.Test.YtcppcfinnbeboaaGreatDjY
import Derived.Test.YtcppcfinnbeboaaGreatDjZ
import Derived.Test.YtcppcfinnbeboaaGreatDjE
namespace Go.Proofs.YtcppcfinnbeboaaGreat
open Go.RowKit Go.Shelf

theorem lit4 {w : World} (a b c d : Int) : IsInts (w.alloc (.cells #[.int .i64 a, .int .i64 b, .int .i64 c, .int .i64 d] 3)) (.slice (some ⟨w.heap.size, 0, none⟩) 4 4) [a, b, c, d] := by
  refine ⟨_, _, rfl, Nat.le_refl _, by omega, fun _ => ⟨w.heap.size, 0, rfl, by simp, fun i j hi hj => ?_⟩⟩
  obtain rfl : j = 0 := by omega
  rw [blk_get (heap_alloc_new w _)]
  simp only [List.length_cons, List.length_nil] at hi
  unfold intCell iv
  rcases (by omega : i = 0 ∨ i = 1 ∨ i = 2 ∨ i = 3) with rfl | rfl | rfl | rfl <;> rfl
theorem lit2 {w : World} (a b : Int) : IsInts (w.alloc (.cells #[.int .i64 a, .int .i64 b] 3)) (.slice (some ⟨w.heap.size, 0, none⟩) 2 2) [a, b] := by
  refine ⟨_, _, rfl, Nat.le_refl _, by omega, fun _ => ⟨w.heap.size, 0, rfl, by simp, fun i j hi hj => ?_⟩⟩
  obtain rfl : j = 0 := by omega
  rw [blk_get (heap_alloc_new w _)]
  simp only [List.length_cons, List.length_nil] at hi
  unfold intCell iv
  rcases (by omega : i = 0 ∨ i = 1) with rfl | rfl <;> rfl
theorem iv_get (l : List Int) (i : Nat) (h : i < l.length) : iv l i = l[i] := by unfold iv; simp [h]
theorem pairs2 (a b c d : Int) : pairsF [a, b, c, d] 2 = [(a, b), (c, d)] := by
  simp only [pairsF]
  rw [iv_get _ _ (by simp), iv_get _ _ (by simp), iv_get _ _ (by simp), iv_get _ _ (by simp)]
  rfl
theorem pairs1 (a b : Int) : pairsF [a, b] 1 = [(a, b)] := by
  simp only [pairsF]
  rw [iv_get _ _ (by simp), iv_get _ _ (by simp)]
  rfl
set_option maxRecDepth 100000 in
set_option maxHeartbeats 4000000 in
theorem awake47_c (w : World) : Calls Tryz.prog 8 #[] w (Ret w (.bool true)) := by
  have K1 : Hid (∀ W : World, Calls Tryz.prog 25 #[.int .i64 0, .int .i64 1, .slice (some ⟨W.heap.size, 0, none⟩) 4 4] (W.alloc (.cells #[.int .i64 2, .int .i64 5, .int .i64 10, .int .i64 13] 3)) (ChoRet 0 1 [(2, 5), (10, 13)] (W.alloc (.cells #[.int .i64 2, .int .i64 5, .int .i64 10, .int .i64 13] 3)))) := Lib.hid fun W => by
    have := choice47_c 0 1 _ [2, 5, 10, 13] 2 _ (lit4 (w := W) 2 5 10 13) rfl (by omega)
    rwa [pairs2] at this
  have K2 : Hid (∀ (W : World) (i j a b : Int), Calls Tryz.prog 25 #[.int .i64 i, .int .i64 j, .slice (some ⟨W.heap.size, 0, none⟩) 2 2] (W.alloc (.cells #[.int .i64 a, .int .i64 b] 3)) (ChoRet i j [(a, b)] (W.alloc (.cells #[.int .i64 a, .int .i64 b] 3)))) := Lib.hid fun W i j a b => by
    have := choice47_c i j _ [a, b] 1 _ (lit2 (w := W) a b) rfl (by omega)
    rwa [pairs1] at this
  go_enter Tryz.func8, Tryz.ntmps8
  go_wp2_with fail
  have kb := (Below.refl w.heap.size w).alloc (Nat.le_refl _) (.cells #[.int .i64 2, .int .i64 5, .int .i64 10, .int .i64 13] 3)
  refine (K1.out _).mono ?_
  rintro e w1 ⟨u1, rfl, h1, hb1⟩
  have kb := kb.trans (hb1.mono kb.size)
  have ha := (Below.refl w1.heap.size w1).alloc (Nat.le_refl _) (.cells #[.int .i64 3, .int .i64 4] 3)
  have h1 := h1.below ha
  have kb := kb.trans (ha.mono kb.size)
  have Kb := Lib.hid kb; have H1 := Lib.hid h1
  clear kb h1 ha hb1
  go_wp2_with fail
  refine (K2.out _ _ _ _ _).mono ?_
  rintro e w2 ⟨u2, rfl, h2, hb2⟩
  have h1 := H1.out.below hb2
  have kb := Kb.out.trans (hb2.mono Kb.out.size)
  have ha := (Below.refl w2.heap.size w2).alloc (Nat.le_refl _) (.cells #[.int .i64 (-9), .int .i64 7] 3)
  have h1 := h1.below ha
  have h2 := h2.below ha
  have kb := kb.trans (ha.mono kb.size)
  have Kb := Lib.hid kb; have H1 := Lib.hid h1; have H2 := Lib.hid h2
  clear kb h1 h2 ha hb2
  go_wp2_with fail
  refine (K2.out _ _ _ _ _).mono ?_
  rintro e w3 ⟨u3, rfl, h3, hb3⟩
  have h1 := H1.out.below hb3
  have h2 := H2.out.below hb3
  have kb := Kb.out.trans (hb3.mono Kb.out.size)
  have ha := (Below.refl w3.heap.size w3).alloc (Nat.le_refl _) (.cells #[.int .i64 0, .int .i64 1, u1, .int .i64 1, .int .i64 2, u2, .int .i64 0, .int .i64 2, u3] 31)
  have hch : IsChos (w3.alloc (.cells #[.int .i64 0, .int .i64 1, u1, .int .i64 1, .int .i64 2, u2, .int .i64 0, .int .i64 2, u3] 31)) (.slice (some ⟨w3.heap.size, 0, none⟩) 3 3) ex47 := by
    refine ⟨fun i => if i = 0 then u1 else if i = 1 then u2 else u3, ⟨_, _, rfl, Nat.le_refl _, by omega, fun _ => ⟨w3.heap.size, 0, rfl, by simp, fun i j hi hj => ?_⟩⟩, fun i hi => ?_⟩
    · rw [blk_get (heap_alloc_new w3 _)]
      have hi3 : i < 3 := hi
      rcases (by omega : i = 0 ∨ i = 1 ∨ i = 2) with rfl | rfl | rfl <;> rcases (by omega : j = 0 ∨ j = 1 ∨ j = 2) with rfl | rfl | rfl <;> rfl
    · have hi3 : i < 3 := hi
      rcases (by omega : i = 0 ∨ i = 1 ∨ i = 2) with rfl | rfl | rfl
      · exact h1.below ha
      · exact h2.below ha
      · exact h3.below ha
  obtain ⟨A1, c1, rfl, _, _⟩ := h1.form
  obtain ⟨A2, c2, rfl, _, _⟩ := h2.form
  obtain ⟨A3, c3, rfl, _, _⟩ := h3.form
  have kb := kb.trans (ha.mono kb.size)
  have KN := Lib.hid (djNarrow_c 2 _ ex47 _ hch (by omega) net_ex nar_ex)
  have Kb := Lib.hid kb
  clear kb h1 h2 h3 ha hb3 hch
  go_wp2_with fail
  refine KN.out.mono ?_
  rintro e w4 ⟨v4, S4, rfl, ho, hb4⟩
  rcases ho with ⟨h0, _⟩ | ⟨g, cap, rfl, hc1, hc2, hg, hca⟩
  · cases h0
  have hsp := hca.spans 0 (by decide)
  have d2 := hca.c2 0 (by decide)
  obtain ⟨A0, c0, hS, _, _⟩ := hsp.form
  rw [hS] at d2 hsp
  have hlen : ex47'.length = 3 := rfl
  have KB := Lib.hid (Kb.out.trans (hb4.mono Kb.out.size))
  have KE : Hid (Calls Tryz.prog 26 #[.slice A0 (cho ex47' 0).2.2.length c0, .slice (some ⟨w4.heap.size, 0, none⟩) 1 1] (w4.alloc (.cells #[.int .i64 2, .int .i64 4] 48)) (Ret (w4.alloc (.cells #[.int .i64 2, .int .i64 4] 48)) (.bool true))) := Lib.hid (by
    have := slEqualSpan_c _ _ (cho ex47' 0).2.2 [(2, 4)] _ (hsp.alloc _) (spans_one (w := w4) 2 4 48)
    rwa [show sameL (cho ex47' 0).2.2 [(2, 4)] = true from rfl] at this)
  have Ka := Lib.hid ((Below.refl w4.heap.size w4).alloc (Nat.le_refl _) (.cells #[.int .i64 2, .int .i64 4] 48))
  rw [hlen]
  simp only [Nat.zero_mul] at d2
  clear hca hsp hb4
  go_wp2_with fail
  refine KE.out.mono ?_
  rintro e w5 ⟨rfl, hb5⟩
  have HF := Lib.hid (KB.out.trans ((Ka.out.trans (hb5.mono Ka.out.size)).mono KB.out.size))
  clear hb5
  go_wp2_with fail
  go_ret
  exact ⟨rfl, HF.out⟩
end Go.Proofs.YtcppcfinnbeboaaGreat
