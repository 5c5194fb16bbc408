/- Law 42: the reference's Related. -/
import Derived.Test.YtgdcgdjlhljbiaaIyM
namespace Go.Proofs.Ytgdcgdjlhljbiaa
open Go.RowKit

/-- The values of the entries that stand in a set's relation to a span. -/
def relE (set : Int) (p q : Int) (l : List En) : List Int := (l.filter fun e => bitB set (ofI (e.1, e.2.1) (p, q))).map (·.2.2)
theorem relE_len (set p q : Int) (l : List En) : (relE set p q l).length ≤ l.length := by
  unfold relE; rw [List.length_map]; exact List.length_filter_le _ _
theorem relE_yes {set p q : Int} {l : List En} {k : Nat} (hk : k < l.length) (h : bitB set (ofI ((en l k).1, (en l k).2.1) (p, q)) = true) : relE set p q (l.take (k + 1)) = relE set p q (l.take k) ++ [(en l k).2.2] := by
  unfold relE
  rw [List.take_succ_eq_append_getElem hk, en_at hk, List.filter_append, List.map_append, List.filter_cons, h, List.filter_nil]
  rfl
theorem relE_no {set p q : Int} {l : List En} {k : Nat} (hk : k < l.length) (h : bitB set (ofI ((en l k).1, (en l k).2.1) (p, q)) = false) : relE set p q (l.take (k + 1)) = relE set p q (l.take k) := by
  unfold relE
  rw [List.take_succ_eq_append_getElem hk, en_at hk, List.filter_append, List.map_append, List.filter_cons, h, List.filter_nil]
  simp
set_option maxRecDepth 100000 in
set_option maxHeartbeats 4000000 in
theorem r42Related_c (v : Value) (l : List En) (p q set : Int) (w : World) (hs : IsEnts w v l) (hok : ∀ e ∈ l, okSpan (e.1, e.2.1) = true) (hpq : okSpan (p, q) = true) (hlen : l.length ≤ 2000) :
    Calls Try.prog 31 #[v, .agg #[.int .i64 p, .int .i64 q], .int .i64 set] w (IntsRet w (relE set p q l)) := by
  obtain ⟨A, c, rfl, hnc, hc⟩ := hs.form
  obtain ⟨w1, hw1⟩ : ∃ w1, w1 = w.alloc (.cells #[.int .i64 p, .int .i64 q] 33) := ⟨_, rfl⟩
  have hX : w1.heap[w.heap.size]? = some (.cells #[.int .i64 p, .int .i64 q] 33 (0, 0)) := by rw [hw1]; exact new_blk _ _ rfl
  have hb1 : Below w.heap.size w w1 := by rw [hw1]; exact (Below.refl _ _).alloc (Nat.le_refl _) _
  go_enter Try.func31, Try.ntmps31
  go_wp2_with fail
  rw [← hw1]
  obtain ⟨B, hB⟩ : ∃ B, B = w.heap.size := ⟨_, rfl⟩
  have hBw : B < w1.heap.size := by have := lt_of_block hX; omega
  have hsl : ∀ W, Below B w W → IsEnts W (.slice A l.length c) l := fun W hb => hs.below (by rw [← hB]; exact hb)
  rw [← hB] at hX hb1 ⊢
  have HX := Lib.hid hX; have Hb1 := Lib.hid hb1; have Hsl := Lib.hid hsl
  have HBw := Lib.hid hB
  have hal : 0 < l.length → ∃ b off, A = some ⟨b, off, none⟩ := fun h => by obtain ⟨b, off, e, _⟩ := hs.addr h; exact ⟨b, off, e⟩
  have Hal := Lib.hid hal
  have Hok := Lib.hid (fun k (hk : k < l.length) => hok (en l k) (by rw [← en_at hk]; exact List.getElem_mem hk))
  have Hpq := Lib.hid hpq
  clear hw1 hpq hX hb1 hB hsl hs hal hok
  go_loopw [7, 8, 9] (fun o i _ wr => ∃ k : Nat, k ≤ l.length ∧ i = .int .i64 k ∧ OwnsI wr (B + 1) o (relE set p q (l.take k)) ∧ Below (B + 1) w1 wr) (fun _ i _ _ => l.length - (intOf i).toNat)
  case atStart => exact ⟨0, Nat.zero_le _, rfl, OwnsI.nil, Below.refl _ _⟩
  case round =>
    obtain ⟨k, hk, rfl, hown, hbr⟩ := hrel
    obtain ⟨Ao, co, rfl, _, _⟩ := (ints_of_own hown).form
    have hwz := hbr.size
    have hBr : B < wr.heap.size := by omega
    have b0 := (hbr.block _ (by omega)).trans HX.out
    have f4 := fun X : BW wr => bw_cell X (blk_cell b0 0) hBr
    have f5 := fun X : BW wr => bw_cell X (blk_cell b0 1) hBr
    simp at f4 f5
    have hbw := Hb1.out.trans (hbr.mono (Nat.le_succ _))
    by_cases hlt : k < l.length
    · obtain ⟨g, off, rfl⟩ := Hal.out (by omega)
      have hsr := Hsl.out wr hbw
      have e0 := fun X : BW wr => (hsr.below X.2).c0 k hlt
      have e1 := fun X : BW wr => (hsr.below X.2).c1 k hlt
      have hc2 := hsr.c2 k hlt
      have hg : g < wr.heap.size := (by obtain ⟨_, _, _, h⟩ := cell_cells hc2; exact lt_of_block h)
      have hkl := relE_len set p q (l.take k)
      rw [List.length_take, Nat.min_eq_left hk] at hkl
      have hyes : Hid (bitB set (ofI ((en l k).1, (en l k).2.1) (p, q)) = true → relE set p q (l.take (k + 1)) = relE set p q (l.take k) ++ [(en l k).2.2]) := relE_yes hlt
      have hno : Hid (bitB set (ofI ((en l k).1, (en l k).2.1) (p, q)) = false → relE set p q (l.take (k + 1)) = relE set p q (l.take k)) := relE_no hlt
      have KK := Lib.hid (fun W => r10Of_c (en l k).1 (en l k).2.1 p q W (Hok.out k hlt) Hpq.out)
      have Hown := Lib.hid hown; have Hbr := Lib.hid hbr; have Hbw := Lib.hid hbw
      clear hown hbr hbw hsr b0
      obtain ⟨q0, q1⟩ := ofI_bd ((en l k).1, (en l k).2.1) (p, q)
      generalize ofI ((en l k).1, (en l k).2.1) (p, q) = q9 at *
      generalize en l k = x at *
      obtain ⟨x0, x1, x2⟩ := x
      simp only at *
      cases hf : bitB set q9
      · have Hno := Lib.hid (hno.out hf)
        unfold bitB at hf
        clear hyes hno
        go_wp2_with fail
        refine wp_region_below (by kernel_rfl) (by kernel_rfl) ?_
        repeat (go_big_quiet_step ((go_at_call 63; exact calls_bw _ (KK.out _))))
        refine wpQuiet_nil ?_
        rintro w5 ⟨⟨_, hb5⟩, rfl⟩
        clear e0 e1 f4 f5
        go_wp2
        go_roundw
        case rel => exact ⟨k + 1, hlt, by go_num, by rw [Hno.out]; exact Hown.out.below hb5, Hbr.out.trans (hb5.mono (by omega))⟩
        case measure => simp [intOf]; omega
      · have Hyes := Lib.hid (hyes.out hf)
        unfold bitB at hf
        clear hyes hno
        go_wp2_with fail
        refine wp_region_below (by kernel_rfl) (by kernel_rfl) ?_
        repeat (go_big_quiet_step ((go_at_call 63; exact calls_bw _ (KK.out _))))
        refine wpQuiet_nil ?_
        rintro w5 ⟨⟨_, hb5⟩, rfl⟩
        have hc2 := (hb5.cell (p := ⟨g, off + k * 3 + 2, none⟩) hg).trans hc2
        have Ho5 := Lib.hid (Hown.out.below hb5)
        have hz5 := hb5.size
        have Hb5 := Lib.hid hb5
        clear e0 e1 f4 f5 hb5
        go_wp2_with (at_builtin; refine append_intG Try.underlying49 tIntInfoX rfl _ _ rfl (B + 1) (.slice Ao (relE set p q (l.take k)).length co) (relE set p q (l.take k)) x2 rfl Ho5.out rfl (by omega) (by omega) ?_; intro v' w' h1 h2 _ _; obtain ⟨g', cap', rfl, hg1, hg2, _, _⟩ := own_formI h1 (by simp))
        go_roundw
        case rel => exact ⟨k + 1, hlt, by go_num, by rw [Hyes.out]; unfold OwnsI; simpa using h1, (Hbr.out.trans (Hb5.out.mono (by omega))).trans h2⟩
        case measure => simp [intOf]; omega
    · obtain rfl : k = l.length := by omega
      rw [List.take_length] at hown ⊢
      have Hown := Lib.hid hown; have Hbw := Lib.hid hbw
      clear hown hbw b0 hbr f4 f5
      go_wp2
      go_ret
      exact ⟨_, rfl, Hown.out.mono (by rw [HBw.out]; exact Nat.le_succ _), by have := Hbw.out; rwa [HBw.out] at this⟩
end Go.Proofs.Ytgdcgdjlhljbiaa
