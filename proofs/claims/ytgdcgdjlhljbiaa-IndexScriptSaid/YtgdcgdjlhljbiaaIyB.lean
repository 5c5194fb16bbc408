/- Law 42: the walks of the reference's Insert and Delete. -/
import Derived.Test.YtgdcgdjlhljbiaaIyA
import Derived.Test.YtgdcgdjlhljbiaaIyP
namespace Go.Proofs.Ytgdcgdjlhljbiaa
open Go.RowKit
attribute [local go_sem ↓] ent_neq ent_eql

theorem take_en {l : List En} {k : Nat} (hk : k < l.length) : l.take (k + 1) = l.take k ++ [en l k] := by
  rw [List.take_succ_eq_append_getElem hk, en_at hk]
theorem insRun_take {x : En} {l : List En} {k : Nat} (hk : k < l.length) : insRun x (l.take (k + 1)) = insStep x (insRun x (l.take k)) (en l k) := by
  rw [take_en hk, insRun_snoc]
/-- A list of entries of the call's own, and a bool. -/
def EntsB (w : World) (r : List En × Bool) (e : Ending) (w' : World) : Prop := ∃ v', e = .returned (.tuple #[v', .bool r.2]) ∧ OwnsE w' w.heap.size 39 v' r.1 ∧ Below w.heap.size w w'
set_option maxRecDepth 100000 in
set_option maxHeartbeats 4000000 in
theorem r42Insert_c (v : Value) (l : List En) (x : En) (w : World) (hs : IsEnts w v l) (hlen : l.length ≤ 2000) : Calls Try.prog 21 #[v, enV x] w (EntsB w (insE l x)) := by
  obtain ⟨A, c, rfl, hnc, hc⟩ := hs.form
  obtain ⟨x0, x1, x2⟩ := x
  obtain ⟨w1, hw1⟩ : ∃ w1, w1 = w.alloc (.cells #[.int .i64 x0, .int .i64 x1, .int .i64 x2] 39) := ⟨_, rfl⟩
  have hX : w1.heap[w.heap.size]? = some (.cells #[.int .i64 x0, .int .i64 x1, .int .i64 x2] 39 (0, 0)) := by rw [hw1]; exact new_blk _ _ rfl
  have hb1 : Below w.heap.size w w1 := by rw [hw1]; exact (Below.refl _ _).alloc (Nat.le_refl _) _
  have hs1 := hs.below hb1
  unfold enV
  go_enter Try.func21, Try.ntmps21
  go_wp2_with fail
  rw [← hw1]
  obtain ⟨B, hB⟩ : ∃ B, B = w.heap.size := ⟨_, rfl⟩
  have hBw : B < w1.heap.size := by have := lt_of_block hX; omega
  have hsl : ∀ W, Below B w W → IsEnts W (.slice A l.length c) l := fun W hb => hs.below (by rw [← hB]; exact hb)
  rw [← hB] at hX hb1 ⊢
  have HX := Lib.hid hX; have Hb1 := Lib.hid hb1; have Hsl := Lib.hid hsl
  have HBw := Lib.hid hB
  have hal : 0 < l.length → ∃ b off, A = some ⟨b, off, none⟩ := fun h => by obtain ⟨b, off, e, _⟩ := hs.addr h; exact ⟨b, off, e⟩
  have Hal := Lib.hid hal
  clear hw1 hX hb1 hs1 hB hsl hs hal
  go_loopw [6, 7, 8] (fun o d i wr => ∃ k : Nat, k ≤ l.length ∧ i = .int .i64 k ∧ OwnsE wr B 39 o (insRun (x0, x1, x2) (l.take k)).1 ∧ d = .bool (insRun (x0, x1, x2) (l.take k)).2 ∧ Hid ((x0, x1, x2) ∉ l.take k) ∧ wr.heap[B]? = some (.cells #[.int .i64 x0, .int .i64 x1, .int .i64 x2] 39 (0, 0)) ∧ (∀ g, o.ownBlock = some g → g ≠ B) ∧ Below B w1 wr) (fun _ _ i _ => l.length - (intOf i).toNat)
  case atStart => exact ⟨0, Nat.zero_le _, rfl, OwnsE.nil, rfl, Lib.hid (by simp), HX.out, (fun g h => by simp [Value.ownBlock] at h), Below.refl _ _⟩
  case round =>
    obtain ⟨k, hk, rfl, hown, rfl, Hnot, hblk, hne, hbr⟩ := hrel
    have hlr := insRun_len (x0, x1, x2) (l.take k)
    rw [List.length_take, Nat.min_eq_left hk] at hlr
    have hlr := hlr.1
    have hwz := hbr.size
    have b0 := blk_cell hblk 0
    have b1 := blk_cell hblk 1
    have b2 := blk_cell hblk 2
    simp at b0 b1 b2
    have hBr : B < wr.heap.size := by omega
    by_cases hlt : k < l.length
    · obtain ⟨g, off, rfl⟩ := Hal.out (by omega)
      have hsr := Hsl.out wr (Hb1.out.trans hbr)
      have Hown := Lib.hid hown; have Hblk := Lib.hid hblk; have Hne := Lib.hid hne; have Hbr := Lib.hid hbr
      clear hown hblk hne hbr
      go_wp2
      have e0 := fun X : BW wr => (hsr.below X.2).c0 k hlt
      have e1 := fun X : BW wr => (hsr.below X.2).c1 k hlt
      have e2 := fun X : BW wr => (hsr.below X.2).c2 k hlt
      have e3 := fun X : BW wr => bw_cell X b0 hBr
      have e4 := fun X : BW wr => bw_cell X b1 hBr
      have e5 := fun X : BW wr => bw_cell X b2 hBr
      cases hq : sameE ((en l k).1, (en l k).2.1, (en l k).2.2) (x0, x1, x2)
      rotate_left
      · refine wp_region_below (by kernel_rfl) (by kernel_rfl) ?_
        repeat (go_big_quiet_step (fail))
        refine wpQuiet_nil ?_
        rintro w2 ⟨⟨_, hb2⟩, rfl⟩
        have Hq := Lib.hid hq
        clear hq e0 e1 e2 e3 e4 e5
        go_wp2
        go_ret2
        have hin : (x0, x1, x2) ∈ l := by
          have h := (sameE_iff _ _).1 Hq.out
          rw [← h]
          have := List.getElem_mem hlt
          rw [en_at hlt] at this
          exact this
        refine ⟨.slice none 0 0, ?_, ?_, ?_⟩
        · rw [insE_found hin]; rfl
        · rw [insE_found hin]; exact OwnsE.nil
        · rw [← HBw.out]
          exact (Hb1.out.trans Hbr.out).trans (hb2.mono (by omega))
      · refine wp_region_below (by kernel_rfl) (by kernel_rfl) ?_
        repeat (go_big_quiet_step (fail))
        refine wpQuiet_nil ?_
        rintro w2 ⟨⟨_, hb2⟩, rfl⟩
        have hb12 := hb2.mono (show B ≤ wr.heap.size by omega)
        have Hnot' : Hid ((x0, x1, x2) ∉ l.take (k + 1)) := Lib.hid fun h => by
          rw [take_en hlt] at h
          rcases List.mem_append.1 h with h | h
          · exact Hnot.out h
          · rw [List.mem_singleton] at h
            have h2 := (sameE_iff _ _).2 h.symm
            rw [show sameE (en l k) (x0, x1, x2) = sameE ((en l k).1, (en l k).2.1, (en l k).2.2) (x0, x1, x2) from rfl, hq] at h2
            cases h2
        have hz2 : B < w2.heap.size := Nat.lt_of_lt_of_le hBr hb2.size
        have hblk2 := (hb2.block _ hBr).trans Hblk.out
        have b0 := blk_cell hblk2 0
        have b1 := blk_cell hblk2 1
        have b2 := blk_cell hblk2 2
        simp at b0 b1 b2
        have hbr2 := Hbr.out.trans hb12
        have hs2 := Hsl.out w2 (Hb1.out.trans hbr2)
        have ho2 := Hown.out.below hb2
        have Hblk2 := Lib.hid hblk2; have Hbr2 := Lib.hid hbr2; have Ho2 := Lib.hid ho2; have Hst := Lib.hid (insRun_take (x := (x0, x1, x2)) hlt)
        clear hq e0 e1 e2 e3 e4 e5 hb2 hb12 hblk2 hbr2 ho2 Hblk Hbr Hown Hnot hBr hsr
        have d0 := hs2.c0 k hlt
        have d1 := hs2.c1 k hlt
        have d2 := hs2.c2 k hlt
        cases hd : (insRun (x0, x1, x2) (l.take k)).2
        · have KB : Hid (∀ X : World, Calls Try.prog 49 #[.agg #[.int .i64 x0, .int .i64 x1, .int .i64 x2], .agg #[.int .i64 (en l k).1, .int .i64 (en l k).2.1, .int .i64 (en l k).2.2]] X (Ret X (.bool (decide (enLt (x0, x1, x2) (en l k)))))) := Lib.hid fun X => r42Before_c (x0, x1, x2) (en l k) X
          have hsz : (insRun (x0, x1, x2) (l.take k)).1.length ≤ 2001 := by omega
          by_cases hlx : enLt (x0, x1, x2) (en l k)
          · have hst : insRun (x0, x1, x2) (l.take (k + 1)) = ((insRun (x0, x1, x2) (l.take k)).1 ++ [(x0, x1, x2)] ++ [en l k], true) := by
              rw [Hst.out]; unfold insStep; rw [if_pos ⟨hd, hlx⟩]
            have Hst2 := Lib.hid hst
            rw [decide_eq_true hlx] at KB
            clear hst Hst hd hlx
            have hsz2 : ((insRun (x0, x1, x2) (l.take k)).1 ++ [(x0, x1, x2)]).length ≤ 2002 := by rw [List.length_append, List.length_singleton]; omega
            have e0 := fun X : BW w2 => (hs2.below X.2).c0 k hlt
            have e1 := fun X : BW w2 => (hs2.below X.2).c1 k hlt
            have e2 := fun X : BW w2 => (hs2.below X.2).c2 k hlt
            have e3 := fun X : BW w2 => bw_cell X b0 hz2
            have e4 := fun X : BW w2 => bw_cell X b1 hz2
            have e5 := fun X : BW w2 => bw_cell X b2 hz2
            go_wp2_with fail
            refine wp_region_below (by kernel_rfl) (by kernel_rfl) ?_
            repeat (go_big_quiet_step ((go_at_call 49; exact calls_bw _ (KB.out _))))
            refine wpQuiet_nil ?_
            rintro w3 ⟨⟨_, hb3⟩, rfl⟩
            have hb23 := hb3.mono (show B ≤ w2.heap.size by omega)
            have hbr3 := Hbr2.out.trans hb23
            have hs3 := Hsl.out w3 (Hb1.out.trans hbr3)
            have ho3 := Ho2.out.below hb3
            have hz3 : B < w3.heap.size := Nat.lt_of_lt_of_le hz2 hb3.size
            have hblk3 := (hb3.block _ hz2).trans Hblk2.out
            have Hbr3 := Lib.hid hbr3; have Ho3 := Lib.hid ho3; have Hblk3 := Lib.hid hblk3
            clear e0 e1 e2 e3 e4 e5 hb3 hb23 hbr3 ho3 hblk3 b0 b1 b2 d0 d1 d2
            have c0 := blk_cell Hblk3.out 0
            have c1 := blk_cell Hblk3.out 1
            have c2 := blk_cell Hblk3.out 2
            simp at c0 c1 c2
            go_wp2_with (first
              | (at_builtin; refine append_entG Try.underlying35 tREntryInfo rfl _ _ rfl B v4 ((insRun (x0, x1, x2) (l.take k)).1 ++ [(x0, x1, x2)]) (en l k) rfl Hp4.out rfl (by omega) (by omega) ?_; intro v5 w5 p5 q5 r5 s5)
              | ((at_builtin; refine append_entG Try.underlying35 tREntryInfo rfl _ _ rfl B u6 (insRun (x0, x1, x2) (l.take k)).1 (x0, x1, x2) rfl Ho3.out rfl (by omega) (by omega) ?_; intro v4 w4 p4 q4 r4 s4); have hz4 : B < w4.heap.size := Nat.lt_of_lt_of_le hz3 (by have := q4.size; omega); have hbl4 := (r4 B hz3 (fun e => Hne.out _ e rfl)).trans Hblk3.out; have hne4 : ∀ g, v4.ownBlock = some g → g ≠ B := (fun g hg e => (s4 g hg).elim (fun h => Hne.out g h e) (fun h => by omega)); have hbr4 := Hbr3.out.trans q4; have hs4 := Hsl.out w4 (Hb1.out.trans hbr4); have d0 := hs4.c0 k hlt; have d1 := hs4.c1 k hlt; have d2 := hs4.c2 k hlt; have Hp4 := Lib.hid p4; have Hbl4 := Lib.hid hbl4; have Hbr4 := Lib.hid hbr4; have Hne4 := Lib.hid hne4; clear r4 s4 q4 p4 hbl4 hbr4 hne4 c0 c1 c2)
              | fail)
            have hbl5 := (r5 B hz4 (fun e => Hne4.out _ e rfl)).trans Hbl4.out
            have hne5 : ∀ g, v5.ownBlock = some g → g ≠ B := fun g hg e => by
              rcases s5 g hg with h | h
              · exact Hne4.out g h e
              · omega
            have hbr5 := Hbr4.out.trans q5
            have Hbl5 := Lib.hid hbl5; have Hp5 := Lib.hid p5; have Hbr5 := Lib.hid hbr5; have Hne5 := Lib.hid hne5
            clear r5 s5 q5 p5 hbl5 hbr5 hne5 d0 d1 d2
            go_roundw
            case rel => exact ⟨k + 1, by omega, by go_num, by rw [Hst2.out]; exact Hp5.out, by rw [Hst2.out], Hnot', Hbl5.out, Hne5.out, Hbr5.out⟩
            case measure => simp [intOf]; omega
          · have hst : insRun (x0, x1, x2) (l.take (k + 1)) = ((insRun (x0, x1, x2) (l.take k)).1 ++ [en l k], false) := by
              rw [Hst.out]; unfold insStep; rw [hd, if_neg (fun h => hlx h.2)]
            have Hst2 := Lib.hid hst
            rw [decide_eq_false hlx] at KB
            clear hst Hst hd hlx
            have e0 := fun X : BW w2 => (hs2.below X.2).c0 k hlt
            have e1 := fun X : BW w2 => (hs2.below X.2).c1 k hlt
            have e2 := fun X : BW w2 => (hs2.below X.2).c2 k hlt
            have e3 := fun X : BW w2 => bw_cell X b0 hz2
            have e4 := fun X : BW w2 => bw_cell X b1 hz2
            have e5 := fun X : BW w2 => bw_cell X b2 hz2
            go_wp2_with fail
            refine wp_region_below (by kernel_rfl) (by kernel_rfl) ?_
            repeat (go_big_quiet_step ((go_at_call 49; exact calls_bw _ (KB.out _))))
            refine wpQuiet_nil ?_
            rintro w3 ⟨⟨_, hb3⟩, rfl⟩
            have hb23 := hb3.mono (show B ≤ w2.heap.size by omega)
            have hbr3 := Hbr2.out.trans hb23
            have hs3 := Hsl.out w3 (Hb1.out.trans hbr3)
            have ho3 := Ho2.out.below hb3
            have hz3 : B < w3.heap.size := Nat.lt_of_lt_of_le hz2 hb3.size
            have hblk3 := (hb3.block _ hz2).trans Hblk2.out
            have Hbr3 := Lib.hid hbr3; have Ho3 := Lib.hid ho3; have Hblk3 := Lib.hid hblk3
            clear e0 e1 e2 e3 e4 e5 hb3 hb23 hbr3 ho3 hblk3 b0 b1 b2 d0 d1 d2
            have d0 := hs3.c0 k hlt
            have d1 := hs3.c1 k hlt
            have d2 := hs3.c2 k hlt
            go_wp2_with (at_builtin; refine append_entG Try.underlying35 tREntryInfo rfl _ _ rfl B u6 (insRun (x0, x1, x2) (l.take k)).1 (en l k) rfl Ho3.out rfl (by omega) (by omega) ?_; intro v4 w4 p4 q4 r4 s4)
            have hbl4 := (r4 B hz3 (fun e => Hne.out _ e rfl)).trans Hblk3.out
            have hne4 : ∀ g, v4.ownBlock = some g → g ≠ B := fun g hg e => by
              rcases s4 g hg with h | h
              · exact Hne.out g h e
              · omega
            have hbr4 := Hbr3.out.trans q4
            have Hbl4 := Lib.hid hbl4; have Hp4 := Lib.hid p4; have Hbr4 := Lib.hid hbr4; have Hne4 := Lib.hid hne4
            clear r4 s4 q4 p4 hbl4 hbr4 hne4 d0 d1 d2
            go_roundw
            case rel => exact ⟨k + 1, by omega, by go_num, by rw [Hst2.out]; exact Hp4.out, by rw [Hst2.out], Hnot', Hbl4.out, Hne4.out, Hbr4.out⟩
            case measure => simp [intOf]; omega
        · have hst : insRun (x0, x1, x2) (l.take (k + 1)) = ((insRun (x0, x1, x2) (l.take k)).1 ++ [en l k], true) := by
            rw [Hst.out]; unfold insStep; rw [hd, if_neg (fun h => by cases h.1)]
          have Hst2 := Lib.hid hst; clear hst Hst hd
          have e0 := fun X : BW w2 => (hs2.below X.2).c0 k hlt
          have e1 := fun X : BW w2 => (hs2.below X.2).c1 k hlt
          have e2 := fun X : BW w2 => (hs2.below X.2).c2 k hlt
          have e3 := fun X : BW w2 => bw_cell X b0 hz2
          have e4 := fun X : BW w2 => bw_cell X b1 hz2
          have e5 := fun X : BW w2 => bw_cell X b2 hz2
          go_wp2_with fail
          refine wp_region_below (by kernel_rfl) (by kernel_rfl) ?_
          repeat (go_big_quiet_step (fail))
          refine wpQuiet_nil ?_
          rintro w3 ⟨⟨_, hb3⟩, rfl⟩
          have hb23 := hb3.mono (show B ≤ w2.heap.size by omega)
          have hbr3 := Hbr2.out.trans hb23
          have hs3 := Hsl.out w3 (Hb1.out.trans hbr3)
          have ho3 := Ho2.out.below hb3
          have hz3 : B < w3.heap.size := Nat.lt_of_lt_of_le hz2 hb3.size
          have hblk3 := (hb3.block _ hz2).trans Hblk2.out
          have Hbr3 := Lib.hid hbr3; have Ho3 := Lib.hid ho3; have Hblk3 := Lib.hid hblk3
          clear e0 e1 e2 e3 e4 e5 hb3 hb23 hbr3 ho3 hblk3 b0 b1 b2 d0 d1 d2
          have d0 := hs3.c0 k hlt
          have d1 := hs3.c1 k hlt
          have d2 := hs3.c2 k hlt
          go_wp2_with (at_builtin; refine append_entG Try.underlying35 tREntryInfo rfl _ _ rfl B u6 (insRun (x0, x1, x2) (l.take k)).1 (en l k) rfl Ho3.out rfl (by omega) (by omega) ?_; intro v4 w4 p4 q4 r4 s4)
          have hbl4 := (r4 B hz3 (fun e => Hne.out _ e rfl)).trans Hblk3.out
          have hne4 : ∀ g, v4.ownBlock = some g → g ≠ B := fun g hg e => by
            rcases s4 g hg with h | h
            · exact Hne.out g h e
            · omega
          have hbr4 := Hbr3.out.trans q4
          have Hbl4 := Lib.hid hbl4; have Hp4 := Lib.hid p4; have Hbr4 := Lib.hid hbr4; have Hne4 := Lib.hid hne4
          clear r4 s4 q4 p4 hbl4 hbr4 hne4 d0 d1 d2
          go_roundw
          case rel => exact ⟨k + 1, by omega, by go_num, by rw [Hst2.out]; exact Hp4.out, by rw [Hst2.out], Hnot', Hbl4.out, Hne4.out, Hbr4.out⟩
          case measure => simp [intOf]; omega
    · obtain rfl : k = l.length := by omega
      have hnot := Hnot.out
      rw [List.take_length] at hnot
      have Hn2 := Lib.hid hnot
      have Hown := Lib.hid hown; have Hbr := Lib.hid hbr
      clear hown hbr hblk hne hnot
      cases hd : (insRun (x0, x1, x2) (l.take l.length)).2
      · have hres : insE l (x0, x1, x2) = ((insRun (x0, x1, x2) (l.take l.length)).1 ++ [(x0, x1, x2)], true) := by
          rw [List.take_length] at hd ⊢
          unfold insE
          rw [if_neg Hn2.out, hd, if_neg (by simp)]
        have Hres := Lib.hid hres; clear hres hd
        go_wp2_with (at_builtin; refine append_entG Try.underlying35 tREntryInfo rfl _ _ rfl B u6 (insRun (x0, x1, x2) (l.take l.length)).1 (x0, x1, x2) rfl Hown.out rfl (by omega) (by omega) ?_; intro v4 w4 p4 q4 r4 s4)
        go_ret2
        refine ⟨v4, ?_, ?_, ?_⟩
        · rw [Hres.out]; rfl
        · rw [Hres.out, ← HBw.out]; exact p4
        · rw [← HBw.out]; exact (Hb1.out.trans Hbr.out).trans q4
      · have hres : insE l (x0, x1, x2) = ((insRun (x0, x1, x2) (l.take l.length)).1, true) := by
          rw [List.take_length] at hd ⊢
          unfold insE
          rw [if_neg Hn2.out, hd, if_pos rfl]
        have Hres := Lib.hid hres; clear hres hd
        go_wp2_with fail
        go_ret2
        refine ⟨u6, ?_, ?_, ?_⟩
        · rw [Hres.out]; rfl
        · rw [Hres.out, ← HBw.out]; exact Hown.out
        · rw [← HBw.out]; exact Hb1.out.trans Hbr.out
end Go.Proofs.Ytgdcgdjlhljbiaa
