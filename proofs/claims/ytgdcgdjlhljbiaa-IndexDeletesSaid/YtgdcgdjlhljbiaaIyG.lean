/- Law 42: the walk of the reference's Delete. -/
import Derived.Test.YtgdcgdjlhljbiaaIyB
namespace Go.Proofs.Ytgdcgdjlhljbiaa
open Go.RowKit
attribute [local go_sem ↓] ent_neq ent_eql

theorem delE_take {l : List En} {x : En} {k : Nat} (hk : k < l.length) : delE (l.take (k + 1)) x = delE (l.take k) x ++ (if en l k = x then [] else [en l k]) := by
  rw [take_en hk]
  unfold delE
  rw [List.filter_append]
  congr 1
  by_cases h : en l k = x <;> simp [h]
set_option maxRecDepth 100000 in
set_option maxHeartbeats 4000000 in
theorem r42Delete_c (v : Value) (l : List En) (x : En) (w : World) (hs : IsEnts w v l) (hlen : l.length ≤ 2000) : Calls Try.prog 33 #[v, enV x] w (EntsB w (delE l x, decide ((delE l x).length < l.length))) := by
  obtain ⟨A, c, rfl, hnc, hc⟩ := hs.form
  obtain ⟨x0, x1, x2⟩ := x
  obtain ⟨w1, hw1⟩ : ∃ w1, w1 = w.alloc (.cells #[.int .i64 x0, .int .i64 x1, .int .i64 x2] 39) := ⟨_, rfl⟩
  have hX : w1.heap[w.heap.size]? = some (.cells #[.int .i64 x0, .int .i64 x1, .int .i64 x2] 39 (0, 0)) := by rw [hw1]; exact new_blk _ _ rfl
  have hb1 : Below w.heap.size w w1 := by rw [hw1]; exact (Below.refl _ _).alloc (Nat.le_refl _) _
  unfold enV
  go_enter Try.func33, Try.ntmps33
  go_wp2_with fail
  rw [← hw1]
  obtain ⟨B, hB⟩ : ∃ B, B = w.heap.size := ⟨_, rfl⟩
  have hBw : B < w1.heap.size := by have := lt_of_block hX; omega
  have hsl : ∀ W, Below B w W → IsEnts W (.slice A l.length c) l := fun W hb => hs.below (by rw [← hB]; exact hb)
  rw [← hB] at hX hb1 ⊢
  have HX := Lib.hid hX; have Hb1 := Lib.hid hb1; have Hsl := Lib.hid hsl
  have HBw := Lib.hid hB
  have hal : 0 < l.length → ∃ b off, A = some ⟨b, off, none⟩ := fun h => by obtain ⟨b, off, e, _⟩ := hs.addr h; exact ⟨b, off, e⟩
  have Hal := Lib.hid hal
  clear hw1 hX hb1 hB hsl hs hal
  go_loopw [6, 7] (fun o i wr => ∃ (k : Nat) (Ao : Option Addr) (co : Nat), o = .slice Ao (delE (l.take k) (x0, x1, x2)).length co ∧ k ≤ l.length ∧ i = .int .i64 k ∧ OwnsE wr B 39 o (delE (l.take k) (x0, x1, x2)) ∧ wr.heap[B]? = some (.cells #[.int .i64 x0, .int .i64 x1, .int .i64 x2] 39 (0, 0)) ∧ (∀ g, o.ownBlock = some g → g ≠ B) ∧ Below B w1 wr) (fun _ i _ => l.length - (intOf i).toNat)
  case atStart => exact ⟨0, none, 0, rfl, Nat.zero_le _, rfl, OwnsE.nil, HX.out, (fun g h => by simp [Value.ownBlock] at h), Below.refl _ _⟩
  case round =>
    obtain ⟨k, Ao, co, rfl, hk, rfl, hown, hblk, hne, hbr⟩ := hrel
    have hlr := delE_len (l.take k) (x0, x1, x2)
    rw [List.length_take, Nat.min_eq_left hk] at hlr
    have hwz := hbr.size
    have b0 := blk_cell hblk 0
    have b1 := blk_cell hblk 1
    have b2 := blk_cell hblk 2
    simp at b0 b1 b2
    have hBr : B < wr.heap.size := by omega
    by_cases hlt : k < l.length
    · obtain ⟨g, off, rfl⟩ := Hal.out (by omega)
      have hsr := Hsl.out wr (Hb1.out.trans hbr)
      have Hown := Lib.hid hown; have Hblk := Lib.hid hblk; have Hne := Lib.hid hne; have Hbr := Lib.hid hbr
      have Hst := Lib.hid (delE_take (x := (x0, x1, x2)) hlt)
      clear hown hblk hne hbr
      go_wp2
      have e0 := fun X : BW wr => (hsr.below X.2).c0 k hlt
      have e1 := fun X : BW wr => (hsr.below X.2).c1 k hlt
      have e2 := fun X : BW wr => (hsr.below X.2).c2 k hlt
      have e3 := fun X : BW wr => bw_cell X b0 hBr
      have e4 := fun X : BW wr => bw_cell X b1 hBr
      have e5 := fun X : BW wr => bw_cell X b2 hBr
      cases hq : sameE ((en l k).1, (en l k).2.1, (en l k).2.2) (x0, x1, x2)
      · have hst : delE (l.take (k + 1)) (x0, x1, x2) = delE (l.take k) (x0, x1, x2) ++ [en l k] := by
          rw [Hst.out, if_neg (fun h => by rw [show sameE ((en l k).1, (en l k).2.1, (en l k).2.2) (x0, x1, x2) = true from (sameE_iff _ _).2 h] at hq; cases hq)]
        have Hst2 := Lib.hid hst
        refine wp_region_below (by kernel_rfl) (by kernel_rfl) ?_
        repeat (go_big_quiet_step (fail))
        refine wpQuiet_nil ?_
        rintro w2 ⟨⟨_, hb2⟩, rfl⟩
        have hb12 := hb2.mono (show B ≤ wr.heap.size by omega)
        have hz2 : B < w2.heap.size := Nat.lt_of_lt_of_le hBr hb2.size
        have hblk2 := (hb2.block _ hBr).trans Hblk.out
        have hbr2 := Hbr.out.trans hb12
        have hs2 := Hsl.out w2 (Hb1.out.trans hbr2)
        have ho2 := Hown.out.below hb2
        have Hblk2 := Lib.hid hblk2; have Hbr2 := Lib.hid hbr2; have Ho2 := Lib.hid ho2
        clear hq e0 e1 e2 e3 e4 e5 hb2 hb12 hblk2 hbr2 ho2 Hblk Hbr Hown hBr hsr hst Hst b0 b1 b2
        have d0 := hs2.c0 k hlt
        have d1 := hs2.c1 k hlt
        have d2 := hs2.c2 k hlt
        go_wp2_with (at_builtin; refine append_entG Try.underlying35 tREntryInfo rfl _ _ rfl B (.slice Ao (delE (l.take k) (x0, x1, x2)).length co) (delE (l.take k) (x0, x1, x2)) (en l k) rfl Ho2.out rfl (by omega) (by omega) ?_; intro v4 w4 p4 q4 r4 s4)
        have hbl4 := (r4 B hz2 (fun e => Hne.out _ e rfl)).trans Hblk2.out
        have hne4 : ∀ g, v4.ownBlock = some g → g ≠ B := fun g hg e => by
          rcases s4 g hg with h | h
          · exact Hne.out g h e
          · omega
        have hbr4 := Hbr2.out.trans q4
        obtain ⟨A4, c4, hv4⟩ : ∃ A c, v4 = .slice A (delE (l.take (k + 1)) (x0, x1, x2)).length c := by
          obtain ⟨A, cp, e, _⟩ := p4.ents.form
          exact ⟨A, cp, by rw [e, Hst2.out]⟩
        have Hbl4 := Lib.hid hbl4; have Hp4 := Lib.hid p4; have Hbr4 := Lib.hid hbr4; have Hne4 := Lib.hid hne4; have Hv4 := Lib.hid hv4
        clear r4 s4 q4 p4 hbl4 hbr4 hne4 d0 d1 d2 hv4
        go_roundw
        case rel => exact ⟨k + 1, A4, c4, Hv4.out, by omega, by go_num, by rw [Hst2.out]; exact Hp4.out, Hbl4.out, Hne4.out, Hbr4.out⟩
        case measure => simp [intOf]; omega
      · have hst : delE (l.take (k + 1)) (x0, x1, x2) = delE (l.take k) (x0, x1, x2) := by
          rw [Hst.out, if_pos ((sameE_iff _ _).1 hq), List.append_nil]
        have Hst2 := Lib.hid hst
        refine wp_region_below (by kernel_rfl) (by kernel_rfl) ?_
        repeat (go_big_quiet_step (fail))
        refine wpQuiet_nil ?_
        rintro w2 ⟨⟨_, hb2⟩, rfl⟩
        have hb12 := hb2.mono (show B ≤ wr.heap.size by omega)
        have hblk2 := (hb2.block _ hBr).trans Hblk.out
        have hbr2 := Hbr.out.trans hb12
        have ho2 := Hown.out.below hb2
        have Hblk2 := Lib.hid hblk2; have Hbr2 := Lib.hid hbr2; have Ho2 := Lib.hid ho2
        clear hq e0 e1 e2 e3 e4 e5 hb2 hb12 hblk2 hbr2 ho2 Hblk Hbr Hown hBr hsr hst Hst b0 b1 b2
        go_wp2
        go_roundw
        case rel => exact ⟨k + 1, Ao, co, by rw [Hst2.out], by omega, by go_num, by rw [Hst2.out]; exact Ho2.out, Hblk2.out, Hne.out, Hbr2.out⟩
        case measure => simp [intOf]; omega
    · obtain rfl : k = l.length := by omega
      have Hown := Lib.hid hown; have Hbr := Lib.hid hbr
      clear hown hbr hblk hne b0 b1 b2
      have hcmp : decide ((((delE (l.take l.length) (x0, x1, x2)).length : Nat) : Int) < (l.length : Int)) = decide ((delE l (x0, x1, x2)).length < l.length) := by rw [List.take_length, decide_eq_decide]; omega
      obtain ⟨d, hd⟩ : ∃ d, d = decide ((delE l (x0, x1, x2)).length < l.length) := ⟨_, rfl⟩
      have hdd : decide ((delE (l.take l.length) (x0, x1, x2)).length < l.length) = d := by rw [List.take_length]; exact hd.symm
      have Hd := Lib.hid hd
      clear hcmp hd
      rw [← Hd.out]
      cases d
      all_goals
        go_wp2_with fail
        go_ret2
        refine ⟨_, rfl, ?_, ?_⟩
        · rw [← HBw.out]
          have h := Hown.out
          rw [List.take_length] at h ⊢
          exact h
        · rw [← HBw.out]; exact Hb1.out.trans Hbr.out
end Go.Proofs.Ytgdcgdjlhljbiaa
