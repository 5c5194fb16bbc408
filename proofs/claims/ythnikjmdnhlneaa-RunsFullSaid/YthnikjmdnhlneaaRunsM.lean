/- The walks of slices.Clone on spans, runs.Move and the reference's Move. -/
import Derived.Test.YthnikjmdnhlneaaRunsY
import Derived.Test.YthnikjmdnhlneaaRunsZ
import Derived.Test.YthnikjmdnhlneaaMove
import Derived.Deep.RegionHeld3
namespace Go.Proofs.Ythnikjmdnhlneaa
open Go.RowKit

theorem eql_nil (a : Option Addr) (n c : Nat) (w : World) : (binOp .eql 22 (.slice a n c) (.slice none 0 0)).run Try.prog w = .ok (.bool a.isNone) w := by
  simp only [binOp]
  simp [run_equal_slice_nil (P := Try.prog) w 22 27 a n c tSpans]
attribute [local go_sem ↓] eql_nil
theorem own_cell {w : World} {base g cap n : Nat} {e : TypeId} {L : List Sp} (h : w.ownsRow base e 2 (.slice (some ⟨g, 0, none⟩) n cap) n (flat L)) (hL : L.length = n) {k : Nat} (hk : k < n) :
    w.cell? ⟨g, k * 2, none⟩ = some (.int .i64 (fr L k)) ∧ w.cell? ⟨g, k * 2 + 1, none⟩ = some (.int .i64 (tt L k)) := by
  rw [h.cellAt (k * 2) (by omega), h.cellAt (k * 2 + 1) (by omega)]
  exact ⟨flat_get L k 0 (by omega) (by omega), flat_get L k 1 (by omega) (by omega)⟩

set_option maxRecDepth 100000 in
theorem slCloneSpan_c (v : Value) (l : List Sp) (w : World) (base : Nat) (hs : IsSpans w v l) (hbase : base ≤ w.heap.size) (hl : l.length ≤ 100000) : Calls Try.prog 45 #[v] w (RetOwn base w l) := by
  obtain ⟨A, c, rfl, hnc, hc⟩ := hs.form
  cases A with
  | none =>
    have hz : l.length = 0 := by
      rcases Nat.eq_zero_or_pos l.length with h | h
      · exact h
      · obtain ⟨b, off, h1, _⟩ := hs.addr h; cases h1
    obtain rfl : l = [] := List.length_eq_zero_iff.1 hz
    go_enter Try.func45, Try.ntmps45
    go_wp2
    go_ret
    exact ⟨_, rfl, own_nil _ _ _ _, Below.refl _ _⟩
  | some ad =>
    go_enter Try.func45, Try.ntmps45
    go_wp2_with (at_builtin; refine append_rows tSpans tSpanInfo rfl (by omega) (by omega) rfl (.tmp 5) (.tmp 6) rfl base _ 0 [] rfl (World.ownsRow_made w #[] 0 hbase (by unfold maxLen; omega) rfl) _ l.length _ rfl (flat l) (flat_length l) (by intro h; cases h) (fun ad had => flat_cells (hs.alloc _) ad had) (flat_one l) (by omega) (Nat.le_trans hbase (by simp)) ?_; intro v3 w1 hown1 hb1)
    go_ret
    refine ⟨v3, rfl, ?_, ((Below.refl base w).alloc hbase _).trans hb1⟩
    simpa using hown1

set_option maxRecDepth 100000 in
theorem rMove_c (v : Value) (l : List Sp) (n : Int) (w : World) (hn0 : -9223372036854775808 ≤ n) (hn1 : n ≤ 9223372036854775807) (hs : IsSpans w v l) : Calls Try.prog 41 #[v, .int .i64 n] w (RetLE w (moveR l n)) := by
  cases hv : validB l
  · have hr : moveR l n = ([], 1) := by unfold moveR; rw [if_pos hv]
    rw [hr]; clear hr
    go_enter Try.func41, Try.ntmps41
    go_wp2_with fail
    refine (rValid_c _ _ _ hs).mono ?_
    rintro e w1 ⟨rfl, hb⟩
    go_wp2
    go_ret2
    exact ⟨_, rfl, IsSpans.nil, hb⟩
  · by_cases hn : 8796093022208 < n ∨ n < -8796093022208
    · have hr : moveR l n = ([], 2) := by unfold moveR; rw [if_neg (by rw [hv]; exact Bool.noConfusion), if_pos hn]
      rw [hr]; clear hr
      rcases hn with hn | hn
      all_goals
        go_enter Try.func41, Try.ntmps41
        go_wp2_with fail
        refine (rValid_c _ _ _ hs).mono ?_
        rw [hv]
        rintro e w1 ⟨rfl, hb⟩
        go_wp2
        go_ret2
        exact ⟨_, rfl, IsSpans.nil, hb⟩
    · have hr : moveR l n = if (shiftL n l).all okSpan = true then (shiftL n l, 0) else ([], 2) := by unfold moveR; rw [if_neg (by rw [hv]; exact Bool.noConfusion), if_neg hn]
      have hl := validB_len hv
      have Hr := Lib.hid hr; clear hr
      obtain ⟨hm0, hm1⟩ : -8796093022208 ≤ n ∧ n ≤ 8796093022208 := by omega
      clear hn hn0 hn1
      go_enter Try.func41, Try.ntmps41
      go_wp2_with fail
      refine (rValid_c _ _ _ hs).mono ?_
      rw [hv]
      rintro e w1 ⟨rfl, hb⟩
      go_wp2_with fail
      refine (slCloneSpan_c _ l w1 w.heap.size (hs.below hb) hb.size (by omega)).mono ?_
      rintro e w2 ⟨v2, rfl, hown2, hb2⟩
      have hb := hb.trans hb2
      clear hb2
      obtain ⟨A, cap, rfl⟩ : ∃ A cap, v2 = .slice A l.length cap := by
        rcases hown2.2 with ⟨h, h0⟩ | ⟨g, cap, cur, h, _⟩
        · exact ⟨none, 0, by rw [h, h0]⟩
        · exact ⟨_, _, h⟩
      go_wp2_with fail
      go_loopw [7, 23] (fun _ i wr => ∃ k : Nat, i = .int .i64 k ∧ k ≤ l.length ∧ Hid (∀ j, j < k → okSpan (fr l j + n, tt l j + n) = true) ∧ wr.ownsRow w.heap.size 27 2 (.slice A l.length cap) l.length (flat (mvL n l k)) ∧ Below w.heap.size w wr) (fun _ i _ => l.length - (intOf i).toNat)
      case atStart => exact ⟨0, rfl, Nat.zero_le _, fun j hj => absurd hj (by omega), by rw [mv_zero]; exact hown2, hb⟩
      case round =>
        obtain ⟨k, rfl, hk, Hok, hown, hbw⟩ := hrel
        by_cases hlt : k < l.length
        · obtain ⟨g, rfl, hgb⟩ : ∃ g, A = some ⟨g, 0, none⟩ ∧ w.heap.size ≤ g := by
            rcases hown.2 with ⟨_, h0⟩ | ⟨g, cap', cur, h, hgb, _⟩
            · omega
            · injection h with h1 h2 h3; exact ⟨g, h1, hgb⟩
          have hml := mv_len (n := n) hk
          obtain ⟨hg1, hg2⟩ := mv_get (n := n) hlt
          obtain ⟨c0, c1⟩ := own_cell hown hml hlt
          rw [hg1] at c0
          rw [hg2] at c1
          have f0 := hown.frozenAt (k * 2)
          have hw1 := (hown.stored (k * 2) (.int .i64 (fr l k + n))).1
          have f1 := hw1.frozenAt (k * 2 + 1)
          have hw2 := (hw1.stored (k * 2 + 1) (.int .i64 (tt l k + n))).1
          rw [flat_set (by omega), mv_set hlt] at hw2
          have hB2 : Below w.heap.size w ((wr.setCell ⟨g, k * 2, none⟩ (.int .i64 (fr l k + n))).setCell ⟨g, k * 2 + 1, none⟩ (.int .i64 (tt l k + n))) := (hbw.setCell hgb _).setCell hgb _
          obtain ⟨o1, o2, o3⟩ := validB_ok hv hlt
          have Hw2 := Lib.hid hw2; clear hw2 hw1
          have HB2 := Lib.hid hB2; clear hB2
          go_wp2_with fail
          refine (ivValid_c _ _ _).mono ?_
          rintro e w3 ⟨rfl, hb3⟩
          have hown3 := own_below Hw2.out hb3 (Nat.le_refl _)
          have hbw3 := HB2.out.trans (hb3.mono HB2.out.size)
          cases ho : okSpan (fr l k + n, tt l k + n)
          · have hres : moveR l n = ([], 2) := by rw [Hr.out, if_neg (by rw [shift_fail hlt ho]; exact Bool.noConfusion)]
            have Hres := Lib.hid hres; clear hres
            go_wp2
            go_ret2
            rw [Hres.out]
            exact ⟨_, rfl, IsSpans.nil, hbw3⟩
          · have hok2 : ∀ j, j < k + 1 → okSpan (fr l j + n, tt l j + n) = true := fun j hj => by
              rcases Nat.lt_or_ge j k with h | h
              · exact Hok.out j h
              · rw [show j = k from by omega]; exact ho
            have Hok2 := Lib.hid hok2; clear hok2
            go_wp2
            go_roundw
            case rel => exact ⟨k + 1, by go_num, by omega, Hok2.out, hown3, hbw3⟩
            case measure => simp [intOf]; omega
        · obtain rfl : k = l.length := by omega
          have hres : moveR l n = (shiftL n l, 0) := by rw [Hr.out, if_pos (shift_ok Hok.out)]
          have Hres := Lib.hid hres; clear hres
          go_wp2
          go_ret2
          rw [Hres.out]
          refine ⟨_, rfl, ?_, hbw⟩
          have h := spans_of_own (l := shiftL n l) (by rw [shift_len, ← mv_all]; exact hown)
          exact h

set_option maxRecDepth 100000 in
theorem r12Move_c (v : Value) (l : List Sp) (n : Int) (w : World) (hn0 : -9223372036854775808 ≤ n) (hn1 : n ≤ 9223372036854775807) (hs : IsSpans w v l) : Calls Try.prog 42 #[v, .int .i64 n] w (RetLE w (moveR l n)) := by
  cases hv : validB l
  · have hr : moveR l n = ([], 1) := by unfold moveR; rw [if_pos hv]
    rw [hr]; clear hr
    go_enter Try.func42, Try.ntmps42
    go_wp2_with fail
    refine (r12Valid_c _ _ _ hs).mono ?_
    rintro e w1 ⟨rfl, hb⟩
    go_wp2
    go_ret2
    exact ⟨_, rfl, IsSpans.nil, hb⟩
  · by_cases hn : 8796093022208 < n ∨ n < -8796093022208
    · have hr : moveR l n = ([], 2) := by unfold moveR; rw [if_neg (by rw [hv]; exact Bool.noConfusion), if_pos hn]
      rw [hr]; clear hr
      rcases hn with hn | hn
      all_goals
        go_enter Try.func42, Try.ntmps42
        go_wp2_with fail
        refine (r12Valid_c _ _ _ hs).mono ?_
        rw [hv]
        rintro e w1 ⟨rfl, hb⟩
        go_wp2
        go_ret2
        exact ⟨_, rfl, IsSpans.nil, hb⟩
    · have hr : moveR l n = if (shiftL n l).all okSpan = true then (shiftL n l, 0) else ([], 2) := by unfold moveR; rw [if_neg (by rw [hv]; exact Bool.noConfusion), if_neg hn]
      have hl := validB_len hv
      have Hr := Lib.hid hr; clear hr
      obtain ⟨hm0, hm1⟩ : -8796093022208 ≤ n ∧ n ≤ 8796093022208 := by omega
      clear hn hn0 hn1
      obtain ⟨A, c, rfl, hnc, hc⟩ := hs.form
      go_enter Try.func42, Try.ntmps42
      go_wp2_with fail
      refine (r12Valid_c _ _ _ hs).mono ?_
      rw [hv]
      rintro e w1 ⟨rfl, hb⟩
      go_wp2_with fail
      go_loopw [6, 7] (fun o i wr => ∃ k : Nat, i = .int .i64 k ∧ k ≤ l.length ∧ Hid (∀ j, j < k → okSpan (fr l j + n, tt l j + n) = true) ∧ wr.ownsRow w1.heap.size 27 2 o (shiftL n (l.take k)).length (flat (shiftL n (l.take k))) ∧ Below w1.heap.size w1 wr) (fun _ i _ => l.length - (intOf i).toNat)
      case atStart => exact ⟨0, rfl, Nat.zero_le _, fun j hj => absurd hj (by omega), own_nil _ _ _ _, Below.refl _ _⟩
      case round =>
        obtain ⟨k, rfl, hk, Hok, hown, hbw⟩ := hrel
        by_cases hlt : k < l.length
        · obtain ⟨g, off, rfl, hbk⟩ := hs.addr (by omega)
          obtain ⟨o1, o2, o3⟩ := validB_ok hv hlt
          go_wp2_with fail
          have c0 := ((hs.below hb).below hbw).c0 k hlt
          have c1 := ((hs.below hb).below hbw).c1 k hlt
          have n0 := World.new_ne wr _ c0
          have n1 := World.new_ne wr _ c1
          go_region_held3 (fun w' => w'.cell? ⟨g, off + k * 2, none⟩ = some (.int .i64 (fr l k)) ∧ w'.cell? ⟨g, off + k * 2 + 1, none⟩ = some (.int .i64 (tt l k))) (go_keep) (first | fail)
          have s0 : IntKind.i64.wrap (fr l k + n) = fr l k + n := IntWalk.i64_in _ (by omega)
          have s1 : IntKind.i64.wrap (tt l k + n) = tt l k + n := IntWalk.i64_in _ (by omega)
          rw [s0, s1]
          clear s0 s1
          have hB4 : Below w1.heap.size w1 ((wr.alloc (.cells #[.int .i64 (fr l k + n), .int .i64 (tt l k + n)] 27)).drew) := (hbw.alloc hbw.size _).trans (below_drew _ _)
          have hown4 : ((wr.alloc (.cells #[.int .i64 (fr l k + n), .int .i64 (tt l k + n)] 27)).drew).ownsRow w1.heap.size 27 2 _ (shiftL n (l.take k)).length (flat (shiftL n (l.take k))) := hown.alloc _
          have x0 : ((wr.alloc (.cells #[.int .i64 (fr l k + n), .int .i64 (tt l k + n)] 27)).drew).cell? ⟨wr.heap.size, 0, none⟩ = some (.int .i64 (fr l k + n)) := by simp
          have x1 : ((wr.alloc (.cells #[.int .i64 (fr l k + n), .int .i64 (tt l k + n)] 27)).drew).cell? ⟨wr.heap.size, 1, none⟩ = some (.int .i64 (tt l k + n)) := by simp
          have hlt7 : wr.heap.size < ((wr.alloc (.cells #[.int .i64 (fr l k + n), .int .i64 (tt l k + n)] 27)).drew).heap.size := by simp
          clear n0 n1 c0 c1
          generalize (wr.alloc (.cells #[.int .i64 (fr l k + n), .int .i64 (tt l k + n)] 27)).drew = w5 at *
          go_wp2_with fail
          refine (r12Span_c _ _ _).mono ?_
          rintro e w7 ⟨rfl, hb7⟩
          have hown6 := own_below hown4 hb7 (Nat.le_refl _)
          have hB6 := hB4.trans (hb7.mono hB4.size)
          cases ho : okSpan (fr l k + n, tt l k + n)
          · have hres : moveR l n = ([], 2) := by rw [Hr.out, if_neg (by rw [shift_fail hlt ho]; exact Bool.noConfusion)]
            have Hres := Lib.hid hres; clear hres
            go_wp2
            go_ret2
            rw [Hres.out]
            exact ⟨_, rfl, IsSpans.nil, hb.trans (hB6.mono hb.size)⟩
          · have hok2 : ∀ j, j < k + 1 → okSpan (fr l j + n, tt l j + n) = true := fun j hj => by
              rcases Nat.lt_or_ge j k with h | h
              · exact Hok.out j h
              · rw [show j = k from by omega]; exact ho
            have Hok2 := Lib.hid hok2; clear hok2
            have x0 := (hb7.cell (p := ⟨wr.heap.size, 0, none⟩) hlt7).trans x0
            have x1 := (hb7.cell (p := ⟨wr.heap.size, 1, none⟩) hlt7).trans x1
            have hsl : (shiftL n (l.take k)).length < 1000000000 := by rw [shift_len, List.length_take]; omega
            have hstep : shiftL n (l.take k) ++ [(fr l k + n, tt l k + n)] = shiftL n (l.take (k + 1)) := by
              rw [List.take_succ_eq_append_getElem hlt, sp_at l k hlt, shiftL, shiftL, List.map_append]; rfl
            have Hstep := Lib.hid hstep; clear hstep
            go_wp2_with (at_builtin; refine append_span tSpans tSpanInfo (by rfl) (.tmp 42) (.tmp 44) (by rfl) w1.heap.size _ (shiftL n (l.take k)) _ _ (by rfl) hown6 (by rfl) hsl hB6.size ?_; intro v8 w8 hown8 hb8)
            go_roundw
            case rel => exact ⟨k + 1, by go_num, by omega, Hok2.out, by rw [← Hstep.out]; exact hown8, hB6.trans hb8⟩
            case measure => simp [intOf]; omega
        · obtain rfl : k = l.length := by omega
          have hres : moveR l n = (shiftL n l, 0) := by rw [Hr.out, if_pos (shift_ok Hok.out)]
          have Hres := Lib.hid hres; clear hres
          rw [List.take_length] at hown
          go_wp2
          go_ret2
          rw [Hres.out]
          exact ⟨_, rfl, spans_of_own hown, hb.trans (hbw.mono hb.size)⟩
end Go.Proofs.Ythnikjmdnhlneaa
