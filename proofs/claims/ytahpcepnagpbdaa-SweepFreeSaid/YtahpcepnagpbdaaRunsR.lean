/- The walks of runs.Of and of the reference's Of. -/
import Derived.Test.YtahpcepnagpbdaaRunsO
namespace Go.Proofs.Ytahpcepnagpbdaa
open Go.RowKit Go.Shelf

theorem RowsIn.s0 {w : World} {b off n c : Nat} {L : List Sp} (h : RowsIn w (.slice (some ⟨b, off, none⟩) n c) n 2 (spanCell L)) (i : Nat) (hi : i < n) : w.cell? ⟨b, off + i * 2, none⟩ = some (.int .i64 (fr L i)) := RowsIn.cells h i 0 hi (by omega)
theorem RowsIn.s1 {w : World} {b off n c : Nat} {L : List Sp} (h : RowsIn w (.slice (some ⟨b, off, none⟩) n c) n 2 (spanCell L)) (i : Nat) (hi : i < n) : w.cell? ⟨b, off + i * 2 + 1, none⟩ = some (.int .i64 (tt L i)) := RowsIn.cells h i 1 hi (by omega)
theorem rows_own {w : World} {base n : Nat} {e : TypeId} {v : Value} {L : List Sp} (h : w.ownsRow base e 2 v n (flat L)) (hn : n = L.length) : RowsIn w v n 2 (spanCell L) := by
  subst hn; exact spans_of_own h
/-- What Of hands back. -/
def OfRet (l : List Sp) (w : World) (e : Ending) (w' : World) : Prop := ∃ r, OfSpec l r ∧ RetLE w r e w'
theorem okS_all {l : List Sp} (h : l.all okSpan = true) : ∀ s ∈ l, OkSp s := fun s hs => (okSpan_iff s).1 (List.all_eq_true.1 h s hs)
theorem any_not (l : List Sp) : l.any (fun s => !okSpan s) = !l.all okSpan := by rw [List.not_all_eq_any_not]

set_option maxRecDepth 100000 in
set_option maxHeartbeats 2000000 in
theorem rOf_c (v : Value) (l : List Sp) (w : World) (hs : IsSpans w v l) (hl : l.length ≤ 100000) : Calls Try.prog 35 #[v] w (OfRet l w) := by
  have hcon := slContainsSpan_c (fun s => !okSpan s) 70 #[] ent_rOf1 v l w hs (pred_rOf1 w)
  rw [any_not] at hcon
  cases ho : l.all okSpan
  · rw [ho] at hcon
    have Hcon := Lib.hid hcon; clear hcon
    have Ho := Lib.hid ho; clear ho
    go_enter Try.func35, Try.ntmps35
    go_wp2_with fail
    refine Hcon.out.mono ?_
    rintro e w1 ⟨rfl, hb⟩
    go_wp2
    go_ret2
    exact ⟨([], 1), of_bad Ho.out, _, rfl, IsSpans.nil, hb⟩
  · rw [ho] at hcon
    have Hcon := Lib.hid hcon; clear hcon
    have Hok := Lib.hid (okS_all ho)
    have Ho := Lib.hid ho; clear ho
    go_enter Try.func35, Try.ntmps35
    go_wp2_with fail
    refine Hcon.out.mono ?_
    rintro e w1 ⟨rfl, hb1⟩
    go_wp2_with fail
    refine (slCloneSpan_c v l w1 w1.heap.size (hs.below hb1) (Nat.le_refl _) hl).mono ?_
    rintro e w2 ⟨v2, rfl, hown2, hb2⟩
    go_wp2_with fail
    refine (slSortSpan_c v2 l w2 w1.heap.size hown2 Hok.out (by omega)).mono ?_
    rintro e w3 ⟨rfl, L, hp, hpw, hown3, hb3⟩
    have hLl : L.length = l.length := hp.length_eq
    have hr3 := rows_own hown3 hLl.symm
    obtain ⟨A, cap, rfl, hncap, hcap⟩ := hr3.form
    have hokL : ∀ k, k < l.length → OkSp (fr L k, tt L k) := fun k hk => Hok.out _ (hp.mem_iff.1 (idx_mem (by omega)))
    have hord : ∀ k, k < l.length → ∀ p ∈ L.take k, p.1 ≤ fr L k := fun k hk p hp => by
      obtain ⟨j, hj, rfl⟩ := List.mem_iff_getElem.1 hp
      rw [List.length_take] at hj
      have := (List.pairwise_iff_getElem.1 hpw) j k (by omega) (by omega) (by omega)
      rw [sp_at L k (by omega)] at this
      simpa using this
    have hB3 := hb1.trans ((hb2.trans hb3).mono hb1.size)
    have HL := Lib.hid hLl
    have HokL := Lib.hid hokL; clear hokL
    have Hord := Lib.hid hord; clear hord
    have Hp := Lib.hid hp; clear hp hpw hown2 hown3 hLl hb1 hb2 hb3 hs
    go_wp2_with fail
    go_loopw [5, 17] (fun o i wr => ∃ (k : Nat) (r : List Sp), i = .int .i64 k ∧ k ≤ l.length ∧ Hid (MI (L.take k) r) ∧ r.length ≤ k ∧ wr.ownsRow w3.heap.size 31 2 o r.length (flat r) ∧ Below w3.heap.size w3 wr) (fun _ i _ => l.length - (intOf i).toNat)
    case atStart => exact ⟨0, [], rfl, Nat.zero_le _, by rw [List.take_zero]; exact mi_nil, Nat.le_refl _, own_nil _ _ _ _, Below.refl _ _⟩
    case round =>
      obtain ⟨k, r, rfl, hk, HM, hrk, hown, hbw⟩ := hrel
      by_cases hlt : k < l.length
      · obtain ⟨b, off, rfl, hbk⟩ := hr3.addr (by omega)
        have c0 := (hr3.below hbw).s0 k hlt
        have c1 := (hr3.below hbw).s1 k hlt
        have hstep := mi_step HM.out (HokL.out k hlt) (Hord.out k hlt)
        rw [← sp_at L k (by rw [HL.out]; exact hlt), ← List.take_succ_eq_append_getElem, sp_at L k (by rw [HL.out]; exact hlt)] at hstep
        have hbk2 : b < wr.heap.size := Nat.lt_of_lt_of_le hbk hbw.size
        generalize fr L k = p at *
        generalize tt L k = q at *
        have hown1 := hown.alloc (.cells #[.int .i64 p, .int .i64 q] 31)
        have hal := (Below.refl w3.heap.size wr).alloc hbw.size (.cells #[.int .i64 p, .int .i64 q] 31)
        have b0 : (wr.alloc (.cells #[.int .i64 p, .int .i64 q] 31)).cell? ⟨wr.heap.size, 0, none⟩ = some (.int .i64 p) := by simp
        have b1 : (wr.alloc (.cells #[.int .i64 p, .int .i64 q] 31)).cell? ⟨wr.heap.size, 1, none⟩ = some (.int .i64 q) := by simp
        have hgt : wr.heap.size < (wr.alloc (.cells #[.int .i64 p, .int .i64 q] 31)).heap.size := by simp
        by_cases hr : 0 < r.length
        · obtain ⟨g, cap2, rfl, hgb, hglt, hcap2, hcm2⟩ := own_form hown hr
          have hsp := spans_of_own hown1
          by_cases hj : p ≤ tt r (r.length - 1)
          · rw [mrg_join hr hj] at hstep
            have Hstep := Lib.hid hstep; clear hstep
            go_wp2_with fail
            generalize wr.alloc (.cells #[.int .i64 p, .int .i64 q] 31) = w4 at *
            have e1 := fun x : BW w4 => (hsp.bw x).c1 (r.length - 1) (by omega)
            have e0 := fun x : BW w4 => bw_cell x b0 hgt
            simp only [Nat.zero_add] at e1
            refine wp_region_below (by kernel_rfl) (by kernel_rfl) ?_
            repeat (go_big_quiet_step (fail))
            refine wpQuiet_nil ?_
            rintro w5 ⟨⟨_, hb5⟩, rfl⟩
            have hb5 := hb5.trans (below_drew _ _)
            have hown5 : w5.drew.ownsRow w3.heap.size 31 2 _ r.length (flat r) := own_below hown1 hb5 (Nat.le_refl _)
            have b0 : w5.drew.cell? ⟨wr.heap.size, 0, none⟩ = some (.int .i64 p) := (hb5.cell (p := ⟨wr.heap.size, 0, none⟩) hgt).trans b0
            have b1 : w5.drew.cell? ⟨wr.heap.size, 1, none⟩ = some (.int .i64 q) := (hb5.cell (p := ⟨wr.heap.size, 1, none⟩) hgt).trans b1
            have hB5 : Below w3.heap.size w3 w5.drew := hbw.trans (hal.trans (hb5.mono (Nat.le_trans hbw.size hal.size)))
            clear e0 e1
            go_wp2_with fail
            have c1 := (spans_of_own hown5).c1 (r.length - 1) (by omega)
            have f1 := hown5.frozenAt ((r.length - 1) * 2 + 1)
            rw [Nat.zero_add] at c1
            have hsum : IntKind.i64.wrap ((r.length : Int) - 1) = (r.length : Int) - 1 := IntWalk.i64_in _ (by omega)
            have hkl : r.length - 1 < r.length := by omega
            have hk1 : (0 : Int) ≤ (r.length : Int) - 1 := by omega
            have hk2 : ((r.length : Int) - 1).toNat = r.length - 1 := by omega
            have hk3 : (1 : Int) ≤ (r.length : Int) := by omega
            have hk4 : 1 ≤ r.length := by omega
            have hk5 : (r.length : Int) - 1 < (r.length : Int) := by omega
            go_still_tail 14, (by kernel_rfl)
            change wpList _ _ _ _ _ w5.drew
            generalize w5.drew = w6 at *
            clear hsum hk1 hk2 hk3 hk4 hk5
            generalize hmx : max (tt r (r.length - 1)) q = mx at *
            clear hmx
            have hst := (hown5.stored ((r.length - 1) * 2 + 1) (.int .i64 mx)).1
            rw [flat_last hr] at hst
            have hB6 : Below w3.heap.size w3 (w6.setCell ⟨g, (r.length - 1) * 2 + 1, none⟩ (.int .i64 mx)) := hB5.setCell hgb _
            have Hst := Lib.hid hst; clear hst
            have HB6 := Lib.hid hB6; clear hB6
            go_wp2
            go_roundw
            case rel => exact ⟨k + 1, _, by go_num, hlt, Hstep.out, by rw [join_len hr]; omega, by rw [join_len hr]; exact Hst.out, HB6.out⟩
            case measure => simp [intOf]; omega
          · have hj2 : ¬ (0 < r.length ∧ p ≤ tt r (r.length - 1)) := fun h => hj h.2
            rw [mrg_push hj2] at hstep
            have Hstep := Lib.hid hstep; clear hstep
            have hj3 : tt r (r.length - 1) < p := by omega
            clear hj hj2
            go_wp2_with fail
            generalize wr.alloc (.cells #[.int .i64 p, .int .i64 q] 31) = w4 at *
            have e1 := fun x : BW w4 => (hsp.bw x).c1 (r.length - 1) (by omega)
            have e0 := fun x : BW w4 => bw_cell x b0 hgt
            simp only [Nat.zero_add] at e1
            refine wp_region_below (by kernel_rfl) (by kernel_rfl) ?_
            repeat (go_big_quiet_step (fail))
            refine wpQuiet_nil ?_
            rintro w5 ⟨⟨_, hb5⟩, rfl⟩
            have hown5 := own_below hown1 hb5 (Nat.le_refl _)
            have b0 := (hb5.cell (p := ⟨wr.heap.size, 0, none⟩) hgt).trans b0
            have b1 := (hb5.cell (p := ⟨wr.heap.size, 1, none⟩) hgt).trans b1
            have hB5 : Below w3.heap.size w3 w5 := hbw.trans (hal.trans (hb5.mono (Nat.le_trans hbw.size hal.size)))
            clear e0 e1
            go_wp2_with (at_builtin; refine append_span tSpans tSpanInfo (by rfl) (.tmp 50) (.tmp 52) (by rfl) w3.heap.size _ r _ _ (by rfl) hown5 (by rfl) (by omega) hB5.size ?_; intro v6 w6 hown6 hb6; have hB6 := hB5.trans hb6)
            go_roundw
            case rel => exact ⟨k + 1, _, by go_num, hlt, Hstep.out, by simp; omega, hown6, hB6⟩
            case measure => simp [intOf]; omega
        · obtain rfl : r = [] := List.length_eq_zero_iff.1 (by omega)
          rw [mrg_push (by simp)] at hstep
          have Hstep := Lib.hid hstep; clear hstep
          obtain ⟨A2, cap2, rfl⟩ : ∃ A cap, u5 = .slice A 0 cap := by
            rcases hown.2 with ⟨h, _⟩ | ⟨g, cap, cur, h, _⟩
            · exact ⟨_, _, h⟩
            · exact ⟨_, _, h⟩
          go_wp2_with fail
          generalize wr.alloc (.cells #[.int .i64 p, .int .i64 q] 31) = w4 at *
          have e0 := fun x : BW w4 => bw_cell x b0 hgt
          refine wp_region_below (by kernel_rfl) (by kernel_rfl) ?_
          repeat (go_big_quiet_step (fail))
          refine wpQuiet_nil ?_
          rintro w5 ⟨⟨_, hb5⟩, rfl⟩
          have hown5 := own_below hown1 hb5 (Nat.le_refl _)
          have b0 := (hb5.cell (p := ⟨wr.heap.size, 0, none⟩) hgt).trans b0
          have b1 := (hb5.cell (p := ⟨wr.heap.size, 1, none⟩) hgt).trans b1
          have hB5 : Below w3.heap.size w3 w5 := hbw.trans (hal.trans (hb5.mono (Nat.le_trans hbw.size hal.size)))
          clear e0
          go_wp2_with (at_builtin; refine append_span tSpans tSpanInfo (by rfl) (.tmp 50) (.tmp 52) (by rfl) w3.heap.size _ [] _ _ (by rfl) hown5 (by rfl) (by simp) hB5.size ?_; intro v6 w6 hown6 hb6; have hB6 := hB5.trans hb6)
          go_roundw
          case rel => exact ⟨k + 1, _, by go_num, hlt, Hstep.out, by simp, hown6, hB6⟩
          case measure => simp [intOf]; omega
      · obtain rfl : k = l.length := by omega
        have hM := HM.out
        rw [← HL.out, List.take_length] at hM
        have hspec := of_sorted Ho.out Hp.out hM
        have hd : Calls Try.prog 74 #[u5] _ (RetLE _ (opR r)) := rdone_c _ r _ (spans_of_own hown)
        generalize opR r = res at hspec hd
        have Hspec := Lib.hid hspec; clear hspec hM
        have Hd := Lib.hid hd; clear hd
        go_wp2_with fail
        refine Hd.out.mono ?_
        rintro e w4 ⟨v4, rfl, hv4, hb4⟩
        have hB4 := hB3.trans ((hbw.trans (hb4.mono hbw.size)).mono hB3.size)
        go_wp2
        go_ret2
        exact ⟨res, Hspec.out, v4, rfl, hv4, hB4⟩
end Go.Proofs.Ytahpcepnagpbdaa
