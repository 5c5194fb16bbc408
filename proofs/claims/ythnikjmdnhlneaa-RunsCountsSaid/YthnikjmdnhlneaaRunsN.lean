/- The walk of the reference's Nth. -/
import Derived.Test.YthnikjmdnhlneaaRunsH
import Derived.Test.YthnikjmdnhlneaaRunsU
namespace Go.Proofs.Ythnikjmdnhlneaa
open Go.RowKit

theorem nth_beyond : ∀ {l : List Sp} {n : Int}, (∀ s ∈ l, OkSp s) → measL l ≤ n → nthL l n = none
  | [], _, _, _ => rfl
  | s :: l, n, h, hn => by
    have hs := h s (by simp)
    unfold OkSp at hs
    have hb := (meas_bound l (fun t ht => h t (List.mem_cons_of_mem _ ht))).1
    simp only [measL] at hn
    rw [nthL, if_neg (by omega)]
    exact nth_beyond (fun t ht => h t (List.mem_cons_of_mem _ ht)) (by omega)
theorem nth_here {l : List Sp} {k : Nat} {m : Int} (hk : k < l.length) (hx : m < tt l k - fr l k) : nthL (l.drop k) m = some (fr l k + m) := by rw [nthL_step hk, if_pos hx]
theorem nth_on {l : List Sp} {k : Nat} {m : Int} (hk : k < l.length) (hx : ¬ m < tt l k - fr l k) : nthL (l.drop k) m = nthL (l.drop (k + 1)) (m - (tt l k - fr l k)) := by rw [nthL_step hk, if_neg hx]

theorem r12Nth_c (v : Value) (l : List Sp) (n : Int) (w : World) (hn0 : -9223372036854775808 ≤ n) (hn1 : n ≤ 9223372036854775807) (hs : IsSpans w v l) :
    Calls Try.prog 30 #[v, .int .i64 n] w fun e w' => e = .returned (.tuple #[.int .i64 (nthR l n).1, .int .i64 (nthR l n).2]) ∧ Below w.heap.size w w' := by
  cases hv : validB l
  · have hn : nthR l n = (0, 1) := by rw [nthR, if_pos hv]
    rw [hn]; clear hn
    go_enter Try.func30, Try.ntmps30
    go_wp2_with fail
    refine (r12Valid_c _ _ _ hs).mono ?_
    rintro e w1 ⟨rfl, hb⟩
    go_wp2
    go_ret2
    exact ⟨rfl, hb⟩
  · have hok := ((validB_iff l).1 hv).2.1
    by_cases hn : n < 0
    · have hr : nthR l n = (0, 2) := by rw [nthR, if_neg (by rw [hv]; exact Bool.noConfusion), if_pos hn]
      rw [hr]; clear hr
      go_enter Try.func30, Try.ntmps30
      go_wp2_with fail
      refine (r12Valid_c _ _ _ hs).mono ?_
      rintro e w1 ⟨rfl, hb⟩
      go_wp2
      go_ret2
      exact ⟨rfl, hb⟩
    · have hm := meas_bound l hok
      by_cases hbig : measL l ≤ n
      · have hr : nthR l n = (0, 2) := by rw [nthR, if_neg (by rw [hv]; exact Bool.noConfusion), if_neg hn, nth_beyond hok hbig]; rfl
        rw [hr]; clear hr
        go_enter Try.func30, Try.ntmps30
        go_wp2_with fail
        refine (r12Valid_c _ _ _ hs).mono ?_
        rintro e w1 ⟨rfl, hb⟩
        go_wp2_with fail
        refine (r12Measure_c _ _ _ (hs.below hb) hv).mono ?_
        rintro e w2 ⟨rfl, hb2⟩
        have hb := hb.trans (hb2.mono hb.size)
        go_wp2
        go_ret2
        exact ⟨rfl, hb⟩
      · have hl := validB_len hv
        have hr : nthR l n = nthO (nthL l n) := by rw [nthR, if_neg (by rw [hv]; exact Bool.noConfusion), if_neg hn]
        have Hr := Lib.hid hr; clear hr
        have Hok := Lib.hid hok; clear hok
        go_enter Try.func30, Try.ntmps30
        go_wp2_with fail
        refine (r12Valid_c _ _ _ hs).mono ?_
        rintro e w1 ⟨rfl, hb⟩
        go_wp2_with fail
        refine (r12Measure_c _ _ _ (hs.below hb) hv).mono ?_
        rintro e w2 ⟨rfl, hb2⟩
        have hb := hb.trans (hb2.mono hb.size)
        clear hb2
        have hs := hs.below hb
        obtain ⟨A, c, rfl, hnc, hc⟩ := hs.form
        go_wp2
        go_loopw [1, 6] (fun s i wr => ∃ (k : Nat) (m : Int), i = .int .i64 k ∧ s = .int .i64 m ∧ k ≤ l.length ∧ 0 ≤ m ∧ m ≤ 9223372036854775807 ∧ Hid (nthL l n = nthL (l.drop k) m) ∧ Hid (m < measL (l.drop k)) ∧ Below w2.heap.size w2 wr) (fun _ i _ => l.length - (intOf i).toNat)
        case atStart => exact ⟨0, n, rfl, rfl, Nat.zero_le _, by omega, hn1, by show _ = nthL (l.drop 0) n; simp, by show n < measL (l.drop 0); simp only [List.drop_zero]; omega, Below.refl _ _⟩
        case round =>
          obtain ⟨k, m, rfl, rfl, hk, hm0, hm1, HS, HM, hbw⟩ := hrel
          by_cases hlt : k < l.length
          · obtain ⟨g, off, rfl, hbk⟩ := hs.addr (by omega)
            obtain ⟨o1, o2, o3⟩ := validB_ok hv hlt
            go_wp2
            have e0 := fun x : BW wr => ((hs.below hbw).bw x).c0 k hlt
            have e1 := fun x : BW wr => ((hs.below hbw).bw x).c1 k hlt
            refine wp_region_below (by kernel_rfl) (by kernel_rfl) ?_
            repeat (go_big_quiet_step (fail))
            refine wpQuiet_nil ?_
            rintro w3 ⟨⟨_, hb3⟩, rfl⟩
            have hbw := hbw.trans (hb3.mono hbw.size)
            clear e0 e1 hb3
            by_cases hx : m < tt l k - fr l k
            · have hres : nthR l n = (fr l k + m, 0) := by rw [Hr.out, HS.out, nth_here hlt hx]; rfl
              have Hres := Lib.hid hres; clear hres
              have c0 := (hs.below hbw).c0 k hlt
              go_wp2
              go_ret2
              exact ⟨by rw [Hres.out]; rfl, hb.trans (hbw.mono hb.size)⟩
            · have hst := nth_on hlt hx
              have Hst := Lib.hid hst; clear hst
              have hme := measL_step hlt
              have hM2 : m - (tt l k - fr l k) < measL (l.drop (k + 1)) := by have := HM.out; omega
              have HM2 := Lib.hid hM2; clear hM2 hme
              go_wp2
              have e0 := fun x : BW w3 => ((hs.below hbw).bw x).c0 k hlt
              have e1 := fun x : BW w3 => ((hs.below hbw).bw x).c1 k hlt
              refine wp_region_below (by kernel_rfl) (by kernel_rfl) ?_
              repeat (go_big_quiet_step (fail))
              refine wpQuiet_nil ?_
              rintro w4 ⟨⟨_, hb4⟩, rfl⟩
              have hbw := hbw.trans (hb4.mono hbw.size)
              clear e0 e1 hb4
              go_wp2
              go_roundw
              case rel => exact ⟨k + 1, m - (tt l k - fr l k), by go_num, by go_num, by omega, by omega, by omega, HS.out.trans Hst.out, HM2.out, hbw⟩
              case measure => simp [intOf]; omega
          · exfalso
            have h2 := HM.out
            rw [List.drop_of_length_le (by omega)] at h2
            simp [measL] at h2
            omega
end Go.Proofs.Ythnikjmdnhlneaa
