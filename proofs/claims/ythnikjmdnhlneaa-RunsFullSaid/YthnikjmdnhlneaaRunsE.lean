/- The walks of the queries of runs: search, Has, Next, Measure, Rank, Nth, and Equal. -/
import Derived.Test.YthnikjmdnhlneaaRunsA
import Derived.Test.YthnikjmdnhlneaaRunsT
namespace Go.Proofs.Ythnikjmdnhlneaa
open Go.RowKit

theorem rsearch1_c (p q x : Int) (w : World) : Calls Try.prog 69 #[.agg #[.int .i64 p, .int .i64 q], .int .i64 x] w fun e w' => e = .returned (.int .i64 (if q ≤ x then -1 else 1)) ∧ Below w.heap.size w w' := by
  by_cases h : q ≤ x
  · rw [if_pos h]
    go_enter Try.func69, Try.ntmps69
    go_wp2
    go_ret
    exact ⟨rfl, by go_grown⟩
  · rw [if_neg h]
    go_enter Try.func69, Try.ntmps69
    go_wp2
    go_ret
    exact ⟨rfl, by go_grown⟩
theorem ent_rsearch1 : ∀ (args : Array Value) (w : World), Sem.run Try.prog (callFunc 69 args) w = .ok (.enter 69 args) w := fun _ _ => by kernel_rfl

theorem slBinSpan_c (v : Value) (l : List Sp) (x : Int) (w : World) (hs : IsSpans w v l) (hv : validB l = true) :
    Calls Try.prog 68 #[v, .int .i64 x, .func (.func 69) #[] #[]] w fun e w' => ∃ i : Nat, IsSearch l x i ∧ e = .returned (.tuple #[.int .i64 i, .bool false]) ∧ Below w.heap.size w w' := by
  obtain ⟨A, c, rfl, hnc, hc⟩ := hs.form
  have hl := validB_len hv
  go_enter Try.func68, Try.ntmps68
  go_wp2
  go_loopw [9, 10] (fun i j wr => ∃ a b : Nat, i = .int .i64 a ∧ j = .int .i64 b ∧ a ≤ b ∧ b ≤ l.length ∧ Hid ((∀ t, t < a → tt l t ≤ x) ∧ (∀ t, b ≤ t → t < l.length → x < tt l t)) ∧ Below w.heap.size w wr) (fun i j _ => (intOf j).toNat - (intOf i).toNat)
  case atStart => exact ⟨0, l.length, rfl, rfl, Nat.zero_le _, Nat.le_refl _, ⟨fun t ht => absurd ht (by omega), fun t h1 h2 => absurd h1 (by omega)⟩, Below.refl _ _⟩
  case round =>
    obtain ⟨a, b, rfl, rfl, hab, hbl, Hab, hb⟩ := hrel
    by_cases hlt : a < b
    · obtain ⟨g, off, rfl, hbk⟩ := hs.addr (by omega)
      have c1 := (hs.below hb).c0 ((a + b) / 2) (by omega)
      have c2 := (hs.below hb).c1 ((a + b) / 2) (by omega)
      have hmono := fun (t : Nat) (h : t ≤ (a + b) / 2) => canon_to_le hv h (by omega)
      have hmono' := fun (t : Nat) (h : (a + b) / 2 ≤ t) (ht : t < l.length) => canon_to_le hv h ht
      have Hm := Lib.hid hmono; clear hmono
      have Hm' := Lib.hid hmono'; clear hmono'
      have hcall := rsearch1_c (fr l ((a + b) / 2)) (tt l ((a + b) / 2)) x wr
      by_cases hx : tt l ((a + b) / 2) ≤ x
      · rw [if_pos hx] at hcall
        have Hcall := Lib.hid hcall; clear hcall
        go_wp2_with ((with_reducible refine wpList_call_fn 24 69 ?_ ?_ ent_rsearch1 Hcall.out ?_); exact rfl; exact rfl; rintro w1 hb1)
        go_roundw
        case rel => exact ⟨(a + b) / 2 + 1, b, by go_num, rfl, by omega, hbl, ⟨fun t ht => by have := Hm.out t (by omega); omega, Hab.out.2⟩, hb.trans (hb1.mono hb.size)⟩
        case measure => simp [intOf]; omega
      · rw [if_neg hx] at hcall
        have Hcall := Lib.hid hcall; clear hcall
        go_wp2_with ((with_reducible refine wpList_call_fn 24 69 ?_ ?_ ent_rsearch1 Hcall.out ?_); exact rfl; exact rfl; rintro w1 hb1)
        go_roundw
        case rel => exact ⟨a, (a + b) / 2, rfl, by go_num, by omega, by omega, ⟨Hab.out.1, fun t h1 h2 => by have := Hm'.out t h1 h2; omega⟩, hb.trans (hb1.mono hb.size)⟩
        case measure => simp [intOf]; omega
    · obtain rfl : a = b := by omega
      have hsr : IsSearch l x a := ⟨hbl, Hab.out.1, Hab.out.2⟩
      by_cases hn : a < l.length
      · obtain ⟨g, off, rfl, hbk⟩ := hs.addr (by omega)
        have c1 := (hs.below hb).c0 a hn
        have c2 := (hs.below hb).c1 a hn
        have hcall := rsearch1_c (fr l a) (tt l a) x wr
        rw [if_neg (by have := hsr.2.2 a (Nat.le_refl _) hn; omega)] at hcall
        have Hcall := Lib.hid hcall; clear hcall
        go_wp2_with fail
        refine Hcall.out.mono ?_
        rintro e w1 ⟨rfl, hb1⟩
        go_wp2
        go_ret2
        exact ⟨a, hsr, rfl, hb.trans (hb1.mono hb.size)⟩
      · go_wp2
        go_ret2
        exact ⟨a, hsr, rfl, hb⟩

theorem rsearch_c (v : Value) (l : List Sp) (x : Int) (w : World) (hs : IsSpans w v l) (hv : validB l = true) :
    Calls Try.prog 56 #[v, .int .i64 x] w fun e w' => ∃ i : Nat, IsSearch l x i ∧ e = .returned (.int .i64 i) ∧ Below w.heap.size w w' := by
  go_enter Try.func56, Try.ntmps56
  go_wp2_with fail
  refine (slBinSpan_c v l x w hs hv).mono ?_
  rintro e w1 ⟨i, hi, rfl, hb⟩
  go_wp2
  go_ret
  exact ⟨i, hi, rfl, hb⟩

theorem rHas_c (v : Value) (l : List Sp) (x : Int) (w : World) (hs : IsSpans w v l) : Calls Try.prog 32 #[v, .int .i64 x] w (Ret w (.bool (validB l && mem l x))) := by
  cases hv : validB l
  · go_enter Try.func32, Try.ntmps32
    go_wp2_with fail
    refine (rValid_c _ _ _ hs).mono ?_
    rintro e w1 ⟨rfl, hb⟩
    go_wp2
    go_ret
    exact ⟨rfl, hb⟩
  · go_enter Try.func32, Try.ntmps32
    go_wp2_with fail
    refine (rValid_c _ _ _ hs).mono ?_
    rintro e w1 ⟨rfl, hb⟩
    go_wp2_with fail
    refine (rsearch_c _ _ _ _ (hs.below hb) hv).mono ?_
    rintro e w2 ⟨i, hi, rfl, hb2⟩
    have hb3 := hb.trans (hb2.mono hb.size)
    have he := has_eq hv hi
    have He := Lib.hid he; clear he
    have hi1 := hi.1
    have hl := validB_len hv
    obtain ⟨A, c, rfl, hnc, hc⟩ := hs.form
    by_cases hlt : i < l.length
    · obtain ⟨g, off, rfl, hbk⟩ := hs.addr (by omega)
      have c0 := (hs.below hb3).c0 i hlt
      go_wp2
      go_ret
      exact ⟨by simp [← He.out, hlt], hb3⟩
    · go_wp2
      go_ret
      exact ⟨by simp [← He.out, hlt], hb3⟩

theorem rNext_c (v : Value) (l : List Sp) (x : Int) (w : World) (hs : IsSpans w v l) :
    Calls Try.prog 31 #[v, .int .i64 x] w fun e w' => e = .returned (.tuple #[.int .i64 (nextR l x).1, .bool (nextR l x).2]) ∧ Below w.heap.size w w' := by
  cases hv : validB l
  · have hn : nextR l x = (0, false) := by rw [nextR, if_pos hv]
    rw [hn]; clear hn
    go_enter Try.func31, Try.ntmps31
    go_wp2_with fail
    refine (rValid_c _ _ _ hs).mono ?_
    rintro e w1 ⟨rfl, hb⟩
    go_wp2
    go_ret2
    exact ⟨rfl, hb⟩
  · go_enter Try.func31, Try.ntmps31
    go_wp2_with fail
    refine (rValid_c _ _ _ hs).mono ?_
    rintro e w1 ⟨rfl, hb⟩
    go_wp2_with fail
    refine (rsearch_c _ _ _ _ (hs.below hb) hv).mono ?_
    rintro e w2 ⟨i, hi, rfl, hb2⟩
    have hb3 := hb.trans (hb2.mono hb.size)
    have hi1 := hi.1
    have hl := validB_len hv
    have hn : nextR l x = if i < l.length then (max x (fr l i), true) else (0, false) := by
      rw [nextR, if_neg (by rw [hv]; exact Bool.noConfusion), nextL_search hi]
      by_cases h : i < l.length <;> simp [h, nextO]
    obtain ⟨A, c, rfl, hnc, hc⟩ := hs.form
    by_cases hlt : i < l.length
    · rw [if_pos hlt] at hn
      have Hn := Lib.hid hn; clear hn
      obtain ⟨g, off, rfl, hbk⟩ := hs.addr (by omega)
      have c0 := (hs.below hb3).c0 i hlt
      rcases Int.lt_or_le x (fr l i) with hx | hx
      all_goals
        go_wp2
      all_goals
        go_ret2
        exact ⟨by rw [Hn.out]; simp; omega, hb3⟩
    · rw [if_neg hlt] at hn
      have Hn := Lib.hid hn; clear hn
      have hel : ((i : Int) == (l.length : Int)) = true := by rw [beq_iff_eq]; omega
      go_wp2
      go_ret2
      exact ⟨by rw [Hn.out]; rfl, hb3⟩

theorem rMeasure_c (v : Value) (l : List Sp) (w : World) (hs : IsSpans w v l) : Calls Try.prog 26 #[v] w (Ret w (.int .i64 (if validB l = true then measL l else 0))) := by
  cases hv : validB l
  · go_enter Try.func26, Try.ntmps26
    go_wp2_with fail
    refine (rValid_c _ _ _ hs).mono ?_
    rintro e w1 ⟨rfl, hb⟩
    go_wp2
    go_ret
    exact ⟨rfl, hb⟩
  · have hl := validB_len hv
    rw [if_pos rfl]
    go_enter Try.func26, Try.ntmps26
    go_wp2_with fail
    refine (rValid_c _ _ _ hs).mono ?_
    rintro e w1 ⟨rfl, hb⟩
    have hs := hs.below hb
    obtain ⟨A, c, rfl, hnc, hc⟩ := hs.form
    go_wp2
    go_loopw [3, 11] (fun s i wr => ∃ (k : Nat) (S : Int), i = .int .i64 k ∧ s = .int .i64 S ∧ k ≤ l.length ∧ 0 ≤ S ∧ S ≤ 8796093022208 * k ∧ Hid (S + measL (l.drop k) = measL l) ∧ Below w1.heap.size w1 wr) (fun _ i _ => l.length - (intOf i).toNat)
    case atStart => exact ⟨0, 0, rfl, rfl, Nat.zero_le _, by omega, by omega, by show 0 + measL (l.drop 0) = _; simp, Below.refl _ _⟩
    case round =>
      obtain ⟨k, S, rfl, rfl, hk, hS0, hS1, HS, hbw⟩ := hrel
      by_cases hlt : k < l.length
      · obtain ⟨g, off, rfl, hbk⟩ := hs.addr (by omega)
        have c0 := (hs.below hbw).c0 k hlt
        have c1 := (hs.below hbw).c1 k hlt
        obtain ⟨o1, o2, o3⟩ := validB_ok hv hlt
        go_wp2
        go_roundw
        case rel => exact ⟨k + 1, S + (tt l k - fr l k), by go_num, rfl, by omega, by omega, by omega, by show _ = _; rw [← HS.out, measL_step hlt]; omega, hbw.alloc hbw.size _⟩
        case measure => simp [intOf]; omega
      · obtain rfl : k = l.length := by omega
        have he : S = measL l := by have := HS.out; rw [List.drop_length] at this; simpa [measL] using this
        have He := Lib.hid he; clear he
        go_wp2
        go_ret
        exact ⟨ret_int He.out, hb.trans (hbw.mono hb.size)⟩

theorem rRank_c (v : Value) (l : List Sp) (x : Int) (w : World) (hs : IsSpans w v l) : Calls Try.prog 28 #[v, .int .i64 x] w (Ret w (.int .i64 (if validB l = true then rankL x l else 0))) := by
  cases hv : validB l
  · go_enter Try.func28, Try.ntmps28
    go_wp2_with fail
    refine (rValid_c _ _ _ hs).mono ?_
    rintro e w1 ⟨rfl, hb⟩
    go_wp2
    go_ret
    exact ⟨rfl, hb⟩
  · have hl := validB_len hv
    rw [if_pos rfl]
    go_enter Try.func28, Try.ntmps28
    go_wp2_with fail
    refine (rValid_c _ _ _ hs).mono ?_
    rintro e w1 ⟨rfl, hb⟩
    have hs := hs.below hb
    obtain ⟨A, c, rfl, hnc, hc⟩ := hs.form
    go_wp2
    go_loopw [5, 13] (fun s i wr => ∃ (k : Nat) (S : Int), i = .int .i64 k ∧ s = .int .i64 S ∧ k ≤ l.length ∧ 0 ≤ S ∧ S ≤ 8796093022208 * k ∧ Hid (S + rankL x (l.drop k) = rankL x l) ∧ Below w1.heap.size w1 wr) (fun _ i _ => l.length - (intOf i).toNat)
    case atStart => exact ⟨0, 0, rfl, rfl, Nat.zero_le _, by omega, by omega, by show 0 + rankL x (l.drop 0) = _; simp, Below.refl _ _⟩
    case round =>
      obtain ⟨k, S, rfl, rfl, hk, hS0, hS1, HS, hbw⟩ := hrel
      by_cases hlt : k < l.length
      · obtain ⟨g, off, rfl, hbk⟩ := hs.addr (by omega)
        have c0 := (hs.below hbw).c0 k hlt
        have c1 := (hs.below hbw).c1 k hlt
        obtain ⟨o1, o2, o3⟩ := validB_ok hv hlt
        have hst := rankL_step (x := x) hlt
        by_cases hx : fr l k < x
        · rw [if_pos hx] at hst
          rcases Int.lt_or_le (tt l k) x with hx2 | hx2
          · rw [Int.min_eq_left (by omega)] at hst
            have Hst := Lib.hid hst; clear hst
            go_wp2
            go_roundw
            case rel => exact ⟨k + 1, S + (tt l k - fr l k), by go_num, rfl, by omega, by omega, by omega, by show _ = _; rw [← HS.out, Hst.out]; omega, hbw.alloc hbw.size _⟩
            case measure => simp [intOf]; omega
          · rw [Int.min_eq_right (by omega)] at hst
            have Hst := Lib.hid hst; clear hst
            go_wp2
            all_goals go_roundw
            case rel => exact ⟨k + 1, S + (x - fr l k), by go_num, by go_num, by omega, by omega, by omega, by show _ = _; rw [← HS.out, Hst.out]; omega, hbw.alloc hbw.size _⟩
            case measure => simp [intOf]; omega
        · rw [if_neg hx] at hst
          have Hst := Lib.hid hst; clear hst
          go_wp2
          go_roundw
          case rel => exact ⟨k + 1, S, by go_num, rfl, by omega, by omega, by omega, by show _ = _; rw [← HS.out, Hst.out]; omega, hbw.alloc hbw.size _⟩
          case measure => simp [intOf]; omega
      · obtain rfl : k = l.length := by omega
        have he : S = rankL x l := by have := HS.out; rw [List.drop_length] at this; simpa [rankL] using this
        have He := Lib.hid he; clear he
        go_wp2
        go_ret
        exact ⟨ret_int He.out, hb.trans (hbw.mono hb.size)⟩

theorem rNth_c (v : Value) (l : List Sp) (n : Int) (w : World) (hn0 : -9223372036854775808 ≤ n) (hn1 : n ≤ 9223372036854775807) (hs : IsSpans w v l) :
    Calls Try.prog 29 #[v, .int .i64 n] w fun e w' => e = .returned (.tuple #[.int .i64 (nthR l n).1, .int .i64 (nthR l n).2]) ∧ Below w.heap.size w w' := by
  cases hv : validB l
  · have hn : nthR l n = (0, 1) := by rw [nthR, if_pos hv]
    rw [hn]; clear hn
    go_enter Try.func29, Try.ntmps29
    go_wp2_with fail
    refine (rValid_c _ _ _ hs).mono ?_
    rintro e w1 ⟨rfl, hb⟩
    go_wp2
    go_ret2
    exact ⟨rfl, hb⟩
  · by_cases hn : n < 0
    · have hr : nthR l n = (0, 2) := by rw [nthR, if_neg (by rw [hv]; exact Bool.noConfusion), if_pos hn]
      rw [hr]; clear hr
      go_enter Try.func29, Try.ntmps29
      go_wp2_with fail
      refine (rValid_c _ _ _ hs).mono ?_
      rintro e w1 ⟨rfl, hb⟩
      go_wp2
      go_ret2
      exact ⟨rfl, hb⟩
    · have hl := validB_len hv
      have hr : nthR l n = nthO (nthL l n) := by rw [nthR, if_neg (by rw [hv]; exact Bool.noConfusion), if_neg hn]
      have Hr := Lib.hid hr; clear hr
      go_enter Try.func29, Try.ntmps29
      go_wp2_with fail
      refine (rValid_c _ _ _ hs).mono ?_
      rintro e w1 ⟨rfl, hb⟩
      have hs := hs.below hb
      obtain ⟨A, c, rfl, hnc, hc⟩ := hs.form
      go_wp2
      go_loopw [1, 17] (fun s i wr => ∃ (k : Nat) (m : Int), i = .int .i64 k ∧ s = .int .i64 m ∧ k ≤ l.length ∧ 0 ≤ m ∧ m ≤ 9223372036854775807 ∧ Hid (nthL l n = nthL (l.drop k) m) ∧ Below w1.heap.size w1 wr) (fun _ i _ => l.length - (intOf i).toNat)
      case atStart => exact ⟨0, n, rfl, rfl, Nat.zero_le _, by omega, hn1, by show _ = nthL (l.drop 0) n; simp, Below.refl _ _⟩
      case round =>
        obtain ⟨k, m, rfl, rfl, hk, hm0, hm1, HS, hbw⟩ := hrel
        by_cases hlt : k < l.length
        · obtain ⟨g, off, rfl, hbk⟩ := hs.addr (by omega)
          have c0 := (hs.below hbw).c0 k hlt
          have c1 := (hs.below hbw).c1 k hlt
          obtain ⟨o1, o2, o3⟩ := validB_ok hv hlt
          have hst := nthL_step (n := m) hlt
          by_cases hx : m < tt l k - fr l k
          · rw [if_pos hx] at hst
            have hres : nthR l n = (fr l k + m, 0) := by rw [Hr.out, HS.out, hst]; rfl
            have Hres := Lib.hid hres; clear hres hst
            go_wp2
            go_ret2
            exact ⟨by rw [Hres.out]; rfl, hb.trans ((hbw.alloc hbw.size _).mono hb.size)⟩
          · rw [if_neg hx] at hst
            have Hst := Lib.hid hst; clear hst
            go_wp2
            go_roundw
            case rel => exact ⟨k + 1, m - (tt l k - fr l k), by go_num, by go_num, by omega, by omega, by omega, HS.out.trans Hst.out, hbw.alloc hbw.size _⟩
            case measure => simp [intOf]; omega
        · obtain rfl : k = l.length := by omega
          have hres : nthR l n = (0, 2) := by rw [Hr.out, HS.out, List.drop_length]; rfl
          have Hres := Lib.hid hres; clear hres
          go_wp2
          go_ret2
          exact ⟨by rw [Hres.out]; rfl, hb.trans (hbw.mono hb.size)⟩
end Go.Proofs.Ythnikjmdnhlneaa
