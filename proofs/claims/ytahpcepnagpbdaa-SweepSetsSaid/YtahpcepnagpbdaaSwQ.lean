/- The walks of the reference's Join and Overlaps; slices.Equal at pairs. -/
import Derived.Test.YtahpcepnagpbdaaSwP
import Derived.Test.YtahpcepnagpbdaaSwD
namespace Go.Proofs.Ytahpcepnagpbdaa
open Go.RowKit Go.Shelf

set_option maxRecDepth 100000 in
set_option maxHeartbeats 4000000 in
theorem r44Overlaps_c (va vb : Value) (a b : List Sp) (w : World) (ha : IsSpans w va a) (hb : IsSpans w vb b) (hoa : a.all okSpan = true) (hob : b.all okSpan = true) (hla : a.length ≤ 100) (hlb : b.length ≤ 100) :
    Calls Try.prog 30 #[va, vb] w (RetL w (joinP comSp a b a.length)) := by
  obtain ⟨A, ca, rfl, hna, hca⟩ := ha.form
  obtain ⟨B, cb, rfl, hnb, hcb⟩ := hb.form
  have Hoa := Lib.hid hoa; have Hob := Lib.hid hob
  clear hoa hob
  go_enter Try.func30, Try.ntmps30
  go_wp2
  go_loopw [5, 6] (fun o i wr => ∃ (k : Nat) (P : List Sp), i = .int .i64 k ∧ k ≤ a.length ∧ Hid (P = joinP comSp a b k) ∧ P.length ≤ k * 100 ∧ wr.ownsRow w.heap.size 59 2 o P.length (flat P) ∧ Below w.heap.size w wr) (fun _ i _ => a.length - (intOf i).toNat)
  case atStart => exact ⟨0, [], rfl, Nat.zero_le _, rfl, by simp, own_nil _ _ _ _, Below.refl _ _⟩
  case round =>
    obtain ⟨i, P, rfl, hi, HP, hPl, hown, hbw⟩ := hrel
    obtain ⟨wo, rfl⟩ : ∃ wo : World, wo = wr := ⟨_, rfl⟩
    by_cases hlt : i < a.length
    · obtain ⟨g1, o1, rfl, hg1⟩ := ha.addr (by omega)
      have d0 := ha.c0 i hlt
      have d1 := ha.c1 i hlt
      have Hok1 := Lib.hid (ok_at Hoa.out hlt)
      have Hsp0 : Hid (sp a i = (fr a i, tt a i)) := rfl
      generalize fr a i = s0 at *
      generalize tt a i = s1 at *
      go_wp2
      go_loopw [5, 7] (fun o j wr => ∃ (k : Nat) (P : List Sp), j = .int .i64 k ∧ k ≤ b.length ∧ Hid (P = joinP comSp a b i ++ rowP comSp a b i k) ∧ P.length ≤ i * 100 + k ∧ wr.ownsRow w.heap.size 59 2 o P.length (flat P) ∧ Below w.heap.size w wr) (fun _ j _ => b.length - (intOf j).toNat)
      case atStart => exact ⟨0, P, rfl, Nat.zero_le _, by rw [rowP_zero, List.append_nil]; exact HP.out, by omega, hown, hbw⟩
      case round =>
        obtain ⟨k, P2, rfl, hkb, HP2, hPl2, hown2, hbw2⟩ := hrel
        by_cases hlk : k < b.length
        · obtain ⟨g2, o2, rfl, hg2⟩ := hb.addr (by omega)
          have z1 : g1 < wr.heap.size := Nat.lt_of_lt_of_le hg1 hbw2.size
          have z2 : g2 < wr.heap.size := Nat.lt_of_lt_of_le hg2 hbw2.size
          have f0 := fun X : BW wr => bw_cell X ((hb.below hbw2).c0 k hlk) z2
          have f1 := fun X : BW wr => bw_cell X ((hb.below hbw2).c1 k hlk) z2
          have f2 := fun X : BW wr => bw_cell X ((hbw2.cell (p := ⟨g1, o1 + i * 2, none⟩) hg1).trans d0) z1
          have f3 := fun X : BW wr => bw_cell X ((hbw2.cell (p := ⟨g1, o1 + i * 2 + 1, none⟩) hg1).trans d1) z1
          have Hok2 := Lib.hid (ok_at Hob.out hlk)
          have hyes : Hid (comSp (s0, s1) (fr b k, tt b k) = true → rowP comSp a b i (k + 1) = rowP comSp a b i k ++ [((i : Int), (k : Int))]) := fun h => rowP_yes (by rw [Hsp0.out]; exact h)
          have hno : Hid (comSp (s0, s1) (fr b k, tt b k) = false → rowP comSp a b i (k + 1) = rowP comSp a b i k) := fun h => rowP_no (by rw [Hsp0.out]; exact h)
          generalize fr b k = t0 at *
          generalize tt b k = t1 at *
          have hB2 := (Below.refl wr.heap.size wr)
          clear d0 d1
          have hk := fun W => r44common_c s0 s1 t0 t1 W
          cases hf : comSp (s0, s1) (t0, t1)
          · have Hno := Lib.hid (hno.out hf)
            rw [hf] at hk
            have KK := Lib.hid hk
            clear hf hk
            clear hyes hno
            go_wp2_with fail
            refine wp_region_below (by kernel_rfl) (by kernel_rfl) ?_
            repeat (go_big_quiet_step ((go_at_call 58; exact calls_bw _ (KK.out _))))
            refine wpQuiet_nil ?_
            rintro w5 ⟨⟨_, hb5⟩, rfl⟩
            have hown5 := own_below hown2 hb5 (Nat.le_refl _)
            have hbw5 := hbw2.trans (hb5.mono hbw2.size)
            clear f0 f1 f2 f3
            go_wp2
            go_roundw
            case rel => exact ⟨k + 1, P2, by go_num, hlk, by rw [Hno.out]; exact HP2.out, by omega, hown5, hbw5⟩
            case measure => simp [intOf]; omega
          · have Hyes := Lib.hid (hyes.out hf)
            rw [hf] at hk
            have KK := Lib.hid hk
            clear hf hk
            clear hyes hno
            go_wp2_with fail
            refine wp_region_below (by kernel_rfl) (by kernel_rfl) ?_
            repeat (go_big_quiet_step ((go_at_call 58; exact calls_bw _ (KK.out _))))
            refine wpQuiet_nil ?_
            rintro w5 ⟨⟨_, hb5⟩, rfl⟩
            have hown5 := own_below hown2 hb5 (Nat.le_refl _)
            have hbw5 := hbw2.trans (hb5.mono hbw2.size)
            clear f0 f1 f2 f3
            go_wp2_with (at_builtin; refine append_span Try.underlying53 tPairInfo (by rfl) (.tmp 29) (.tmp 33) (by rfl) w.heap.size _ P2 (i : Int) (k : Int) (by rfl) hown5 (by rfl) (by omega) hbw5.size ?_; intro v7 w7 hown7 hb7; have hbw7 := hbw5.trans hb7)
            go_roundw
            case rel => exact ⟨k + 1, P2 ++ [((i : Int), (k : Int))], by go_num, hlk, by rw [Hyes.out, ← List.append_assoc, ← HP2.out]; exact rfl, by simp; omega, hown7, hbw7⟩
            case measure => simp [intOf]; omega
        · obtain rfl : k = b.length := by omega
          have HP3 : Hid (P2 = joinP comSp a b (i + 1)) := by rw [joinP_succ]; exact HP2.out
          clear HP2
          go_wp2
          go_roundw
          case rel => exact ⟨i + 1, P2, by go_num, hlt, HP3, by omega, hown2, hbw2⟩
          case measure => simp [intOf]; omega
    · obtain rfl : i = a.length := by omega
      have hsp := spans_of_own hown
      rw [HP.out] at hsp
      have Hs := Lib.hid hsp
      clear hsp
      go_wp2
      go_ret
      exact ⟨_, rfl, Hs.out, hbw⟩

set_option maxRecDepth 100000 in
set_option maxHeartbeats 4000000 in
theorem r44Join_c (va vb : Value) (a b : List Sp) (set : Int) (w : World) (ha : IsSpans w va a) (hb : IsSpans w vb b) (hoa : a.all okSpan = true) (hob : b.all okSpan = true) (hla : a.length ≤ 100) (hlb : b.length ≤ 100) :
    Calls Try.prog 31 #[va, vb, .int .i64 set] w (RetL w (joinP (jf set) a b a.length)) := by
  obtain ⟨A, ca, rfl, hna, hca⟩ := ha.form
  obtain ⟨B, cb, rfl, hnb, hcb⟩ := hb.form
  have Hoa := Lib.hid hoa; have Hob := Lib.hid hob
  clear hoa hob
  go_enter Try.func31, Try.ntmps31
  go_wp2
  go_loopw [7, 8] (fun o i wr => ∃ (k : Nat) (P : List Sp), i = .int .i64 k ∧ k ≤ a.length ∧ Hid (P = joinP (jf set) a b k) ∧ P.length ≤ k * 100 ∧ wr.ownsRow w.heap.size 59 2 o P.length (flat P) ∧ Below w.heap.size w wr) (fun _ i _ => a.length - (intOf i).toNat)
  case atStart => exact ⟨0, [], rfl, Nat.zero_le _, rfl, by simp, own_nil _ _ _ _, Below.refl _ _⟩
  case round =>
    obtain ⟨i, P, rfl, hi, HP, hPl, hown, hbw⟩ := hrel
    obtain ⟨wo, rfl⟩ : ∃ wo : World, wo = wr := ⟨_, rfl⟩
    by_cases hlt : i < a.length
    · obtain ⟨g1, o1, rfl, hg1⟩ := ha.addr (by omega)
      have d0 := ha.c0 i hlt
      have d1 := ha.c1 i hlt
      have Hok1 := Lib.hid (ok_at Hoa.out hlt)
      have Hsp0 : Hid (sp a i = (fr a i, tt a i)) := rfl
      generalize fr a i = s0 at *
      generalize tt a i = s1 at *
      go_wp2
      go_loopw [7, 9] (fun o j wr => ∃ (k : Nat) (P : List Sp), j = .int .i64 k ∧ k ≤ b.length ∧ Hid (P = joinP (jf set) a b i ++ rowP (jf set) a b i k) ∧ P.length ≤ i * 100 + k ∧ wr.ownsRow w.heap.size 59 2 o P.length (flat P) ∧ Below w.heap.size w wr) (fun _ j _ => b.length - (intOf j).toNat)
      case atStart => exact ⟨0, P, rfl, Nat.zero_le _, by rw [rowP_zero, List.append_nil]; exact HP.out, by omega, hown, hbw⟩
      case round =>
        obtain ⟨k, P2, rfl, hkb, HP2, hPl2, hown2, hbw2⟩ := hrel
        by_cases hlk : k < b.length
        · obtain ⟨g2, o2, rfl, hg2⟩ := hb.addr (by omega)
          have z1 : g1 < wr.heap.size := Nat.lt_of_lt_of_le hg1 hbw2.size
          have z2 : g2 < wr.heap.size := Nat.lt_of_lt_of_le hg2 hbw2.size
          have f0 := fun X : BW wr => bw_cell X ((hb.below hbw2).c0 k hlk) z2
          have f1 := fun X : BW wr => bw_cell X ((hb.below hbw2).c1 k hlk) z2
          have f2 := fun X : BW wr => bw_cell X ((hbw2.cell (p := ⟨g1, o1 + i * 2, none⟩) hg1).trans d0) z1
          have f3 := fun X : BW wr => bw_cell X ((hbw2.cell (p := ⟨g1, o1 + i * 2 + 1, none⟩) hg1).trans d1) z1
          have Hok2 := Lib.hid (ok_at Hob.out hlk)
          have hyes : Hid ((jf set) (s0, s1) (fr b k, tt b k) = true → rowP (jf set) a b i (k + 1) = rowP (jf set) a b i k ++ [((i : Int), (k : Int))]) := fun h => rowP_yes (by rw [Hsp0.out]; exact h)
          have hno : Hid ((jf set) (s0, s1) (fr b k, tt b k) = false → rowP (jf set) a b i (k + 1) = rowP (jf set) a b i k) := fun h => rowP_no (by rw [Hsp0.out]; exact h)
          generalize fr b k = t0 at *
          generalize tt b k = t1 at *
          have hB2 := (Below.refl wr.heap.size wr)
          clear d0 d1
          have hk := fun W => r10Of_c s0 s1 t0 t1 W Hok1.out Hok2.out
          have KK := Lib.hid hk
          clear hk
          obtain ⟨q0, q1⟩ := ofI_bd (s0, s1) (t0, t1)
          rw [show jf set (s0, s1) (t0, t1) = bitB set (ofI (s0, s1) (t0, t1)) from rfl] at hyes hno
          generalize ofI (s0, s1) (t0, t1) = q at *
          cases hf : bitB set q
          · have Hno := Lib.hid (hno.out hf)
            unfold bitB at hf
            clear hyes hno
            go_wp2_with fail
            refine wp_region_below (by kernel_rfl) (by kernel_rfl) ?_
            repeat (go_big_quiet_step ((go_at_call 63; exact calls_bw _ (KK.out _))))
            refine wpQuiet_nil ?_
            rintro w5 ⟨⟨_, hb5⟩, rfl⟩
            have hown5 := own_below hown2 hb5 (Nat.le_refl _)
            have hbw5 := hbw2.trans (hb5.mono hbw2.size)
            clear f0 f1 f2 f3
            go_wp2
            go_roundw
            case rel => exact ⟨k + 1, P2, by go_num, hlk, by rw [Hno.out]; exact HP2.out, by omega, hown5, hbw5⟩
            case measure => simp [intOf]; omega
          · have Hyes := Lib.hid (hyes.out hf)
            unfold bitB at hf
            clear hyes hno
            go_wp2_with fail
            refine wp_region_below (by kernel_rfl) (by kernel_rfl) ?_
            repeat (go_big_quiet_step ((go_at_call 63; exact calls_bw _ (KK.out _))))
            refine wpQuiet_nil ?_
            rintro w5 ⟨⟨_, hb5⟩, rfl⟩
            have hown5 := own_below hown2 hb5 (Nat.le_refl _)
            have hbw5 := hbw2.trans (hb5.mono hbw2.size)
            clear f0 f1 f2 f3
            go_wp2_with (at_builtin; refine append_span Try.underlying53 tPairInfo (by rfl) (.tmp 35) (.tmp 39) (by rfl) w.heap.size _ P2 (i : Int) (k : Int) (by rfl) hown5 (by rfl) (by omega) hbw5.size ?_; intro v7 w7 hown7 hb7; have hbw7 := hbw5.trans hb7)
            go_roundw
            case rel => exact ⟨k + 1, P2 ++ [((i : Int), (k : Int))], by go_num, hlk, by rw [Hyes.out, ← List.append_assoc, ← HP2.out]; exact rfl, by simp; omega, hown7, hbw7⟩
            case measure => simp [intOf]; omega
        · obtain rfl : k = b.length := by omega
          have HP3 : Hid (P2 = joinP (jf set) a b (i + 1)) := by rw [joinP_succ]; exact HP2.out
          clear HP2
          go_wp2
          go_roundw
          case rel => exact ⟨i + 1, P2, by go_num, hlt, HP3, by omega, hown2, hbw2⟩
          case measure => simp [intOf]; omega
    · obtain rfl : i = a.length := by omega
      have hsp := spans_of_own hown
      rw [HP.out] at hsp
      have Hs := Lib.hid hsp
      clear hsp
      go_wp2
      go_ret
      exact ⟨_, rfl, Hs.out, hbw⟩

theorem sz_int (w : World) : (sizeOf 3).run Try.prog w = .ok 1 w := by kernel_rfl
theorem pair_neq (p q r s : Int) (w : World) : (binOp .neq 59 (.agg #[.int .i64 p, .int .i64 q]) (.agg #[.int .i64 r, .int .i64 s])).run Try.prog w = .ok (.bool (!(p == r && q == s))) w := by
  rw [run_neq_struct, Op.equalIn]
  simp only [Sem.run_bind, run_underlying Try.underlying59, Result.andThen_ok, sz_int, Std.Legacy.Range.forIn_eq_forIn_range', Std.Legacy.Range.size, Nat.sub_zero, Nat.add_sub_cancel, Nat.div_one]
  have px : ∀ (a b : Int) (w : World), (part 3 #[.int .i64 a, .int .i64 b] (0 * 1)).run Try.prog w = .ok (.int .i64 a) w := fun a b w => by simp [part, isAgg, run_underlying Try.underlying3]
  have py : ∀ (a b : Int) (w : World), (part 3 #[.int .i64 a, .int .i64 b] (1 * 1)).run Try.prog w = .ok (.int .i64 b) w := fun a b w => by simp [part, isAgg, run_underlying Try.underlying3]
  have pe : ∀ (a b : Int) (w : World), (Op.equalIn 9999 3 (.int .i64 a) (.int .i64 b)).run Try.prog w = .ok (a == b) w := fun a b w => run_equalIn_int w 9998 3 .i64 .i64 a b Try.underlying3
  rw [show List.range' 0 2 1 = [0, 1] from rfl]
  cases h1 : p == r <;> cases h2 : q == s <;> simp only [List.forIn_cons, List.forIn_nil, Sem.run_bind, px, py, pe, h1, h2, Result.andThen_ok, Bool.not_false, Bool.not_true, if_true, if_false, Sem.run_pure, Bool.false_eq_true, Bool.and_false, Bool.and_true]
attribute [local go_sem ↓] pair_neq
def sameP (a b : List Sp) : Bool := decide (a = b)
theorem sameP_of {a b : List Sp} (hl : a.length = b.length) (h : ∀ i, i < a.length → fr a i = fr b i ∧ tt a i = tt b i) : sameP a b = true := by
  refine decide_eq_true (List.ext_getElem hl fun i h1 h2 => ?_)
  rw [sp_at a i h1, sp_at b i h2, (h i h1).1, (h i h1).2]
theorem sameP_ne {a b : List Sp} {k : Nat} (h : ¬ (fr a k = fr b k ∧ tt a k = tt b k)) : sameP a b = false := decide_eq_false fun e => h (by rw [e]; exact ⟨rfl, rfl⟩)
set_option maxRecDepth 100000 in
theorem slEqualPair_c (v1 v2 : Value) (a b : List Sp) (w : World) (h1 : IsSpans w v1 a) (h2 : IsSpans w v2 b) : Calls Try.prog 29 #[v1, v2] w (Ret w (.bool (sameP a b))) := by
  obtain ⟨A, c, rfl, hnc, hc⟩ := h1.form
  obtain ⟨B, d, rfl, hnd, hd⟩ := h2.form
  by_cases hl : a.length = b.length
  · have hle : ((a.length : Int) == (b.length : Int)) = true := by rw [beq_iff_eq]; omega
    have hle' : ((a.length : Int) != (b.length : Int)) = false := by rw [bne, hle]; rfl
    have HL := Lib.hid hl
    have hl1 : a.length ≤ b.length := by omega
    have hl2 : b.length ≤ a.length := by omega
    clear hl
    go_enter Try.func29, Try.ntmps29
    go_wp2
    go_loopw [13] (fun i wr => ∃ k : Nat, k ≤ a.length ∧ i = .int .i64 k ∧ Hid (∀ j, j < k → fr a j = fr b j ∧ tt a j = tt b j) ∧ Below w.heap.size w wr) (fun i _ => a.length - (intOf i).toNat)
    case atStart => exact ⟨0, Nat.zero_le _, rfl, fun j hj => absurd hj (by omega), Below.refl _ _⟩
    case round =>
      obtain ⟨k, hk, rfl, Hs, hb⟩ := hrel
      by_cases hlt : k < a.length
      · obtain ⟨g, off, rfl, hbk⟩ := h1.addr (by omega)
        obtain ⟨g', off', rfl, hbk'⟩ := h2.addr (by omega)
        go_wp2
        have e0 := fun x : BW wr => ((h1.below hb).bw x).c0 k hlt
        have e1 := fun x : BW wr => ((h1.below hb).bw x).c1 k hlt
        have e2 := fun x : BW wr => ((h2.below hb).bw x).c0 k (by omega)
        have e3 := fun x : BW wr => ((h2.below hb).bw x).c1 k (by omega)
        refine wp_region_below (by kernel_rfl) (by kernel_rfl) ?_
        repeat (go_big_quiet_step (fail))
        refine wpQuiet_nil ?_
        rintro w2 ⟨⟨_, hb2⟩, rfl⟩
        have hb3 := hb.trans (hb2.mono hb.size)
        clear e0 e1 e2 e3
        go_wp2
        · have ht : (!fr a k == fr b k) = true ∨ (!tt a k == tt b k) = true := by assumption
          go_ret
          refine ⟨ret_bool ?_, hb3⟩
          rw [sameP_ne (k := k)]
          rintro ⟨q1, q2⟩
          rw [q1, q2] at ht
          simp at ht
        · have ht : (!fr a k == fr b k) = false ∧ (!tt a k == tt b k) = false := by assumption
          have hp : fr a k = fr b k ∧ tt a k = tt b k := by simpa using ht
          have hn : ∀ j, j < k + 1 → fr a j = fr b j ∧ tt a j = tt b j := fun j hj => by
            rcases Nat.eq_or_lt_of_le (show j ≤ k by omega) with h | h
            · rw [h]; exact hp
            · exact Hs.out j h
          have Hn := Lib.hid hn; clear hn hp
          go_roundw
          case rel => exact ⟨k + 1, by omega, by go_num, Hn.out, hb3⟩
          case measure => simp [intOf]; omega
      · obtain rfl : k = a.length := by omega
        have Hr := Lib.hid (sameP_of HL.out Hs.out)
        go_wp2
        go_ret
        exact ⟨ret_bool Hr.out.symm, hb⟩
  · have hres : sameP a b = false := decide_eq_false fun e => hl (by rw [e])
    rw [hres]
    clear hres
    have hle : ((a.length : Int) == (b.length : Int)) = false := by rw [beq_eq_false_iff_ne]; omega
    have hle' : ((a.length : Int) != (b.length : Int)) = true := by rw [bne, hle]; rfl
    clear hl
    go_enter Try.func29, Try.ntmps29
    go_wp2
    go_ret
    exact ⟨rfl, Below.refl _ _⟩
end Go.Proofs.Ytahpcepnagpbdaa
