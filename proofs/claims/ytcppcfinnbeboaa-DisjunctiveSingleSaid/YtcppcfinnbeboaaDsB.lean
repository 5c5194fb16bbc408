/- Law 47: sort.swapRange_func, rotate_func. -/
import Derived.Test.YtcppcfinnbeboaaDsA
namespace Go.Proofs.Ytcppcfinnbeboaa
open Go.RowKit Go.Shelf

set_option maxRecDepth 100000 in
set_option maxHeartbeats 4000000 in
theorem soSwapRange_c {base g n : Nat} {p s th : Value} {sf : FuncId} {I : World → Prop} (hE : SEnv base g n p s th sf I) (hn : n ≤ 1000) (a b c : Nat) (ha : a + c ≤ n) (hb : b + c ≤ n) (w : World) (hI : I w) :
    Calls Try.prog 128 #[swD p s th sf, .int .i64 (a : Int), .int .i64 (b : Int), .int .i64 (c : Int)] w (SoRet base g I w) := by
  unfold swD
  obtain ⟨hB, hI1, hK1⟩ := BoxS.new hE hI
  have HE := Lib.hid hE
  have HB := Lib.hid hB; have HI1 := Lib.hid hI1; have HK1 := Lib.hid hK1; have Hb := Lib.hid hb; have Ha := Lib.hid ha; have Hn := Lib.hid hn
  clear hE hI hB hI1 hK1 hb ha hn
  go_enter Try.func128, Try.ntmps128
  go_wp2_with fail
  obtain ⟨W1, hW1⟩ : ∃ y, y = w.alloc (.cells #[.func (.func 78) #[] #[p], .func (.func sf) #[] #[s, th]] 131) := ⟨_, rfl⟩
  obtain ⟨B, hBe⟩ : ∃ y, y = w.heap.size := ⟨_, rfl⟩
  rw [← hW1] at HB HI1 HK1 ⊢
  rw [← hBe] at HB ⊢
  clear hW1 hBe
  go_loopw [8] (fun i wr => ∃ k : Nat, i = .int .i64 (k : Int) ∧ k ≤ c ∧ I wr ∧ Kp base g W1 wr) (fun i _ => c - (intOf i).toNat)
  case atStart => exact ⟨0, rfl, Nat.zero_le _, HI1.out, Kp.refl⟩
  case round =>
    obtain ⟨k, rfl, hk, hI, hK⟩ := hrel
    rcases Nat.lt_or_ge k c with hlt | hge
    rotate_left
    · have k0 : decide ((k : Int) < (c : Int)) = false := decide_eq_false (by omega)
      have k00 : decide (k < c) = false := decide_eq_false (by omega)
      have HR := Lib.hid (HK1.out.trans hK)
      clear hK hge hk
      go_wp2_with fail
      go_end0
      exact ⟨rfl, hI, HR.out⟩
    have k0 : decide ((k : Int) < (c : Int)) = true := decide_eq_true (by omega)
    have k00 : decide (k < c) = true := decide_eq_true hlt
    have k1 : IntKind.i64.wrap ((k : Int) + 1) = (k : Int) + 1 := by rw [IntKind.wrap_i64]; have := Hb.out; have := Hn.out; omega
    have k2 : IntKind.i64.wrap ((a : Int) + (k : Int)) = ((a + k : Nat) : Int) := by rw [IntKind.wrap_i64]; have := Ha.out; have := Hn.out; omega
    have k3 : IntKind.i64.wrap ((b : Int) + (k : Int)) = ((b + k : Nat) : Int) := by rw [IntKind.wrap_i64]; have := Hb.out; have := Hn.out; omega
    have c1 := (HB.out.kp hK).c1
    obtain ⟨W4, hs, hI4, hK4⟩ := HE.out.swap wr (a + k) (b + k) (by have := Ha.out; omega) (by have := Hb.out; omega) hI
    have HI4 := Lib.hid hI4; have HK4 := Lib.hid (hK.trans hK4); have Hs := Lib.hid hs; have Hlt := Lib.hid hlt
    generalize hx : a + k = x at *
    generalize hy : b + k = y at *
    clear hI4 hK4 hs hI hK hlt hk
    go_wp2_with fail
    rw [Hs.out, Oper.upon_value]
    go_wp2_with fail
    go_roundw
    case rel => exact ⟨k + 1, by go_num, Hlt.out, HI4.out, HK4.out⟩
    case measure => have := Hlt.out; simp [intOf]; omega
set_option maxRecDepth 100000 in
set_option maxHeartbeats 4000000 in
theorem soRotate_c {base g n : Nat} {p s th : Value} {sf : FuncId} {I : World → Prop} (hE : SEnv base g n p s th sf I) (hn : n ≤ 1000) (a m b : Nat) (ha : a < m) (hm : m < b) (hb : b ≤ n) (w : World) (hI : I w) :
    Calls Try.prog 125 #[swD p s th sf, .int .i64 (a : Int), .int .i64 (m : Int), .int .i64 (b : Int)] w (SoRet base g I w) := by
  have KS : Hid (∀ X (a b c : Nat), I X → a + c ≤ n → b + c ≤ n → Calls Try.prog 128 #[.agg #[.func (.func 78) #[] #[p], .func (.func sf) #[] #[s, th]], .int .i64 (a : Int), .int .i64 (b : Int), .int .i64 (c : Int)] X (SoRet base g I X)) := Lib.hid fun X a b c h1 h2 h3 => soSwapRange_c hE hn a b c h2 h3 X h1
  unfold swD
  obtain ⟨hB, hI1, hK1⟩ := BoxS.new hE hI
  have z0 : IntKind.i64.wrap ((m : Int) - (a : Int)) = ((m - a : Nat) : Int) := by rw [IntKind.wrap_i64]; omega
  have z1 : IntKind.i64.wrap ((b : Int) - (m : Int)) = ((b - m : Nat) : Int) := by rw [IntKind.wrap_i64]; omega
  have HB := Lib.hid hB; have HI1 := Lib.hid hI1; have HK1 := Lib.hid hK1
  have HH : Hid (a < m ∧ m < b ∧ b ≤ n ∧ n ≤ 1000) := Lib.hid ⟨ha, hm, hb, hn⟩
  clear hE hI hB hI1 hK1 hb ha hn hm
  go_enter Try.func125, Try.ntmps125
  go_wp2_with fail
  obtain ⟨W1, hW1⟩ : ∃ y, y = w.alloc (.cells #[.func (.func 78) #[] #[p], .func (.func sf) #[] #[s, th]] 131) := ⟨_, rfl⟩
  obtain ⟨B, hBe⟩ : ∃ y, y = w.heap.size := ⟨_, rfl⟩
  rw [← hW1] at HB HI1 HK1 ⊢
  rw [← hBe] at HB ⊢
  clear hW1 hBe z0 z1
  go_loopw [8, 9] (fun i j wr => ∃ x y : Nat, i = .int .i64 (x : Int) ∧ j = .int .i64 (y : Int) ∧ 1 ≤ x ∧ 1 ≤ y ∧ x ≤ m - a ∧ y ≤ b - m ∧ I wr ∧ Kp base g W1 wr) (fun i j _ => (intOf i).toNat + (intOf j).toNat)
  case atStart => exact ⟨m - a, b - m, rfl, rfl, by have := HH.out; omega, by have := HH.out; omega, Nat.le_refl _, Nat.le_refl _, HI1.out, Kp.refl⟩
  case round =>
    obtain ⟨x, y, rfl, rfl, hx1, hy1, hx, hy, hI, hK⟩ := hrel
    have hbx := HB.out.kp hK
    have c0 := hbx.c0
    have c1 := hbx.c1
    have k2 : IntKind.i64.wrap ((m : Int) - (x : Int)) = ((m - x : Nat) : Int) := by rw [IntKind.wrap_i64]; have := HH.out; omega
    rcases Nat.lt_trichotomy x y with hlt | rfl | hgt
    · have e0 : ((x : Int) != (y : Int)) = true := by simp; omega
      have e1 : decide ((y : Int) < (x : Int)) = false := decide_eq_false (by omega)
      have e2 : decide (y < x) = false := decide_eq_false (by omega)
      have k3 : IntKind.i64.wrap ((m : Int) + (y : Int)) = ((m + y : Nat) : Int) := by rw [IntKind.wrap_i64]; have := HH.out; omega
      have k4 : IntKind.i64.wrap (((m + y : Nat) : Int) - (x : Int)) = ((m + y - x : Nat) : Int) := by rw [IntKind.wrap_i64]; have := HH.out; omega
      have k5 : IntKind.i64.wrap ((y : Int) - (x : Int)) = ((y - x : Nat) : Int) := by rw [IntKind.wrap_i64]; have := HH.out; omega
      have K1 := Lib.hid (KS.out wr (m - x) (m + y - x) x hI (by have := HH.out; omega) (by have := HH.out; omega))
      have HX : Hid (1 ≤ x ∧ 1 ≤ y ∧ x ≤ m - a ∧ y ≤ b - m ∧ x < y) := Lib.hid ⟨hx1, hy1, hx, hy, hlt⟩
      have HK := Lib.hid hK
      generalize hq1 : m - x = q1 at *
      generalize hq2 : m + y - x = q2 at *
      generalize hq3 : m + y = q3 at *
      clear hI hK hx1 hy1 hx hy hlt hbx
      go_wp2_with fail
      refine K1.out.mono ?_
      rintro e w2 ⟨rfl, hI2, hK2⟩
      have HI2 := Lib.hid hI2; have HK2 := Lib.hid (HK.out.trans hK2)
      clear hI2 hK2
      go_wp2_with fail
      go_roundw
      case rel => exact ⟨x, y - x, rfl, by go_num, by have := HX.out; omega, by have := HX.out; omega, by have := HX.out; omega, by have := HX.out; omega, HI2.out, HK2.out⟩
      case measure => have := HX.out; simp [intOf]; omega
    · have e0 : ((x : Int) != (x : Int)) = false := by simp
      have K1 := Lib.hid (KS.out wr (m - x) m x hI (by have := HH.out; omega) (by have := HH.out; omega))
      have HK := Lib.hid (HK1.out.trans hK)
      generalize hq1 : m - x = q1 at *
      clear hI hK hx1 hy1 hx hy hbx
      go_wp2_with fail
      refine K1.out.mono ?_
      rintro e w2 ⟨rfl, hI2, hK2⟩
      have HI2 := Lib.hid hI2; have HK2 := Lib.hid (HK.out.trans hK2)
      clear hI2 hK2
      go_wp2_with fail
      go_end0
      exact ⟨rfl, HI2.out, HK2.out⟩
    · have e0 : ((x : Int) != (y : Int)) = true := by simp; omega
      have e1 : decide ((y : Int) < (x : Int)) = true := decide_eq_true (by omega)
      have e2 : decide (y < x) = true := decide_eq_true (by omega)
      have k5 : IntKind.i64.wrap ((x : Int) - (y : Int)) = ((x - y : Nat) : Int) := by rw [IntKind.wrap_i64]; have := HH.out; omega
      have K1 := Lib.hid (KS.out wr (m - x) m y hI (by have := HH.out; omega) (by have := HH.out; omega))
      have HX : Hid (1 ≤ x ∧ 1 ≤ y ∧ x ≤ m - a ∧ y ≤ b - m ∧ y < x) := Lib.hid ⟨hx1, hy1, hx, hy, hgt⟩
      have HK := Lib.hid hK
      generalize hq1 : m - x = q1 at *
      clear hI hK hx1 hy1 hx hy hgt hbx
      go_wp2_with fail
      refine K1.out.mono ?_
      rintro e w2 ⟨rfl, hI2, hK2⟩
      have HI2 := Lib.hid hI2; have HK2 := Lib.hid (HK.out.trans hK2)
      clear hI2 hK2
      go_wp2_with fail
      go_roundw
      case rel => exact ⟨x - y, y, by go_num, rfl, by have := HX.out; omega, by have := HX.out; omega, by have := HX.out; omega, by have := HX.out; omega, HI2.out, HK2.out⟩
      case measure => have := HX.out; simp [intOf]; omega
end Go.Proofs.Ytcppcfinnbeboaa
