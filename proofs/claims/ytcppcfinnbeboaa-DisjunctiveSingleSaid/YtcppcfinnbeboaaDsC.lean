/- Law 47: sort.symMerge_func. -/
import Derived.Test.YtcppcfinnbeboaaDsB
namespace Go.Proofs.Ytcppcfinnbeboaa
open Go.RowKit Go.Shelf

theorem half_facts (x y : Nat) (h : x + y ≤ 100000) : IntKind.i64.wrap ((x : Int) + (y : Int)) = ((x + y : Nat) : Int) ∧ IntKind.u64.wrap ((x + y : Nat) : Int) = ((x + y : Nat) : Int) ∧ ((x + y : Nat) : Int) / 2 = (((x + y) / 2 : Nat) : Int) ∧ IntKind.i64.wrap (((x + y) / 2 : Nat) : Int) = (((x + y) / 2 : Nat) : Int) := by
  refine ⟨by rw [IntKind.wrap_i64]; omega, by rw [IntKind.wrap_u64]; omega, by omega, by rw [IntKind.wrap_i64]; omega⟩
section
variable {base g n : Nat} {p s th : Value} {sf : FuncId} {I : World → Prop}
set_option maxRecDepth 100000 in
set_option maxHeartbeats 8000000 in
theorem soMerge_left (hE : SEnv base g n p s th sf I) (hn : n ≤ 1000) (a m b : Nat) (ha : m = a + 1) (hm : m < b) (hb : b ≤ n) (w : World) (hI : I w) :
    Calls Try.prog 117 #[swD p s th sf, .int .i64 (a : Int), .int .i64 (m : Int), .int .i64 (b : Int)] w (SoRet base g I w) := by
  unfold swD
  obtain ⟨hB, hI1, hK1⟩ := BoxS.new hE hI
  have eg := ent_djsearch1
  have z0 : IntKind.i64.wrap ((m : Int) - (a : Int)) = 1 := by rw [IntKind.wrap_i64]; omega
  have HE := Lib.hid hE
  have HB := Lib.hid hB; have HI1 := Lib.hid hI1; have HK1 := Lib.hid hK1
  have HH : Hid (m = a + 1 ∧ m < b ∧ b ≤ n ∧ n ≤ 1000) := Lib.hid ⟨ha, hm, hb, hn⟩
  clear hE hI hB hI1 hK1 hb ha hn hm
  go_enter Try.func117, Try.ntmps117
  go_wp2_with fail
  obtain ⟨W1, hW1⟩ : ∃ y, y = w.alloc (.cells #[.func (.func 78) #[] #[p], .func (.func sf) #[] #[s, th]] 131) := ⟨_, rfl⟩
  obtain ⟨B, hBe⟩ : ∃ y, y = w.heap.size := ⟨_, rfl⟩
  rw [← hW1] at HB HI1 HK1 ⊢
  rw [← hBe] at HB ⊢
  clear hW1 hBe
  go_loopw [8, 9] (fun i j wr => ∃ x y : Nat, i = .int .i64 (x : Int) ∧ j = .int .i64 (y : Int) ∧ m ≤ x ∧ x ≤ y ∧ y ≤ b ∧ I wr ∧ Kp base g W1 wr) (fun i j _ => (intOf j).toNat - (intOf i).toNat)
  case atStart => exact ⟨m, b, rfl, rfl, Nat.le_refl _, by have := HH.out; omega, Nat.le_refl _, HI1.out, Kp.refl⟩
  case round =>
    obtain ⟨x, y, rfl, rfl, hmx, hxy, hyb, hI, hK⟩ := hrel
    rcases Nat.lt_or_ge x y with hlt | hge
    · have e1 : decide ((x : Int) < (y : Int)) = true := decide_eq_true (by omega)
      have e2 : decide (x < y) = true := decide_eq_true (by omega)
      obtain ⟨f1, f2, f3, f4⟩ := half_facts x y (by have := HH.out; omega)
      have HX : Hid (m ≤ x ∧ x < y ∧ y ≤ b ∧ x ≤ (x + y) / 2 ∧ (x + y) / 2 < y) := Lib.hid ⟨hmx, hlt, hyb, by omega, by omega⟩
      have hbx := HB.out.kp hK
      have c0 := hbx.c0
      have Hl := Lib.hid (HE.out.less wr ((x + y) / 2) a (by have := HH.out; omega) (by have := HH.out; omega) hI)
      have HK := Lib.hid hK
      have f5 : IntKind.i64.wrap ((((x + y) / 2 : Nat) : Int) + 1) = (((x + y) / 2 + 1 : Nat) : Int) := by rw [IntKind.wrap_i64]; have := HH.out; omega
      generalize hh : (x + y) / 2 = h at *
      generalize hq : x + y = q at *
      clear hI hK hmx hxy hyb hlt hbx hh hq
      go_wp2_with (go_at_fn 78; refine Hl.out.mono ?_; rintro e w2 ⟨bb, rfl, hI2, hK2⟩; have HI3 := Lib.hid hI2; have HK3 := Lib.hid (HK.out.trans hK2); clear hI2 hK2; cases bb)
      · go_roundw
        case rel => exact ⟨x, h, rfl, rfl, by have := HX.out; omega, by have := HX.out; omega, by have := HX.out; omega, HI3.out, HK3.out⟩
        case measure => have := HX.out; simp [intOf]; omega
      · go_roundw
        case rel => exact ⟨h + 1, y, by go_num, rfl, by have := HX.out; omega, by have := HX.out; omega, by have := HX.out; omega, HI3.out, HK3.out⟩
        case measure => have := HX.out; simp [intOf]; omega
    · obtain rfl : x = y := by omega
      have e1 : decide ((x : Int) < (x : Int)) = false := decide_eq_false (by omega)
      have HX : Hid (m ≤ x ∧ x ≤ b) := Lib.hid ⟨hmx, hyb⟩
      have HI2 := Lib.hid hI; have HK2 := Lib.hid hK
      have z1 : IntKind.i64.wrap ((x : Int) - 1) = ((x - 1 : Nat) : Int) := by rw [IntKind.wrap_i64]; have := HH.out; omega
      clear hI hK hmx hxy hyb hge
      go_wp2_with fail
      go_loopw [11] (fun i wq => ∃ k : Nat, i = .int .i64 (k : Int) ∧ a ≤ k ∧ k ≤ x ∧ I wq ∧ Kp base g W1 wq) (fun i _ => x - (intOf i).toNat)
      case atStart => exact ⟨a, rfl, Nat.le_refl _, by have := HX.out; have := HH.out; omega, HI2.out, HK2.out⟩
      case round =>
        obtain ⟨k, rfl, hk, hkx, hI, hK⟩ := hrel
        rcases Nat.lt_or_ge k (x - 1) with hlt | hge
        · have e2 : decide ((k : Int) < ((x - 1 : Nat) : Int)) = true := decide_eq_true (by omega)
          have e3 : decide (k < x - 1) = true := decide_eq_true (by omega)
          have k1 : IntKind.i64.wrap ((k : Int) + 1) = ((k + 1 : Nat) : Int) := by rw [IntKind.wrap_i64]; have := HH.out; have := HX.out; omega
          have hbx := HB.out.kp hK
          have c1 := hbx.c1
          obtain ⟨W4, hs, hI4, hK4⟩ := HE.out.swap wr k (k + 1) (by have := HH.out; have := HX.out; omega) (by have := HH.out; have := HX.out; omega) hI
          have HI4 := Lib.hid hI4; have HK4 := Lib.hid (hK.trans hK4); have Hs := Lib.hid hs
          have Hk : Hid (a ≤ k ∧ k < x - 1) := Lib.hid ⟨hk, hlt⟩
          generalize hk1 : k + 1 = kk at *
          clear hI4 hK4 hs hI hK hlt hk hkx hbx
          go_wp2_with fail
          rw [Hs.out, Oper.upon_value]
          go_wp2_with fail
          go_roundw
          case rel => exact ⟨kk, rfl, by have := Hk.out; omega, by have := Hk.out; omega, HI4.out, HK4.out⟩
          case measure => have := Hk.out; simp [intOf]; omega
        · have e2 : decide ((k : Int) < ((x - 1 : Nat) : Int)) = false := decide_eq_false (by omega)
          have e3 : decide (k < x - 1) = false := decide_eq_false (by omega)
          have HI3 := Lib.hid hI; have HK3 := Lib.hid (HK1.out.trans hK)
          clear hI hK hk hkx hge
          go_wp2_with fail
          (try simp only [Exit.inBlock, Exit.then])
          refine bodyPost_ret (results_none rfl _ _ _) rfl ?_
          exact ⟨rfl, HI3.out, HK3.out⟩
set_option maxRecDepth 100000 in
set_option maxHeartbeats 8000000 in
theorem soMerge_right (hE : SEnv base g n p s th sf I) (hn : n ≤ 1000) (a m b : Nat) (ha : a + 1 < m) (hm : b = m + 1) (hb : b ≤ n) (w : World) (hI : I w) :
    Calls Try.prog 117 #[swD p s th sf, .int .i64 (a : Int), .int .i64 (m : Int), .int .i64 (b : Int)] w (SoRet base g I w) := by
  unfold swD
  obtain ⟨hB, hI1, hK1⟩ := BoxS.new hE hI
  have eg := ent_djsearch1
  obtain ⟨ma, hma⟩ : ∃ y : Nat, y = m - a := ⟨_, rfl⟩
  have z0 : IntKind.i64.wrap ((m : Int) - (a : Int)) = (ma : Int) := by rw [IntKind.wrap_i64]; omega
  have z00 : ((ma : Int) == 1) = false := by rw [beq_eq_false_iff_ne]; omega
  have z01 : (ma == 1) = false := by rw [beq_eq_false_iff_ne]; omega
  have z02 : ¬ ma = 1 := by omega
  have z1 : IntKind.i64.wrap ((b : Int) - (m : Int)) = 1 := by rw [IntKind.wrap_i64]; omega
  have HE := Lib.hid hE
  have HB := Lib.hid hB; have HI1 := Lib.hid hI1; have HK1 := Lib.hid hK1
  have HH : Hid (a + 1 < m ∧ b = m + 1 ∧ b ≤ n ∧ n ≤ 1000) := Lib.hid ⟨ha, hm, hb, hn⟩
  clear hE hI hB hI1 hK1 hb ha hn hm hma
  go_enter Try.func117, Try.ntmps117
  go_wp2_with fail
  obtain ⟨W1, hW1⟩ : ∃ y, y = w.alloc (.cells #[.func (.func 78) #[] #[p], .func (.func sf) #[] #[s, th]] 131) := ⟨_, rfl⟩
  obtain ⟨B, hBe⟩ : ∃ y, y = w.heap.size := ⟨_, rfl⟩
  rw [← hW1] at HB HI1 HK1 ⊢
  rw [← hBe] at HB ⊢
  clear hW1 hBe
  go_loopw [12, 13] (fun i j wr => ∃ x y : Nat, i = .int .i64 (x : Int) ∧ j = .int .i64 (y : Int) ∧ a ≤ x ∧ x ≤ y ∧ y ≤ m ∧ I wr ∧ Kp base g W1 wr) (fun i j _ => (intOf j).toNat - (intOf i).toNat)
  case atStart => exact ⟨a, m, rfl, rfl, Nat.le_refl _, by have := HH.out; omega, Nat.le_refl _, HI1.out, Kp.refl⟩
  case round =>
    obtain ⟨x, y, rfl, rfl, hmx, hxy, hyb, hI, hK⟩ := hrel
    rcases Nat.lt_or_ge x y with hlt | hge
    · have e1 : decide ((x : Int) < (y : Int)) = true := decide_eq_true (by omega)
      have e2 : decide (x < y) = true := decide_eq_true (by omega)
      obtain ⟨f1, f2, f3, f4⟩ := half_facts x y (by have := HH.out; omega)
      have HX : Hid (a ≤ x ∧ x < y ∧ y ≤ m ∧ x ≤ (x + y) / 2 ∧ (x + y) / 2 < y) := Lib.hid ⟨hmx, hlt, hyb, by omega, by omega⟩
      have hbx := HB.out.kp hK
      have c0 := hbx.c0
      have Hl := Lib.hid (HE.out.less wr m ((x + y) / 2) (by have := HH.out; omega) (by have := HH.out; omega) hI)
      have HK := Lib.hid hK
      have f5 : IntKind.i64.wrap ((((x + y) / 2 : Nat) : Int) + 1) = (((x + y) / 2 + 1 : Nat) : Int) := by rw [IntKind.wrap_i64]; have := HH.out; omega
      generalize hh : (x + y) / 2 = h at *
      generalize hq : x + y = q at *
      clear hI hK hmx hxy hyb hlt hbx hh hq
      go_wp2_with (go_at_fn 78; refine Hl.out.mono ?_; rintro e w2 ⟨bb, rfl, hI2, hK2⟩; have HI3 := Lib.hid hI2; have HK3 := Lib.hid (HK.out.trans hK2); clear hI2 hK2; cases bb)
      · go_roundw
        case rel => exact ⟨h + 1, y, by go_num, rfl, by have := HX.out; omega, by have := HX.out; omega, by have := HX.out; omega, HI3.out, HK3.out⟩
        case measure => have := HX.out; simp [intOf]; omega
      · go_roundw
        case rel => exact ⟨x, h, rfl, rfl, by have := HX.out; omega, by have := HX.out; omega, by have := HX.out; omega, HI3.out, HK3.out⟩
        case measure => have := HX.out; simp [intOf]; omega
    · obtain rfl : x = y := by omega
      have e1 : decide ((x : Int) < (x : Int)) = false := decide_eq_false (by omega)
      have HX : Hid (a ≤ x ∧ x ≤ m) := Lib.hid ⟨hmx, hyb⟩
      have HI2 := Lib.hid hI; have HK2 := Lib.hid hK
      clear hI hK hmx hxy hyb hge
      go_wp2_with fail
      go_loopw [15] (fun i wq => ∃ k : Nat, i = .int .i64 (k : Int) ∧ x ≤ k ∧ k ≤ m ∧ I wq ∧ Kp base g W1 wq) (fun i _ => (intOf i).toNat)
      case atStart => exact ⟨m, rfl, by have := HX.out; omega, Nat.le_refl _, HI2.out, HK2.out⟩
      case round =>
        obtain ⟨k, rfl, hk, hkx, hI, hK⟩ := hrel
        rcases Nat.lt_or_ge x k with hlt | hge
        · have e2 : decide ((x : Int) < (k : Int)) = true := decide_eq_true (by omega)
          have e3 : decide (x < k) = true := decide_eq_true (by omega)
          have k1 : IntKind.i64.wrap ((k : Int) - 1) = ((k - 1 : Nat) : Int) := by rw [IntKind.wrap_i64]; have := HH.out; have := HX.out; omega
          have hbx := HB.out.kp hK
          have c1 := hbx.c1
          obtain ⟨W4, hs, hI4, hK4⟩ := HE.out.swap wr k (k - 1) (by have := HH.out; have := HX.out; omega) (by have := HH.out; have := HX.out; omega) hI
          have HI4 := Lib.hid hI4; have HK4 := Lib.hid (hK.trans hK4); have Hs := Lib.hid hs
          have Hk : Hid (x < k ∧ k ≤ m) := Lib.hid ⟨hlt, hkx⟩
          generalize hk1 : k - 1 = kk at *
          clear hI4 hK4 hs hI hK hlt hk hkx hbx
          go_wp2_with fail
          rw [Hs.out, Oper.upon_value]
          go_wp2_with fail
          go_roundw
          case rel => exact ⟨kk, rfl, by have := Hk.out; omega, by have := Hk.out; omega, HI4.out, HK4.out⟩
          case measure => have := Hk.out; simp [intOf]; omega
        · have e2 : decide ((x : Int) < (k : Int)) = false := decide_eq_false (by omega)
          have e3 : decide (x < k) = false := decide_eq_false (by omega)
          have HI3 := Lib.hid hI; have HK3 := Lib.hid (HK1.out.trans hK)
          clear hI hK hk hkx hge
          go_wp2_with fail
          (try simp only [Exit.inBlock, Exit.then])
          refine bodyPost_ret (results_none rfl _ _ _) rfl ?_
          exact ⟨rfl, HI3.out, HK3.out⟩
end
end Go.Proofs.Ytcppcfinnbeboaa
