/- Texts joined: DsA, DsB, DsC, DsD, DsE. -/
import Derived.Test.YtcppcfinnbeboaaGreatDjC
import Derived.Test.YtcppcfinnbeboaaGreatLayS
import Derived.Test.YtcppcfinnbeboaaGreatDkI
import Derived.Test.YtcppcfinnbeboaaGreatDjV
import Derived.Shelf.GgSortFunc.SmallK

/- Law 47: sort.SliceStable's parts, at any row that the swapper turns: what lies elsewhere is kept, no index leaves the row. -/
namespace Go.Proofs.YtcppcfinnbeboaaGreat
open Go.RowKit Go.Shelf

/-- One block, g, may have changed; new blocks may have come. -/
structure Kp (base g : Nat) (W W' : World) : Prop where
  bel : Below base W W'
  oth : ∀ b, b < W.heap.size → b ≠ g → W'.heap[b]? = W.heap[b]?
section
variable {base g n : Nat} {W W' W2 : World}
theorem Kp.refl : Kp base g W W := ⟨Below.refl _ _, fun _ _ _ => rfl⟩
theorem Kp.trans (h : Kp base g W W') (h2 : Kp base g W' W2) : Kp base g W W2 := ⟨h.bel.trans h2.bel, fun b hb hg => (h2.oth b (Nat.lt_of_lt_of_le hb h.bel.size) hg).trans (h.oth b hb hg)⟩
theorem Kp.of (h : Below W.heap.size W W') (hb : base ≤ W.heap.size) : Kp base g W W' := ⟨h.mono hb, fun b hb _ => h.block b hb⟩
def LessRet (base g : Nat) (I : World → Prop) (W : World) (e : Ending) (w' : World) : Prop := ∃ b, e = .returned (.bool b) ∧ I w' ∧ Kp base g W w'
def SoRet (base g : Nat) (I : World → Prop) (W : World) (e : Ending) (w' : World) : Prop := e = .returned (.tuple #[]) ∧ I w' ∧ Kp base g W w'
/-- What less and swap do: I is kept. -/
structure SEnv (base g n : Nat) (p s th : Value) (sf : FuncId) (I : World → Prop) : Prop where
  keep : ∀ W W', I W → Below W.heap.size W W' → I W'
  lt : ∀ W, I W → g < W.heap.size ∧ base ≤ W.heap.size
  less : ∀ W (i j : Nat), i < n → j < n → I W → Calls Tryz.prog 52 #[.int .i64 (i : Int), .int .i64 (j : Int), p] W (LessRet base g I W)
  swap : ∀ W (i j : Nat), i < n → j < n → I W → ∃ W', Sem.run Tryz.prog (callFunc sf #[.int .i64 (i : Int), .int .i64 (j : Int), s, th]) W = .ok (.value (.tuple #[])) W' ∧ I W' ∧ Kp base g W W'
theorem ent_djsearch1 : ∀ (args : Array Value) (w : World), Sem.run Tryz.prog (callFunc 52 args) w = .ok (.enter 52 args) w := fun _ _ => by kernel_rfl
def swD (p s th : Value) (sf : FuncId) : Value := .agg #[.func (.func 52) #[] #[p], .func (.func sf) #[] #[s, th]]
variable {p s th : Value} {sf : FuncId} {I : World → Prop}
/-- The box of the two functions. -/
structure BoxS (B g : Nat) (p s th : Value) (sf : FuncId) (W : World) : Prop where
  blk : W.heap[B]? = some (.cells #[.func (.func 52) #[] #[p], .func (.func sf) #[] #[s, th]] 108 (0, 0))
  ne : B ≠ g
theorem BoxS.kp {B : Nat} (h : BoxS B g p s th sf W) (hk : Kp base g W W') : BoxS B g p s th sf W' := ⟨(hk.oth B (blk_lt h.blk) h.ne).trans h.blk, h.ne⟩
theorem BoxS.c0 {B : Nat} (h : BoxS B g p s th sf W) : W.cell? ⟨B, 0, none⟩ = some (.func (.func 52) #[] #[p]) := blk_get h.blk 0
theorem BoxS.c1 {B : Nat} (h : BoxS B g p s th sf W) : W.cell? ⟨B, 1, none⟩ = some (.func (.func sf) #[] #[s, th]) := blk_get h.blk 1
theorem BoxS.new (hE : SEnv base g n p s th sf I) (hI : I W) : BoxS W.heap.size g p s th sf (W.alloc (.cells #[.func (.func 52) #[] #[p], .func (.func sf) #[] #[s, th]] 108)) ∧ I (W.alloc (.cells #[.func (.func 52) #[] #[p], .func (.func sf) #[] #[s, th]] 108)) ∧ Kp base g W (W.alloc (.cells #[.func (.func 52) #[] #[p], .func (.func sf) #[] #[s, th]] 108)) :=
  ⟨⟨heap_alloc_new W _, by have := (hE.lt W hI).1; omega⟩, hE.keep _ _ hI ((Below.refl _ _).alloc (Nat.le_refl _) _), Kp.of ((Below.refl _ _).alloc (Nat.le_refl _) _) (hE.lt W hI).2⟩
end
set_option maxRecDepth 100000 in
set_option maxHeartbeats 4000000 in
theorem soInsert_c {base g n : Nat} {p s th : Value} {sf : FuncId} {I : World → Prop} (hE : SEnv base g n p s th sf I) (hn : n ≤ 1000) (a b : Nat) (ha : a ≤ 1000) (hb : b ≤ n) (w : World) (hI : I w) :
    Calls Tryz.prog 98 #[swD p s th sf, .int .i64 (a : Int), .int .i64 (b : Int)] w (SoRet base g I w) := by
  unfold swD
  obtain ⟨hB, hI1, hK1⟩ := BoxS.new hE hI
  have z0 : IntKind.i64.wrap ((a : Int) + 1) = (a : Int) + 1 := by rw [IntKind.wrap_i64]; omega
  have eg := ent_djsearch1
  have HE := Lib.hid hE
  have HB := Lib.hid hB; have HI1 := Lib.hid hI1; have HK1 := Lib.hid hK1; have Hb := Lib.hid hb
  clear hE hI hB hI1 hK1 hb
  go_enter Tryz.func98, Tryz.ntmps98
  go_wp2_with fail
  obtain ⟨W1, hW1⟩ : ∃ y, y = w.alloc (.cells #[.func (.func 52) #[] #[p], .func (.func sf) #[] #[s, th]] 108) := ⟨_, rfl⟩
  obtain ⟨B, hBe⟩ : ∃ y, y = w.heap.size := ⟨_, rfl⟩
  rw [← hW1] at HB HI1 HK1 ⊢
  rw [← hBe] at HB ⊢
  clear hW1 hBe
  go_loopw [6] (fun i wr => ∃ k : Nat, i = .int .i64 (k : Int) ∧ a < k ∧ k ≤ a + b + 1 ∧ I wr ∧ Kp base g W1 wr) (fun i _ => a + b + 1 - (intOf i).toNat)
  case atStart => exact ⟨a + 1, by go_num, by omega, by omega, HI1.out, Kp.refl⟩
  case round =>
    obtain ⟨k, rfl, hak, hk, hI, hK⟩ := hrel
    rcases Nat.lt_or_ge k b with hlt | hge
    rotate_left
    · have k0 : decide ((k : Int) < (b : Int)) = false := decide_eq_false (by omega)
      have k00 : decide (k < b) = false := decide_eq_false (by omega)
      have HR := Lib.hid (HK1.out.trans hK)
      clear hK hge hk hak
      go_wp2_with fail
      go_end0
      exact ⟨rfl, hI, HR.out⟩
    have k0 : decide ((k : Int) < (b : Int)) = true := decide_eq_true (by omega)
    have k00 : decide (k < b) = true := decide_eq_true hlt
    have k1 : IntKind.i64.wrap ((k : Int) + 1) = (k : Int) + 1 := by rw [IntKind.wrap_i64]; have := Hb.out; omega
    have HI := Lib.hid hI; have HK := Lib.hid hK; have Hlt := Lib.hid hlt; have Hak := Lib.hid hak
    clear hI hK hlt hak hk
    go_wp2_with fail
    go_loopw [7] (fun i wq => ∃ j : Nat, i = .int .i64 (j : Int) ∧ a ≤ j ∧ j ≤ k ∧ I wq ∧ Kp base g W1 wq) (fun i _ => (intOf i).toNat)
    case atStart => exact ⟨k, rfl, by have := Hak.out; omega, Nat.le_refl _, HI.out, HK.out⟩
    case round =>
      obtain ⟨j, rfl, haj, hjk, hI, hK⟩ := hrel
      rcases Nat.lt_or_ge a j with hlt | hge
      rotate_left
      · have j0 : decide ((a : Int) < (j : Int)) = false := decide_eq_false (by omega)
        have j00 : decide (a < j) = false := decide_eq_false (by omega)
        have HI2 := Lib.hid hI; have HK2 := Lib.hid hK
        clear hI hK hge haj hjk
        go_wp2_with fail
        go_roundw
        case rel => exact ⟨k + 1, by go_num, by have := Hak.out; omega, by have := Hlt.out; omega, HI2.out, HK2.out⟩
        case measure => have := Hlt.out; simp [intOf]; omega
      have j0 : decide ((a : Int) < (j : Int)) = true := decide_eq_true (by omega)
      have j00 : decide (a < j) = true := decide_eq_true (by omega)
      have j1 : IntKind.i64.wrap ((j : Int) - 1) = ((j - 1 : Nat) : Int) := by rw [IntKind.wrap_i64]; have := Hb.out; have := Hlt.out; omega
      have hbx := HB.out.kp hK
      have c0 := hbx.c0
      have hl := HE.out.less wr j (j - 1) (by have := Hb.out; have := Hlt.out; omega) (by have := Hb.out; have := Hlt.out; omega) hI
      have Hl := Lib.hid hl; have HK2 := Lib.hid hK; have Haj := Lib.hid hlt; have Hjk := Lib.hid hjk
      clear hl hK hI hlt haj hjk hbx
      go_wp2_with (go_at_fn 52; refine Hl.out.mono ?_; rintro e w2 ⟨bb, rfl, hI2, hK2⟩; have c1 := (HB.out.kp (HK2.out.trans hK2)).c1; have HI3 := Lib.hid hI2; have HK3 := Lib.hid (HK2.out.trans hK2); clear hI2 hK2; cases bb)
      · go_roundw
        case rel => exact ⟨k + 1, by go_num, by have := Hak.out; omega, by have := Hlt.out; omega, HI3.out, HK3.out⟩
        case measure => have := Hlt.out; simp [intOf]; omega
      · obtain ⟨W4, hs, hI4, hK4⟩ := HE.out.swap w2 j (j - 1) (by have := Hb.out; have := Hlt.out; have := Hjk.out; omega) (by have := Hb.out; have := Hlt.out; have := Hjk.out; omega) HI3.out
        have HI4 := Lib.hid hI4; have HK4 := Lib.hid (HK3.out.trans hK4); have Hs := Lib.hid hs
        clear hI4 hK4 hs c0
        rw [Hs.out, Oper.upon_value]
        go_wp2_with fail
        go_roundw
        case rel => exact ⟨j - 1, by go_num, by have := Haj.out; omega, by have := Hjk.out; omega, HI4.out, HK4.out⟩
        case measure => have := Haj.out; simp [intOf]; omega
end Go.Proofs.YtcppcfinnbeboaaGreat

/- Law 47: sort.swapRange_func, rotate_func. -/
namespace Go.Proofs.YtcppcfinnbeboaaGreat
open Go.RowKit Go.Shelf

set_option maxRecDepth 100000 in
set_option maxHeartbeats 4000000 in
theorem soSwapRange_c {base g n : Nat} {p s th : Value} {sf : FuncId} {I : World → Prop} (hE : SEnv base g n p s th sf I) (hn : n ≤ 1000) (a b c : Nat) (ha : a + c ≤ n) (hb : b + c ≤ n) (w : World) (hI : I w) :
    Calls Tryz.prog 124 #[swD p s th sf, .int .i64 (a : Int), .int .i64 (b : Int), .int .i64 (c : Int)] w (SoRet base g I w) := by
  unfold swD
  obtain ⟨hB, hI1, hK1⟩ := BoxS.new hE hI
  have HE := Lib.hid hE
  have HB := Lib.hid hB; have HI1 := Lib.hid hI1; have HK1 := Lib.hid hK1; have Hb := Lib.hid hb; have Ha := Lib.hid ha; have Hn := Lib.hid hn
  clear hE hI hB hI1 hK1 hb ha hn
  go_enter Tryz.func124, Tryz.ntmps124
  go_wp2_with fail
  obtain ⟨W1, hW1⟩ : ∃ y, y = w.alloc (.cells #[.func (.func 52) #[] #[p], .func (.func sf) #[] #[s, th]] 108) := ⟨_, rfl⟩
  obtain ⟨B, hBe⟩ : ∃ y, y = w.heap.size := ⟨_, rfl⟩
  rw [← hW1] at HB HI1 HK1 ⊢
  rw [← hBe] at HB ⊢
  clear hW1 hBe
  go_loopw [8] (fun i wr => ∃ k : Nat, i = .int .i64 (k : Int) ∧ k ≤ c ∧ I wr ∧ Kp base g W1 wr) (fun i _ => c - (intOf i).toNat)
  case atStart => exact ⟨0, rfl, Nat.zero_le _, HI1.out, Kp.refl⟩
  case round =>
    obtain ⟨k, rfl, hk, hI, hK⟩ := hrel
    rcases Nat.lt_or_ge k c with hlt | hge
    rotate_left
    · have k0 : decide ((k : Int) < (c : Int)) = false := decide_eq_false (by omega)
      have k00 : decide (k < c) = false := decide_eq_false (by omega)
      have HR := Lib.hid (HK1.out.trans hK)
      clear hK hge hk
      go_wp2_with fail
      go_end0
      exact ⟨rfl, hI, HR.out⟩
    have k0 : decide ((k : Int) < (c : Int)) = true := decide_eq_true (by omega)
    have k00 : decide (k < c) = true := decide_eq_true hlt
    have k1 : IntKind.i64.wrap ((k : Int) + 1) = (k : Int) + 1 := by rw [IntKind.wrap_i64]; have := Hb.out; have := Hn.out; omega
    have k2 : IntKind.i64.wrap ((a : Int) + (k : Int)) = ((a + k : Nat) : Int) := by rw [IntKind.wrap_i64]; have := Ha.out; have := Hn.out; omega
    have k3 : IntKind.i64.wrap ((b : Int) + (k : Int)) = ((b + k : Nat) : Int) := by rw [IntKind.wrap_i64]; have := Hb.out; have := Hn.out; omega
    have c1 := (HB.out.kp hK).c1
    obtain ⟨W4, hs, hI4, hK4⟩ := HE.out.swap wr (a + k) (b + k) (by have := Ha.out; omega) (by have := Hb.out; omega) hI
    have HI4 := Lib.hid hI4; have HK4 := Lib.hid (hK.trans hK4); have Hs := Lib.hid hs; have Hlt := Lib.hid hlt
    generalize hx : a + k = x at *
    generalize hy : b + k = y at *
    clear hI4 hK4 hs hI hK hlt hk
    go_wp2_with fail
    rw [Hs.out, Oper.upon_value]
    go_wp2_with fail
    go_roundw
    case rel => exact ⟨k + 1, by go_num, Hlt.out, HI4.out, HK4.out⟩
    case measure => have := Hlt.out; simp [intOf]; omega
set_option maxRecDepth 100000 in
set_option maxHeartbeats 4000000 in
theorem soRotate_c {base g n : Nat} {p s th : Value} {sf : FuncId} {I : World → Prop} (hE : SEnv base g n p s th sf I) (hn : n ≤ 1000) (a m b : Nat) (ha : a < m) (hm : m < b) (hb : b ≤ n) (w : World) (hI : I w) :
    Calls Tryz.prog 115 #[swD p s th sf, .int .i64 (a : Int), .int .i64 (m : Int), .int .i64 (b : Int)] w (SoRet base g I w) := by
  have KS : Hid (∀ X (a b c : Nat), I X → a + c ≤ n → b + c ≤ n → Calls Tryz.prog 124 #[.agg #[.func (.func 52) #[] #[p], .func (.func sf) #[] #[s, th]], .int .i64 (a : Int), .int .i64 (b : Int), .int .i64 (c : Int)] X (SoRet base g I X)) := Lib.hid fun X a b c h1 h2 h3 => soSwapRange_c hE hn a b c h2 h3 X h1
  unfold swD
  obtain ⟨hB, hI1, hK1⟩ := BoxS.new hE hI
  have z0 : IntKind.i64.wrap ((m : Int) - (a : Int)) = ((m - a : Nat) : Int) := by rw [IntKind.wrap_i64]; omega
  have z1 : IntKind.i64.wrap ((b : Int) - (m : Int)) = ((b - m : Nat) : Int) := by rw [IntKind.wrap_i64]; omega
  have HB := Lib.hid hB; have HI1 := Lib.hid hI1; have HK1 := Lib.hid hK1
  have HH : Hid (a < m ∧ m < b ∧ b ≤ n ∧ n ≤ 1000) := Lib.hid ⟨ha, hm, hb, hn⟩
  clear hE hI hB hI1 hK1 hb ha hn hm
  go_enter Tryz.func115, Tryz.ntmps115
  go_wp2_with fail
  obtain ⟨W1, hW1⟩ : ∃ y, y = w.alloc (.cells #[.func (.func 52) #[] #[p], .func (.func sf) #[] #[s, th]] 108) := ⟨_, rfl⟩
  obtain ⟨B, hBe⟩ : ∃ y, y = w.heap.size := ⟨_, rfl⟩
  rw [← hW1] at HB HI1 HK1 ⊢
  rw [← hBe] at HB ⊢
  clear hW1 hBe z0 z1
  go_loopw [8, 9] (fun i j wr => ∃ x y : Nat, i = .int .i64 (x : Int) ∧ j = .int .i64 (y : Int) ∧ 1 ≤ x ∧ 1 ≤ y ∧ x ≤ m - a ∧ y ≤ b - m ∧ I wr ∧ Kp base g W1 wr) (fun i j _ => (intOf i).toNat + (intOf j).toNat)
  case atStart => exact ⟨m - a, b - m, rfl, rfl, by have := HH.out; omega, by have := HH.out; omega, Nat.le_refl _, Nat.le_refl _, HI1.out, Kp.refl⟩
  case round =>
    obtain ⟨x, y, rfl, rfl, hx1, hy1, hx, hy, hI, hK⟩ := hrel
    have hbx := HB.out.kp hK
    have c0 := hbx.c0
    have c1 := hbx.c1
    have k2 : IntKind.i64.wrap ((m : Int) - (x : Int)) = ((m - x : Nat) : Int) := by rw [IntKind.wrap_i64]; have := HH.out; omega
    rcases Nat.lt_trichotomy x y with hlt | rfl | hgt
    · have e0 : ((x : Int) != (y : Int)) = true := by simp; omega
      have e1 : decide ((y : Int) < (x : Int)) = false := decide_eq_false (by omega)
      have e2 : decide (y < x) = false := decide_eq_false (by omega)
      have k3 : IntKind.i64.wrap ((m : Int) + (y : Int)) = ((m + y : Nat) : Int) := by rw [IntKind.wrap_i64]; have := HH.out; omega
      have k4 : IntKind.i64.wrap (((m + y : Nat) : Int) - (x : Int)) = ((m + y - x : Nat) : Int) := by rw [IntKind.wrap_i64]; have := HH.out; omega
      have k5 : IntKind.i64.wrap ((y : Int) - (x : Int)) = ((y - x : Nat) : Int) := by rw [IntKind.wrap_i64]; have := HH.out; omega
      have K1 := Lib.hid (KS.out wr (m - x) (m + y - x) x hI (by have := HH.out; omega) (by have := HH.out; omega))
      have HX : Hid (1 ≤ x ∧ 1 ≤ y ∧ x ≤ m - a ∧ y ≤ b - m ∧ x < y) := Lib.hid ⟨hx1, hy1, hx, hy, hlt⟩
      have HK := Lib.hid hK
      generalize hq1 : m - x = q1 at *
      generalize hq2 : m + y - x = q2 at *
      generalize hq3 : m + y = q3 at *
      clear hI hK hx1 hy1 hx hy hlt hbx
      go_wp2_with fail
      refine K1.out.mono ?_
      rintro e w2 ⟨rfl, hI2, hK2⟩
      have HI2 := Lib.hid hI2; have HK2 := Lib.hid (HK.out.trans hK2)
      clear hI2 hK2
      go_wp2_with fail
      go_roundw
      case rel => exact ⟨x, y - x, rfl, by go_num, by have := HX.out; omega, by have := HX.out; omega, by have := HX.out; omega, by have := HX.out; omega, HI2.out, HK2.out⟩
      case measure => have := HX.out; simp [intOf]; omega
    · have e0 : ((x : Int) != (x : Int)) = false := by simp
      have K1 := Lib.hid (KS.out wr (m - x) m x hI (by have := HH.out; omega) (by have := HH.out; omega))
      have HK := Lib.hid (HK1.out.trans hK)
      generalize hq1 : m - x = q1 at *
      clear hI hK hx1 hy1 hx hy hbx
      go_wp2_with fail
      refine K1.out.mono ?_
      rintro e w2 ⟨rfl, hI2, hK2⟩
      have HI2 := Lib.hid hI2; have HK2 := Lib.hid (HK.out.trans hK2)
      clear hI2 hK2
      go_wp2_with fail
      go_end0
      exact ⟨rfl, HI2.out, HK2.out⟩
    · have e0 : ((x : Int) != (y : Int)) = true := by simp; omega
      have e1 : decide ((y : Int) < (x : Int)) = true := decide_eq_true (by omega)
      have e2 : decide (y < x) = true := decide_eq_true (by omega)
      have k5 : IntKind.i64.wrap ((x : Int) - (y : Int)) = ((x - y : Nat) : Int) := by rw [IntKind.wrap_i64]; have := HH.out; omega
      have K1 := Lib.hid (KS.out wr (m - x) m y hI (by have := HH.out; omega) (by have := HH.out; omega))
      have HX : Hid (1 ≤ x ∧ 1 ≤ y ∧ x ≤ m - a ∧ y ≤ b - m ∧ y < x) := Lib.hid ⟨hx1, hy1, hx, hy, hgt⟩
      have HK := Lib.hid hK
      generalize hq1 : m - x = q1 at *
      clear hI hK hx1 hy1 hx hy hgt hbx
      go_wp2_with fail
      refine K1.out.mono ?_
      rintro e w2 ⟨rfl, hI2, hK2⟩
      have HI2 := Lib.hid hI2; have HK2 := Lib.hid (HK.out.trans hK2)
      clear hI2 hK2
      go_wp2_with fail
      go_roundw
      case rel => exact ⟨x - y, y, by go_num, rfl, by have := HX.out; omega, by have := HX.out; omega, by have := HX.out; omega, by have := HX.out; omega, HI2.out, HK2.out⟩
      case measure => have := HX.out; simp [intOf]; omega
end Go.Proofs.YtcppcfinnbeboaaGreat

/- Law 47: sort.symMerge_func. -/
namespace Go.Proofs.YtcppcfinnbeboaaGreat
open Go.RowKit Go.Shelf

theorem half_facts (x y : Nat) (h : x + y ≤ 100000) : IntKind.i64.wrap ((x : Int) + (y : Int)) = ((x + y : Nat) : Int) ∧ IntKind.u64.wrap ((x + y : Nat) : Int) = ((x + y : Nat) : Int) ∧ ((x + y : Nat) : Int) / 2 = (((x + y) / 2 : Nat) : Int) ∧ IntKind.i64.wrap (((x + y) / 2 : Nat) : Int) = (((x + y) / 2 : Nat) : Int) := by
  refine ⟨by rw [IntKind.wrap_i64]; omega, by rw [IntKind.wrap_u64]; omega, by omega, by rw [IntKind.wrap_i64]; omega⟩
section
variable {base g n : Nat} {p s th : Value} {sf : FuncId} {I : World → Prop}
set_option maxRecDepth 100000 in
set_option maxHeartbeats 8000000 in
theorem soMerge_left (hE : SEnv base g n p s th sf I) (hn : n ≤ 1000) (a m b : Nat) (ha : m = a + 1) (hm : m < b) (hb : b ≤ n) (w : World) (hI : I w) :
    Calls Tryz.prog 99 #[swD p s th sf, .int .i64 (a : Int), .int .i64 (m : Int), .int .i64 (b : Int)] w (SoRet base g I w) := by
  unfold swD
  obtain ⟨hB, hI1, hK1⟩ := BoxS.new hE hI
  have eg := ent_djsearch1
  have z0 : IntKind.i64.wrap ((m : Int) - (a : Int)) = 1 := by rw [IntKind.wrap_i64]; omega
  have HE := Lib.hid hE
  have HB := Lib.hid hB; have HI1 := Lib.hid hI1; have HK1 := Lib.hid hK1
  have HH : Hid (m = a + 1 ∧ m < b ∧ b ≤ n ∧ n ≤ 1000) := Lib.hid ⟨ha, hm, hb, hn⟩
  clear hE hI hB hI1 hK1 hb ha hn hm
  go_enter Tryz.func99, Tryz.ntmps99
  go_wp2_with fail
  obtain ⟨W1, hW1⟩ : ∃ y, y = w.alloc (.cells #[.func (.func 52) #[] #[p], .func (.func sf) #[] #[s, th]] 108) := ⟨_, rfl⟩
  obtain ⟨B, hBe⟩ : ∃ y, y = w.heap.size := ⟨_, rfl⟩
  rw [← hW1] at HB HI1 HK1 ⊢
  rw [← hBe] at HB ⊢
  clear hW1 hBe
  go_loopw [8, 9] (fun i j wr => ∃ x y : Nat, i = .int .i64 (x : Int) ∧ j = .int .i64 (y : Int) ∧ m ≤ x ∧ x ≤ y ∧ y ≤ b ∧ I wr ∧ Kp base g W1 wr) (fun i j _ => (intOf j).toNat - (intOf i).toNat)
  case atStart => exact ⟨m, b, rfl, rfl, Nat.le_refl _, by have := HH.out; omega, Nat.le_refl _, HI1.out, Kp.refl⟩
  case round =>
    obtain ⟨x, y, rfl, rfl, hmx, hxy, hyb, hI, hK⟩ := hrel
    rcases Nat.lt_or_ge x y with hlt | hge
    · have e1 : decide ((x : Int) < (y : Int)) = true := decide_eq_true (by omega)
      have e2 : decide (x < y) = true := decide_eq_true (by omega)
      obtain ⟨f1, f2, f3, f4⟩ := half_facts x y (by have := HH.out; omega)
      have HX : Hid (m ≤ x ∧ x < y ∧ y ≤ b ∧ x ≤ (x + y) / 2 ∧ (x + y) / 2 < y) := Lib.hid ⟨hmx, hlt, hyb, by omega, by omega⟩
      have hbx := HB.out.kp hK
      have c0 := hbx.c0
      have Hl := Lib.hid (HE.out.less wr ((x + y) / 2) a (by have := HH.out; omega) (by have := HH.out; omega) hI)
      have HK := Lib.hid hK
      have f5 : IntKind.i64.wrap ((((x + y) / 2 : Nat) : Int) + 1) = (((x + y) / 2 + 1 : Nat) : Int) := by rw [IntKind.wrap_i64]; have := HH.out; omega
      generalize hh : (x + y) / 2 = h at *
      generalize hq : x + y = q at *
      clear hI hK hmx hxy hyb hlt hbx hh hq
      go_wp2_with (go_at_fn 52; refine Hl.out.mono ?_; rintro e w2 ⟨bb, rfl, hI2, hK2⟩; have HI3 := Lib.hid hI2; have HK3 := Lib.hid (HK.out.trans hK2); clear hI2 hK2; cases bb)
      · go_roundw
        case rel => exact ⟨x, h, rfl, rfl, by have := HX.out; omega, by have := HX.out; omega, by have := HX.out; omega, HI3.out, HK3.out⟩
        case measure => have := HX.out; simp [intOf]; omega
      · go_roundw
        case rel => exact ⟨h + 1, y, by go_num, rfl, by have := HX.out; omega, by have := HX.out; omega, by have := HX.out; omega, HI3.out, HK3.out⟩
        case measure => have := HX.out; simp [intOf]; omega
    · obtain rfl : x = y := by omega
      have e1 : decide ((x : Int) < (x : Int)) = false := decide_eq_false (by omega)
      have HX : Hid (m ≤ x ∧ x ≤ b) := Lib.hid ⟨hmx, hyb⟩
      have HI2 := Lib.hid hI; have HK2 := Lib.hid hK
      have z1 : IntKind.i64.wrap ((x : Int) - 1) = ((x - 1 : Nat) : Int) := by rw [IntKind.wrap_i64]; have := HH.out; omega
      clear hI hK hmx hxy hyb hge
      go_wp2_with fail
      go_loopw [11] (fun i wq => ∃ k : Nat, i = .int .i64 (k : Int) ∧ a ≤ k ∧ k ≤ x ∧ I wq ∧ Kp base g W1 wq) (fun i _ => x - (intOf i).toNat)
      case atStart => exact ⟨a, rfl, Nat.le_refl _, by have := HX.out; have := HH.out; omega, HI2.out, HK2.out⟩
      case round =>
        obtain ⟨k, rfl, hk, hkx, hI, hK⟩ := hrel
        rcases Nat.lt_or_ge k (x - 1) with hlt | hge
        · have e2 : decide ((k : Int) < ((x - 1 : Nat) : Int)) = true := decide_eq_true (by omega)
          have e3 : decide (k < x - 1) = true := decide_eq_true (by omega)
          have k1 : IntKind.i64.wrap ((k : Int) + 1) = ((k + 1 : Nat) : Int) := by rw [IntKind.wrap_i64]; have := HH.out; have := HX.out; omega
          have hbx := HB.out.kp hK
          have c1 := hbx.c1
          obtain ⟨W4, hs, hI4, hK4⟩ := HE.out.swap wr k (k + 1) (by have := HH.out; have := HX.out; omega) (by have := HH.out; have := HX.out; omega) hI
          have HI4 := Lib.hid hI4; have HK4 := Lib.hid (hK.trans hK4); have Hs := Lib.hid hs
          have Hk : Hid (a ≤ k ∧ k < x - 1) := Lib.hid ⟨hk, hlt⟩
          generalize hk1 : k + 1 = kk at *
          clear hI4 hK4 hs hI hK hlt hk hkx hbx
          go_wp2_with fail
          rw [Hs.out, Oper.upon_value]
          go_wp2_with fail
          go_roundw
          case rel => exact ⟨kk, rfl, by have := Hk.out; omega, by have := Hk.out; omega, HI4.out, HK4.out⟩
          case measure => have := Hk.out; simp [intOf]; omega
        · have e2 : decide ((k : Int) < ((x - 1 : Nat) : Int)) = false := decide_eq_false (by omega)
          have e3 : decide (k < x - 1) = false := decide_eq_false (by omega)
          have HI3 := Lib.hid hI; have HK3 := Lib.hid (HK1.out.trans hK)
          clear hI hK hk hkx hge
          go_wp2_with fail
          (try simp only [Exit.inBlock, Exit.then])
          refine bodyPost_ret (results_none rfl _ _ _) rfl ?_
          exact ⟨rfl, HI3.out, HK3.out⟩
set_option maxRecDepth 100000 in
set_option maxHeartbeats 8000000 in
theorem soMerge_right (hE : SEnv base g n p s th sf I) (hn : n ≤ 1000) (a m b : Nat) (ha : a + 1 < m) (hm : b = m + 1) (hb : b ≤ n) (w : World) (hI : I w) :
    Calls Tryz.prog 99 #[swD p s th sf, .int .i64 (a : Int), .int .i64 (m : Int), .int .i64 (b : Int)] w (SoRet base g I w) := by
  unfold swD
  obtain ⟨hB, hI1, hK1⟩ := BoxS.new hE hI
  have eg := ent_djsearch1
  obtain ⟨ma, hma⟩ : ∃ y : Nat, y = m - a := ⟨_, rfl⟩
  have z0 : IntKind.i64.wrap ((m : Int) - (a : Int)) = (ma : Int) := by rw [IntKind.wrap_i64]; omega
  have z00 : ((ma : Int) == 1) = false := by rw [beq_eq_false_iff_ne]; omega
  have z01 : (ma == 1) = false := by rw [beq_eq_false_iff_ne]; omega
  have z02 : ¬ ma = 1 := by omega
  have z1 : IntKind.i64.wrap ((b : Int) - (m : Int)) = 1 := by rw [IntKind.wrap_i64]; omega
  have HE := Lib.hid hE
  have HB := Lib.hid hB; have HI1 := Lib.hid hI1; have HK1 := Lib.hid hK1
  have HH : Hid (a + 1 < m ∧ b = m + 1 ∧ b ≤ n ∧ n ≤ 1000) := Lib.hid ⟨ha, hm, hb, hn⟩
  clear hE hI hB hI1 hK1 hb ha hn hm hma
  go_enter Tryz.func99, Tryz.ntmps99
  go_wp2_with fail
  obtain ⟨W1, hW1⟩ : ∃ y, y = w.alloc (.cells #[.func (.func 52) #[] #[p], .func (.func sf) #[] #[s, th]] 108) := ⟨_, rfl⟩
  obtain ⟨B, hBe⟩ : ∃ y, y = w.heap.size := ⟨_, rfl⟩
  rw [← hW1] at HB HI1 HK1 ⊢
  rw [← hBe] at HB ⊢
  clear hW1 hBe
  go_loopw [12, 13] (fun i j wr => ∃ x y : Nat, i = .int .i64 (x : Int) ∧ j = .int .i64 (y : Int) ∧ a ≤ x ∧ x ≤ y ∧ y ≤ m ∧ I wr ∧ Kp base g W1 wr) (fun i j _ => (intOf j).toNat - (intOf i).toNat)
  case atStart => exact ⟨a, m, rfl, rfl, Nat.le_refl _, by have := HH.out; omega, Nat.le_refl _, HI1.out, Kp.refl⟩
  case round =>
    obtain ⟨x, y, rfl, rfl, hmx, hxy, hyb, hI, hK⟩ := hrel
    rcases Nat.lt_or_ge x y with hlt | hge
    · have e1 : decide ((x : Int) < (y : Int)) = true := decide_eq_true (by omega)
      have e2 : decide (x < y) = true := decide_eq_true (by omega)
      obtain ⟨f1, f2, f3, f4⟩ := half_facts x y (by have := HH.out; omega)
      have HX : Hid (a ≤ x ∧ x < y ∧ y ≤ m ∧ x ≤ (x + y) / 2 ∧ (x + y) / 2 < y) := Lib.hid ⟨hmx, hlt, hyb, by omega, by omega⟩
      have hbx := HB.out.kp hK
      have c0 := hbx.c0
      have Hl := Lib.hid (HE.out.less wr m ((x + y) / 2) (by have := HH.out; omega) (by have := HH.out; omega) hI)
      have HK := Lib.hid hK
      have f5 : IntKind.i64.wrap ((((x + y) / 2 : Nat) : Int) + 1) = (((x + y) / 2 + 1 : Nat) : Int) := by rw [IntKind.wrap_i64]; have := HH.out; omega
      generalize hh : (x + y) / 2 = h at *
      generalize hq : x + y = q at *
      clear hI hK hmx hxy hyb hlt hbx hh hq
      go_wp2_with (go_at_fn 52; refine Hl.out.mono ?_; rintro e w2 ⟨bb, rfl, hI2, hK2⟩; have HI3 := Lib.hid hI2; have HK3 := Lib.hid (HK.out.trans hK2); clear hI2 hK2; cases bb)
      · go_roundw
        case rel => exact ⟨h + 1, y, by go_num, rfl, by have := HX.out; omega, by have := HX.out; omega, by have := HX.out; omega, HI3.out, HK3.out⟩
        case measure => have := HX.out; simp [intOf]; omega
      · go_roundw
        case rel => exact ⟨x, h, rfl, rfl, by have := HX.out; omega, by have := HX.out; omega, by have := HX.out; omega, HI3.out, HK3.out⟩
        case measure => have := HX.out; simp [intOf]; omega
    · obtain rfl : x = y := by omega
      have e1 : decide ((x : Int) < (x : Int)) = false := decide_eq_false (by omega)
      have HX : Hid (a ≤ x ∧ x ≤ m) := Lib.hid ⟨hmx, hyb⟩
      have HI2 := Lib.hid hI; have HK2 := Lib.hid hK
      clear hI hK hmx hxy hyb hge
      go_wp2_with fail
      go_loopw [15] (fun i wq => ∃ k : Nat, i = .int .i64 (k : Int) ∧ x ≤ k ∧ k ≤ m ∧ I wq ∧ Kp base g W1 wq) (fun i _ => (intOf i).toNat)
      case atStart => exact ⟨m, rfl, by have := HX.out; omega, Nat.le_refl _, HI2.out, HK2.out⟩
      case round =>
        obtain ⟨k, rfl, hk, hkx, hI, hK⟩ := hrel
        rcases Nat.lt_or_ge x k with hlt | hge
        · have e2 : decide ((x : Int) < (k : Int)) = true := decide_eq_true (by omega)
          have e3 : decide (x < k) = true := decide_eq_true (by omega)
          have k1 : IntKind.i64.wrap ((k : Int) - 1) = ((k - 1 : Nat) : Int) := by rw [IntKind.wrap_i64]; have := HH.out; have := HX.out; omega
          have hbx := HB.out.kp hK
          have c1 := hbx.c1
          obtain ⟨W4, hs, hI4, hK4⟩ := HE.out.swap wr k (k - 1) (by have := HH.out; have := HX.out; omega) (by have := HH.out; have := HX.out; omega) hI
          have HI4 := Lib.hid hI4; have HK4 := Lib.hid (hK.trans hK4); have Hs := Lib.hid hs
          have Hk : Hid (x < k ∧ k ≤ m) := Lib.hid ⟨hlt, hkx⟩
          generalize hk1 : k - 1 = kk at *
          clear hI4 hK4 hs hI hK hlt hk hkx hbx
          go_wp2_with fail
          rw [Hs.out, Oper.upon_value]
          go_wp2_with fail
          go_roundw
          case rel => exact ⟨kk, rfl, by have := Hk.out; omega, by have := Hk.out; omega, HI4.out, HK4.out⟩
          case measure => have := Hk.out; simp [intOf]; omega
        · have e2 : decide ((x : Int) < (k : Int)) = false := decide_eq_false (by omega)
          have e3 : decide (x < k) = false := decide_eq_false (by omega)
          have HI3 := Lib.hid hI; have HK3 := Lib.hid (HK1.out.trans hK)
          clear hI hK hk hkx hge
          go_wp2_with fail
          (try simp only [Exit.inBlock, Exit.then])
          refine bodyPost_ret (results_none rfl _ _ _) rfl ?_
          exact ⟨rfl, HI3.out, HK3.out⟩
end
end Go.Proofs.YtcppcfinnbeboaaGreat

/- Law 47: sort.symMerge_func, stable_func. -/
namespace Go.Proofs.YtcppcfinnbeboaaGreat
open Go.RowKit Go.Shelf

section
variable {base g n : Nat} {p s th : Value} {sf : FuncId} {I : World → Prop}
set_option maxRecDepth 100000 in
set_option maxHeartbeats 16000000 in
theorem soMerge_mid (hE : SEnv base g n p s th sf I) (hn : n ≤ 1000) (a m b : Nat) (ha : a + 1 < m) (hm : m + 1 < b) (hb : b ≤ n) (w : World) (hI : I w)
    (hrec : ∀ a' m' b' : Nat, b' - a' < b - a → a' < m' → m' < b' → b' ≤ n → ∀ W, I W → Calls Tryz.prog 99 #[swD p s th sf, .int .i64 (a' : Int), .int .i64 (m' : Int), .int .i64 (b' : Int)] W (SoRet base g I W)) :
    Calls Tryz.prog 99 #[swD p s th sf, .int .i64 (a : Int), .int .i64 (m : Int), .int .i64 (b : Int)] w (SoRet base g I w) := by
  have KR : Hid (∀ X (a m b : Nat), I X → a < m → m < b → b ≤ n → Calls Tryz.prog 115 #[.agg #[.func (.func 52) #[] #[p], .func (.func sf) #[] #[s, th]], .int .i64 (a : Int), .int .i64 (m : Int), .int .i64 (b : Int)] X (SoRet base g I X)) := Lib.hid fun X a m b h1 h2 h3 h4 => soRotate_c hE hn a m b h2 h3 h4 X h1
  unfold swD at hrec ⊢
  have HR := Lib.hid hrec
  obtain ⟨hB, hI1, hK1⟩ := BoxS.new hE hI
  have eg := ent_djsearch1
  obtain ⟨ma, hma⟩ : ∃ y : Nat, y = m - a := ⟨_, rfl⟩
  have z0 : IntKind.i64.wrap ((m : Int) - (a : Int)) = (ma : Int) := by rw [IntKind.wrap_i64]; omega
  have z00 : ((ma : Int) == 1) = false := by rw [beq_eq_false_iff_ne]; omega
  have z01 : (ma == 1) = false := by rw [beq_eq_false_iff_ne]; omega
  have z02 : ¬ ma = 1 := by omega
  obtain ⟨bm, hbm⟩ : ∃ y : Nat, y = b - m := ⟨_, rfl⟩
  have y0 : IntKind.i64.wrap ((b : Int) - (m : Int)) = (bm : Int) := by rw [IntKind.wrap_i64]; omega
  have y00 : ((bm : Int) == 1) = false := by rw [beq_eq_false_iff_ne]; omega
  have y01 : (bm == 1) = false := by rw [beq_eq_false_iff_ne]; omega
  have y02 : ¬ bm = 1 := by omega
  obtain ⟨f1, f2, f3, f4⟩ := half_facts a b (by omega)
  obtain ⟨mid, hmid⟩ : ∃ y : Nat, y = (a + b) / 2 := ⟨_, rfl⟩
  rw [← hmid] at f3 f4
  have x0 : IntKind.i64.wrap ((mid : Int) + (m : Int)) = ((mid + m : Nat) : Int) := by rw [IntKind.wrap_i64]; omega
  obtain ⟨nn, hnn⟩ : ∃ y : Nat, y = mid + m := ⟨_, rfl⟩
  rw [← hnn] at x0
  have x1 : IntKind.i64.wrap ((nn : Int) - 1) = ((nn - 1 : Nat) : Int) := by rw [IntKind.wrap_i64]; omega
  obtain ⟨pp, hpp⟩ : ∃ y : Nat, y = nn - 1 := ⟨_, rfl⟩
  rw [← hpp] at x1
  generalize hab : a + b = ab at *
  have HE := Lib.hid hE
  have HB := Lib.hid hB; have HI1 := Lib.hid hI1; have HK1 := Lib.hid hK1
  have HH : Hid (a + 1 < m ∧ m + 1 < b ∧ b ≤ n ∧ n ≤ 1000 ∧ a < mid ∧ mid < b ∧ 2 * mid ≤ a + b ∧ a + b ≤ 2 * mid + 1 ∧ nn = mid + m ∧ pp = nn - 1) := Lib.hid ⟨ha, hm, hb, hn, by omega, by omega, by omega, by omega, hnn, hpp⟩
  clear hE hI hB hI1 hK1 hb ha hn hm hma hbm hmid hnn hpp hrec hab
  go_enter Tryz.func99, Tryz.ntmps99
  cases hg : decide ((mid : Int) < (m : Int))
  · have hg2 : decide (mid < m) = false := by have := of_decide_eq_false hg; exact decide_eq_false (by omega)
    skip
    have hLH : a ≤ m ∧ (∀ c, a ≤ c → c < m → c < n ∧ c ≤ pp ∧ pp - c < n) ∧ ∀ x, a ≤ x → x ≤ m → x ≤ nn ∧ nn - x ≤ b := by
      have := HH.out
      have hg3 := of_decide_eq_false hg2
      refine ⟨by omega, fun c h1 h2 => ⟨by omega, by omega, by omega⟩, fun x h1 h2 => ⟨by omega, by omega⟩⟩
    have HLH := Lib.hid hLH
    clear hLH
    go_wp2_with fail
    obtain ⟨W1, hW1⟩ : ∃ y, y = w.alloc (.cells #[.func (.func 52) #[] #[p], .func (.func sf) #[] #[s, th]] 108) := ⟨_, rfl⟩
    obtain ⟨B, hBe⟩ : ∃ y, y = w.heap.size := ⟨_, rfl⟩
    rw [← hW1] at HB HI1 HK1 ⊢
    rw [← hBe] at HB ⊢
    clear hW1 hBe z0 z00 z01 z02 y0 y00 y01 y02 f1 f2 f3 f4 x0 x1 hg hg2 
    go_loopw [18, 19] (fun i j wr => ∃ x y : Nat, i = .int .i64 (x : Int) ∧ j = .int .i64 (y : Int) ∧ a ≤ x ∧ x ≤ y ∧ y ≤ m ∧ I wr ∧ Kp base g W1 wr) (fun i j _ => (intOf j).toNat - (intOf i).toNat)
    case atStart => exact ⟨a, m, rfl, rfl, Nat.le_refl _, HLH.out.1, Nat.le_refl _, HI1.out, Kp.refl⟩
    case round =>
      obtain ⟨x, y, rfl, rfl, hmx, hxy, hyb, hI, hK⟩ := hrel
      rcases Nat.lt_or_ge x y with hlt | hge
      · have e1 : decide ((x : Int) < (y : Int)) = true := decide_eq_true (by omega)
        have e2 : decide (x < y) = true := decide_eq_true (by omega)
        have hcc := HLH.out.2.1 ((x + y) / 2) (by omega) (by omega)
        have hyy := HLH.out.2.1 (y - 1) (by omega) (by omega)
        obtain ⟨f1, f2, f3, f4⟩ := half_facts x y (by have := HH.out; omega)
        have HX : Hid (a ≤ x ∧ x < y ∧ y ≤ m ∧ x ≤ (x + y) / 2 ∧ (x + y) / 2 < y) := Lib.hid ⟨hmx, hlt, hyb, by omega, by omega⟩
        have hbx := HB.out.kp hK
        have c0 := hbx.c0
        have Hl := Lib.hid (HE.out.less wr (pp - (x + y) / 2) ((x + y) / 2) hcc.2.2 hcc.1 hI)
        have HK := Lib.hid hK
        have f5 : IntKind.i64.wrap ((((x + y) / 2 : Nat) : Int) + 1) = (((x + y) / 2 + 1 : Nat) : Int) := by rw [IntKind.wrap_i64]; have := HH.out; omega
        have f6 : IntKind.i64.wrap ((pp : Int) - (((x + y) / 2 : Nat) : Int)) = ((pp - (x + y) / 2 : Nat) : Int) := by rw [IntKind.wrap_i64]; have := HH.out; omega
        generalize hh : (x + y) / 2 = h at *
        generalize hq : x + y = q at *
        generalize hph : pp - h = ph at *
        clear hI hK hmx hxy hyb hlt hbx hh hq hcc hyy hph
        go_wp2_with (go_at_fn 52; refine Hl.out.mono ?_; rintro e w2 ⟨bb, rfl, hI2, hK2⟩; have HI3 := Lib.hid hI2; have HK3 := Lib.hid (HK.out.trans hK2); clear hI2 hK2; cases bb)
        · go_roundw
          case rel => exact ⟨h + 1, y, by go_num, rfl, by have := HX.out; omega, by have := HX.out; omega, by have := HX.out; omega, HI3.out, HK3.out⟩
          case measure => have := HX.out; simp [intOf]; omega
        · go_roundw
          case rel => exact ⟨x, h, rfl, rfl, by have := HX.out; omega, by have := HX.out; omega, by have := HX.out; omega, HI3.out, HK3.out⟩
          case measure => have := HX.out; simp [intOf]; omega
      · obtain rfl : x = y := by omega
        have e1 : decide ((x : Int) < (x : Int)) = false := decide_eq_false (by omega)
        have hxx := HLH.out.2.2 x hmx hyb
        have x2 : IntKind.i64.wrap ((nn : Int) - (x : Int)) = ((nn - x : Nat) : Int) := by rw [IntKind.wrap_i64]; have := HH.out; omega
        obtain ⟨en, hen⟩ : ∃ y : Nat, y = nn - x := ⟨_, rfl⟩
        rw [← hen] at x2
        have HX : Hid (en ≤ b) := Lib.hid (by omega)
        have KRo : Hid (∀ W, I W → x < m → m < en → Calls Tryz.prog 115 #[.agg #[.func (.func 52) #[] #[p], .func (.func sf) #[] #[s, th]], .int .i64 (x : Int), .int .i64 (m : Int), .int .i64 (en : Int)] W (SoRet base g I W)) := Lib.hid fun W h0 h1 h2 => KR.out W x m en h0 h1 h2 (by have := HH.out; have := HX.out; omega)
        have KA : Hid (∀ W, I W → a < x → x < mid → Calls Tryz.prog 99 #[.agg #[.func (.func 52) #[] #[p], .func (.func sf) #[] #[s, th]], .int .i64 (a : Int), .int .i64 (x : Int), .int .i64 (mid : Int)] W (SoRet base g I W)) := Lib.hid fun W hW h1 h2 => HR.out a x mid (by have := HH.out; omega) h1 h2 (by have := HH.out; omega) W hW
        have KB : Hid (∀ W, I W → mid < en → en < b → Calls Tryz.prog 99 #[.agg #[.func (.func 52) #[] #[p], .func (.func sf) #[] #[s, th]], .int .i64 (mid : Int), .int .i64 (en : Int), .int .i64 (b : Int)] W (SoRet base g I W)) := Lib.hid fun W hW h1 h2 => HR.out mid en b (by have := HH.out; omega) h1 h2 (by have := HH.out; omega) W hW
        have hbx := HB.out.kp hK
        have c0 := hbx.c0
        have c1 := hbx.c1
        clear hmx hxy hyb hge hbx hxx hen
        go_wp2_with (first
          | (go_at_call 115; (with_reducible refine (KRo.out _ hI (by omega) (by omega)).mono ?_); rintro e w2 ⟨rfl, hI2, hK2⟩; have hI := hI2; have hK := hK.trans hK2; have hbx := HB.out.kp hK; have c0 := hbx.c0; have c1 := hbx.c1; clear hI2 hK2 hbx)
          | (go_at_call 99; (with_reducible refine (KA.out _ hI (by omega) (by omega)).mono ?_); rintro e w2 ⟨rfl, hI2, hK2⟩; have hI := hI2; have hK := hK.trans hK2; have hbx := HB.out.kp hK; have c0 := hbx.c0; have c1 := hbx.c1; clear hI2 hK2 hbx)
          | (go_at_call 99; (with_reducible refine (KB.out _ hI (by omega) (by omega)).mono ?_); rintro e w2 ⟨rfl, hI2, hK2⟩; have hI := hI2; have hK := hK.trans hK2; have hbx := HB.out.kp hK; have c0 := hbx.c0; have c1 := hbx.c1; clear hI2 hK2 hbx)
          | fail)
        all_goals
          go_end0
          exact ⟨rfl, hI, HK1.out.trans hK⟩
  · have hg2 : decide (mid < m) = true := by have := of_decide_eq_true hg; exact decide_eq_true (by omega)
    have x3 : IntKind.i64.wrap ((nn : Int) - (b : Int)) = ((nn - b : Nat) : Int) := by rw [IntKind.wrap_i64]; have := of_decide_eq_true hg2; have := HH.out; omega
    have hLH : (nn - b) ≤ mid ∧ (∀ c, (nn - b) ≤ c → c < mid → c < n ∧ c ≤ pp ∧ pp - c < n) ∧ ∀ x, (nn - b) ≤ x → x ≤ mid → x ≤ nn ∧ nn - x ≤ b := by
      have := HH.out
      have hg3 := of_decide_eq_true hg2
      refine ⟨by omega, fun c h1 h2 => ⟨by omega, by omega, by omega⟩, fun x h1 h2 => ⟨by omega, by omega⟩⟩
    have HLH := Lib.hid hLH
    clear hLH
    go_wp2_with fail
    obtain ⟨W1, hW1⟩ : ∃ y, y = w.alloc (.cells #[.func (.func 52) #[] #[p], .func (.func sf) #[] #[s, th]] 108) := ⟨_, rfl⟩
    obtain ⟨B, hBe⟩ : ∃ y, y = w.heap.size := ⟨_, rfl⟩
    rw [← hW1] at HB HI1 HK1 ⊢
    rw [← hBe] at HB ⊢
    clear hW1 hBe z0 z00 z01 z02 y0 y00 y01 y02 f1 f2 f3 f4 x0 x1 hg hg2 x3
    go_loopw [18, 19] (fun i j wr => ∃ x y : Nat, i = .int .i64 (x : Int) ∧ j = .int .i64 (y : Int) ∧ (nn - b) ≤ x ∧ x ≤ y ∧ y ≤ mid ∧ I wr ∧ Kp base g W1 wr) (fun i j _ => (intOf j).toNat - (intOf i).toNat)
    case atStart => exact ⟨(nn - b), mid, rfl, rfl, Nat.le_refl _, HLH.out.1, Nat.le_refl _, HI1.out, Kp.refl⟩
    case round =>
      obtain ⟨x, y, rfl, rfl, hmx, hxy, hyb, hI, hK⟩ := hrel
      rcases Nat.lt_or_ge x y with hlt | hge
      · have e1 : decide ((x : Int) < (y : Int)) = true := decide_eq_true (by omega)
        have e2 : decide (x < y) = true := decide_eq_true (by omega)
        have hcc := HLH.out.2.1 ((x + y) / 2) (by omega) (by omega)
        have hyy := HLH.out.2.1 (y - 1) (by omega) (by omega)
        obtain ⟨f1, f2, f3, f4⟩ := half_facts x y (by have := HH.out; omega)
        have HX : Hid ((nn - b) ≤ x ∧ x < y ∧ y ≤ mid ∧ x ≤ (x + y) / 2 ∧ (x + y) / 2 < y) := Lib.hid ⟨hmx, hlt, hyb, by omega, by omega⟩
        have hbx := HB.out.kp hK
        have c0 := hbx.c0
        have Hl := Lib.hid (HE.out.less wr (pp - (x + y) / 2) ((x + y) / 2) hcc.2.2 hcc.1 hI)
        have HK := Lib.hid hK
        have f5 : IntKind.i64.wrap ((((x + y) / 2 : Nat) : Int) + 1) = (((x + y) / 2 + 1 : Nat) : Int) := by rw [IntKind.wrap_i64]; have := HH.out; omega
        have f6 : IntKind.i64.wrap ((pp : Int) - (((x + y) / 2 : Nat) : Int)) = ((pp - (x + y) / 2 : Nat) : Int) := by rw [IntKind.wrap_i64]; have := HH.out; omega
        generalize hh : (x + y) / 2 = h at *
        generalize hq : x + y = q at *
        generalize hph : pp - h = ph at *
        clear hI hK hmx hxy hyb hlt hbx hh hq hcc hyy hph
        go_wp2_with (go_at_fn 52; refine Hl.out.mono ?_; rintro e w2 ⟨bb, rfl, hI2, hK2⟩; have HI3 := Lib.hid hI2; have HK3 := Lib.hid (HK.out.trans hK2); clear hI2 hK2; cases bb)
        · go_roundw
          case rel => exact ⟨h + 1, y, by go_num, rfl, by have := HX.out; omega, by have := HX.out; omega, by have := HX.out; omega, HI3.out, HK3.out⟩
          case measure => have := HX.out; simp [intOf]; omega
        · go_roundw
          case rel => exact ⟨x, h, rfl, rfl, by have := HX.out; omega, by have := HX.out; omega, by have := HX.out; omega, HI3.out, HK3.out⟩
          case measure => have := HX.out; simp [intOf]; omega
      · obtain rfl : x = y := by omega
        have e1 : decide ((x : Int) < (x : Int)) = false := decide_eq_false (by omega)
        have hxx := HLH.out.2.2 x hmx hyb
        have x2 : IntKind.i64.wrap ((nn : Int) - (x : Int)) = ((nn - x : Nat) : Int) := by rw [IntKind.wrap_i64]; have := HH.out; omega
        obtain ⟨en, hen⟩ : ∃ y : Nat, y = nn - x := ⟨_, rfl⟩
        rw [← hen] at x2
        have HX : Hid (en ≤ b) := Lib.hid (by omega)
        have KRo : Hid (∀ W, I W → x < m → m < en → Calls Tryz.prog 115 #[.agg #[.func (.func 52) #[] #[p], .func (.func sf) #[] #[s, th]], .int .i64 (x : Int), .int .i64 (m : Int), .int .i64 (en : Int)] W (SoRet base g I W)) := Lib.hid fun W h0 h1 h2 => KR.out W x m en h0 h1 h2 (by have := HH.out; have := HX.out; omega)
        have KA : Hid (∀ W, I W → a < x → x < mid → Calls Tryz.prog 99 #[.agg #[.func (.func 52) #[] #[p], .func (.func sf) #[] #[s, th]], .int .i64 (a : Int), .int .i64 (x : Int), .int .i64 (mid : Int)] W (SoRet base g I W)) := Lib.hid fun W hW h1 h2 => HR.out a x mid (by have := HH.out; omega) h1 h2 (by have := HH.out; omega) W hW
        have KB : Hid (∀ W, I W → mid < en → en < b → Calls Tryz.prog 99 #[.agg #[.func (.func 52) #[] #[p], .func (.func sf) #[] #[s, th]], .int .i64 (mid : Int), .int .i64 (en : Int), .int .i64 (b : Int)] W (SoRet base g I W)) := Lib.hid fun W hW h1 h2 => HR.out mid en b (by have := HH.out; omega) h1 h2 (by have := HH.out; omega) W hW
        have hbx := HB.out.kp hK
        have c0 := hbx.c0
        have c1 := hbx.c1
        clear hmx hxy hyb hge hbx hxx hen
        go_wp2_with (first
          | (go_at_call 115; (with_reducible refine (KRo.out _ hI (by omega) (by omega)).mono ?_); rintro e w2 ⟨rfl, hI2, hK2⟩; have hI := hI2; have hK := hK.trans hK2; have hbx := HB.out.kp hK; have c0 := hbx.c0; have c1 := hbx.c1; clear hI2 hK2 hbx)
          | (go_at_call 99; (with_reducible refine (KA.out _ hI (by omega) (by omega)).mono ?_); rintro e w2 ⟨rfl, hI2, hK2⟩; have hI := hI2; have hK := hK.trans hK2; have hbx := HB.out.kp hK; have c0 := hbx.c0; have c1 := hbx.c1; clear hI2 hK2 hbx)
          | (go_at_call 99; (with_reducible refine (KB.out _ hI (by omega) (by omega)).mono ?_); rintro e w2 ⟨rfl, hI2, hK2⟩; have hI := hI2; have hK := hK.trans hK2; have hbx := HB.out.kp hK; have c0 := hbx.c0; have c1 := hbx.c1; clear hI2 hK2 hbx)
          | fail)
        all_goals
          go_end0
          exact ⟨rfl, hI, HK1.out.trans hK⟩
theorem soMerge_c (hE : SEnv base g n p s th sf I) (hn : n ≤ 1000) : ∀ (d a m b : Nat), b - a ≤ d → a < m → m < b → b ≤ n → ∀ w, I w → Calls Tryz.prog 99 #[swD p s th sf, .int .i64 (a : Int), .int .i64 (m : Int), .int .i64 (b : Int)] w (SoRet base g I w)
  | 0, a, m, b, hd, ha, hm, _, _, _ => absurd hd (by omega)
  | d + 1, a, m, b, hd, ha, hm, hb, w, hI => by
    rcases Nat.lt_or_ge (a + 1) m with h1 | h1
    · rcases Nat.lt_or_ge (m + 1) b with h2 | h2
      · exact soMerge_mid hE hn a m b h1 h2 hb w hI fun a' m' b' h3 h4 h5 h6 W hW => soMerge_c hE hn d a' m' b' (by omega) h4 h5 h6 W hW
      · exact soMerge_right hE hn a m b h1 (by omega) hb w hI
    · exact soMerge_left hE hn a m b (by omega) hm hb w hI
set_option maxRecDepth 100000 in
set_option maxHeartbeats 16000000 in
theorem soStable_c (hE : SEnv base g n p s th sf I) (hn : n ≤ 1000) (w : World) (hI : I w) : Calls Tryz.prog 72 #[swD p s th sf, .int .i64 (n : Int)] w (SoRet base g I w) := by
  have KI : Hid (∀ W, I W → ∀ a b : Nat, a ≤ 1000 → b ≤ n → Calls Tryz.prog 98 #[.agg #[.func (.func 52) #[] #[p], .func (.func sf) #[] #[s, th]], .int .i64 (a : Int), .int .i64 (b : Int)] W (SoRet base g I W)) := Lib.hid fun W h0 a b h1 h2 => soInsert_c hE hn a b h1 h2 W h0
  have KM : Hid (∀ W, I W → ∀ a m b : Nat, a < m → m < b → b ≤ n → Calls Tryz.prog 99 #[.agg #[.func (.func 52) #[] #[p], .func (.func sf) #[] #[s, th]], .int .i64 (a : Int), .int .i64 (m : Int), .int .i64 (b : Int)] W (SoRet base g I W)) := Lib.hid fun W h0 a m b h1 h2 h3 => soMerge_c hE hn _ a m b (Nat.le_refl _) h1 h2 h3 W h0
  unfold swD
  obtain ⟨hB, hI1, hK1⟩ := BoxS.new hE hI
  have HE := Lib.hid hE
  have HB := Lib.hid hB; have HI1 := Lib.hid hI1; have HK1 := Lib.hid hK1; have Hn := Lib.hid hn
  clear hE hI hB hI1 hK1 hn
  go_enter Tryz.func72, Tryz.ntmps72
  go_wp2_with fail
  obtain ⟨W1, hW1⟩ : ∃ y, y = w.alloc (.cells #[.func (.func 52) #[] #[p], .func (.func sf) #[] #[s, th]] 108) := ⟨_, rfl⟩
  obtain ⟨B, hBe⟩ : ∃ y, y = w.heap.size := ⟨_, rfl⟩
  rw [← hW1] at HB HI1 HK1 ⊢
  rw [← hBe] at HB ⊢
  clear hW1 hBe
  go_loopw [5, 6] (fun i j wr => ∃ x : Nat, i = .int .i64 (x : Int) ∧ j = .int .i64 ((x + 20 : Nat) : Int) ∧ x ≤ n ∧ I wr ∧ Kp base g W1 wr) (fun _ j _ => n + 20 - (intOf j).toNat)
  case atStart => exact ⟨0, rfl, rfl, Nat.zero_le _, HI1.out, Kp.refl⟩
  case round =>
    obtain ⟨x, rfl, rfl, hx, hI, hK⟩ := hrel
    have hbx := HB.out.kp hK
    have c0 := hbx.c0
    have c1 := hbx.c1
    rcases Nat.lt_or_ge n (x + 20) with hlt | hge
    rotate_left
    · have e1 : decide (((x + 20 : Nat) : Int) ≤ (n : Int)) = true := decide_eq_true (by omega)
      have e2 : decide (x + 20 ≤ n) = true := decide_eq_true (by omega)
      have k1 : IntKind.i64.wrap (((x + 20 : Nat) : Int) + 20) = ((x + 20 + 20 : Nat) : Int) := by rw [IntKind.wrap_i64]; have := Hn.out; omega
      have K1 := Lib.hid (KI.out wr hI x (x + 20) (by have := Hn.out; omega) hge)
      have HK := Lib.hid hK; have HX := Lib.hid hge
      generalize hq : x + 20 = q at *
      clear hI hK hx hge hbx
      go_wp2_with fail
      refine K1.out.mono ?_
      rintro e w2 ⟨rfl, hI2, hK2⟩
      have HI2 := Lib.hid hI2; have HK2 := Lib.hid (HK.out.trans hK2)
      clear hI2 hK2
      go_wp2_with fail
      go_roundw
      case rel => exact ⟨q, rfl, rfl, HX.out, HI2.out, HK2.out⟩
      case measure => have := HX.out; simp [intOf]; omega
    · have e1 : decide (((x + 20 : Nat) : Int) ≤ (n : Int)) = false := decide_eq_false (by omega)
      have e2 : decide (x + 20 ≤ n) = false := decide_eq_false (by omega)
      have K1 := Lib.hid (KI.out wr hI x n (by have := Hn.out; omega) (Nat.le_refl _))
      have HK := Lib.hid hK
      generalize hq : x + 20 = q at *
      clear hI hK hx hlt hbx hq
      go_wp2_with fail
      refine K1.out.mono ?_
      rintro e w2 ⟨rfl, hI2, hK2⟩
      have HI2 := Lib.hid hI2; have HK2 := Lib.hid (HK.out.trans hK2)
      clear hI2 hK2 HI1
      go_wp2_with fail
      clear c0 c1 e1 e2
      go_loopw [4] (fun i wr => ∃ z : Nat, i = .int .i64 (z : Int) ∧ 1 ≤ z ∧ z ≤ 2000 ∧ I wr ∧ Kp base g W1 wr) (fun i _ => 2000 - (intOf i).toNat)
      case atStart => exact ⟨20, rfl, by omega, by omega, HI2.out, HK2.out⟩
      case round =>
        obtain ⟨z, rfl, hz1, hz2, hI, hK⟩ := hrel
        rcases Nat.lt_or_ge z n with hlt | hge
        rotate_left
        · have e1 : decide ((z : Int) < (n : Int)) = false := decide_eq_false (by omega)
          have e2 : decide (z < n) = false := decide_eq_false (by omega)
          have HI3 := Lib.hid hI; have HK3 := Lib.hid (HK1.out.trans hK)
          clear hI hK hz1 hz2 hge
          go_wp2_with fail
          go_end0
          exact ⟨rfl, HI3.out, HK3.out⟩
        have e1 : decide ((z : Int) < (n : Int)) = true := decide_eq_true (by omega)
        have e2 : decide (z < n) = true := decide_eq_true (by omega)
        have y1 : IntKind.i64.wrap (2 * (z : Int)) = ((2 * z : Nat) : Int) := by rw [IntKind.wrap_i64]; have := Hn.out; omega
        have y2 : IntKind.i64.wrap ((z : Int) * 2) = ((2 * z : Nat) : Int) := by rw [IntKind.wrap_i64]; have := Hn.out; omega
        have HZ : Hid (1 ≤ z ∧ z < n ∧ n ≤ 1000) := Lib.hid ⟨hz1, hlt, Hn.out⟩
        obtain ⟨zz, hzz⟩ : ∃ y, y = 2 * z := ⟨_, rfl⟩
        rw [← hzz] at y1 y2
        have HZZ := Lib.hid hzz
        have HI3 := Lib.hid hI; have HK3 := Lib.hid hK
        clear hI hK hz1 hz2 hlt hzz
        go_wp2_with fail
        go_loopw [5, 6] (fun i j wq => ∃ x : Nat, i = .int .i64 (x : Int) ∧ j = .int .i64 ((x + zz : Nat) : Int) ∧ x ≤ n ∧ I wq ∧ Kp base g W1 wq) (fun i _ _ => n - (intOf i).toNat)
        case atStart => exact ⟨0, rfl, by rw [Nat.zero_add], Nat.zero_le _, HI3.out, HK3.out⟩
        case round =>
          obtain ⟨x, rfl, rfl, hx, hI, hK⟩ := hrel
          have hbx := HB.out.kp hK
          have c0 := hbx.c0
          have c1 := hbx.c1
          have k0 : IntKind.i64.wrap ((x : Int) + (z : Int)) = ((x + z : Nat) : Int) := by rw [IntKind.wrap_i64]; have := HZ.out; omega
          rcases Nat.lt_or_ge n (x + zz) with hlt | hge
          rotate_left
          · have e1 : decide (((x + zz : Nat) : Int) ≤ (n : Int)) = true := decide_eq_true (by omega)
            have e2 : decide (x + zz ≤ n) = true := decide_eq_true (by omega)
            have k1 : IntKind.i64.wrap (((x + zz : Nat) : Int) + (zz : Int)) = ((x + zz + zz : Nat) : Int) := by rw [IntKind.wrap_i64]; have := HZ.out; have := HZZ.out; omega
            have K1 := Lib.hid (KM.out wr hI x (x + z) (x + zz) (by have := HZ.out; omega) (by have := HZ.out; have := HZZ.out; omega) hge)
            have HK := Lib.hid hK; have HX : Hid (x + zz ≤ n ∧ x < x + zz) := Lib.hid ⟨hge, by have := HZ.out; have := HZZ.out; omega⟩
            generalize hq : x + zz = q at *
            generalize hq2 : x + z = q2 at *
            clear hI hK hx hge hbx hq hq2
            go_wp2_with fail
            refine K1.out.mono ?_
            rintro e w2 ⟨rfl, hI2, hK2⟩
            have HI4 := Lib.hid hI2; have HK4 := Lib.hid (HK.out.trans hK2)
            clear hI2 hK2
            go_wp2_with fail
            go_roundw
            case rel => exact ⟨q, rfl, rfl, HX.out.1, HI4.out, HK4.out⟩
            case measure => have := HX.out; simp [intOf]; omega
          · have e1 : decide (((x + zz : Nat) : Int) ≤ (n : Int)) = false := decide_eq_false (by omega)
            have e2 : decide (x + zz ≤ n) = false := decide_eq_false (by omega)
            have KX : Hid (x + z < n → Calls Tryz.prog 99 #[.agg #[.func (.func 52) #[] #[p], .func (.func sf) #[] #[s, th]], .int .i64 (x : Int), .int .i64 ((x + z : Nat) : Int), .int .i64 (n : Int)] wr (SoRet base g I wr)) := Lib.hid fun h => KM.out wr hI x (x + z) n (by have := HZ.out; omega) h (Nat.le_refl _)
            have HK := Lib.hid hK; have HI4 := Lib.hid hI
            generalize hq : x + zz = q at *
            generalize hq2 : x + z = q2 at *
            clear hI hK hx hlt hbx hq hq2
            cases e3 : decide ((q2 : Int) < (n : Int))
            · have e4 : decide (q2 < n) = false := decide_eq_false (by have := of_decide_eq_false e3; omega)
              go_wp2_with fail
              go_roundw
              case rel => exact ⟨zz, rfl, by have := HZ.out; have := HZZ.out; omega, by have := HZ.out; have := HZZ.out; omega, HI4.out, HK.out⟩
              case measure => have := HZ.out; have := HZZ.out; simp [intOf]; omega
            · have e4 : decide (q2 < n) = true := decide_eq_true (by have := of_decide_eq_true e3; omega)
              have K5 := Lib.hid (KX.out (of_decide_eq_true e4))
              go_wp2_with fail
              refine K5.out.mono ?_
              rintro e w2 ⟨rfl, hI2, hK2⟩
              have HI5 := Lib.hid hI2; have HK5 := Lib.hid (HK.out.trans hK2)
              clear hI2 hK2
              go_wp2_with fail
              go_roundw
              case rel => exact ⟨zz, rfl, by have := HZ.out; have := HZZ.out; omega, by have := HZ.out; have := HZZ.out; omega, HI5.out, HK5.out⟩
              case measure => have := HZ.out; have := HZZ.out; simp [intOf]; omega
end
end Go.Proofs.YtcppcfinnbeboaaGreat

/- Law 47: sort.SliceStable at choices: a permutation of them. -/
namespace Go.Proofs.YtcppcfinnbeboaaGreat
open Go.RowKit Go.Shelf Go.Lib Go.Sort

noncomputable def chT : TypeInfo := (Tryz.prog.info? 22).get (by kernel_rfl)
noncomputable def chE : TypeInfo := (Tryz.prog.info? 31).get (by kernel_rfl)
theorem chK (n : Nat) (h2 : 2 ≤ n) : Lib.swapperK n chE 25 = 9 := by
  have a : chE.hasPointers = true := by kernel_rfl
  have b : chE.bytes = 40 := by kernel_rfl
  have c : (n == 0) = false := by simp; omega
  have d : (n == 1) = false := by simp; omega
  simp [Lib.swapperK, a, b, c, d]
/-- A choice as the row holds it. -/
abbrev ChV := Int × Int × Option Addr × Nat × Nat
def encV (x : ChV) : List Value := [.int .i64 x.1, .int .i64 x.2.1, .slice x.2.2.1 x.2.2.2.1 x.2.2.2.2]
theorem enc_len (x : ChV) : (encV x).length = 3 := rfl
theorem enc_one (x : ChV) : ∀ v ∈ encV x, v.oneCell' = true := by
  intro v hv
  unfold encV at hv
  simp only [List.mem_cons, List.not_mem_nil, or_false] at hv
  rcases hv with rfl | rfl | rfl <;> rfl
def partsV : Value → Option Addr × Nat × Nat
  | .slice a n c => (a, n, c)
  | _ => (none, 0, 0)
def rowV (L : List Cho) (S : Nat → Value) : Array ChV := ((List.range L.length).map fun i => ((cho L i).1, (cho L i).2.1, partsV (S i))).toArray
theorem rowV_size (L : List Cho) (S : Nat → Value) : (rowV L S).size = L.length := by unfold rowV; simp
theorem rowV_get (L : List Cho) (S : Nat → Value) {i : Nat} (hi : i < L.length) : (rowV L S)[i]! = ((cho L i).1, (cho L i).2.1, partsV (S i)) := by
  unfold rowV
  rw [getElem!_pos _ _ (by simpa using hi)]
  simp
theorem below_grow47 (w : World) (os : Array Obj) : Below w.heap.size w (Sort.grow w os) := by
  refine ⟨rfl, rfl, rfl, ?_, fun b hb => ?_⟩
  · rw [size_grow]; omega
  · show (w.heap ++ os)[b]? = w.heap[b]?
    rw [Array.getElem?_append_left hb]
/-- What the sort keeps: the row holds a permutation; the box of its slice. -/
structure SrtI (Z : Value → List Sp → Prop) (L0 : List Cho) (base g B c : Nat) (W : World) : Prop where
  row : ∃ L S, L.Perm L0 ∧ ChosAt W g L S ∧ ∀ i, i < L.length → Z (S i) (cho L i).2.2
  box : W.heap[B]? = some (.cells #[.slice (some ⟨g, 0, none⟩) L0.length c] 22 (0, 0))
  hB : B ≠ g
  hb : base ≤ W.heap.size
  hg : base ≤ g
theorem SrtI.below {Z : Value → List Sp → Prop} {L0 : List Cho} {base g B c : Nat} {W W' : World} (h : SrtI Z L0 base g B c W) (hb : Below W.heap.size W W') : SrtI Z L0 base g B c W' := by
  obtain ⟨⟨L, S, h1, h2, hz⟩, h3, h4, h5, h6⟩ := h
  exact ⟨⟨L, S, h1, h2.below hb, hz⟩, (hb.block _ (blk_lt h3)).trans h3, h4, Nat.le_trans h5 hb.size, h6⟩
theorem spans_slice {w : World} {v : Value} {l : List Sp} (h : IsSpans w v l) : v = .slice (partsV v).1 l.length (partsV v).2.2 ∧ (partsV v).2.1 = l.length := by
  obtain ⟨A, c, rfl, _, _⟩ := h.form
  exact ⟨rfl, rfl⟩
set_option maxRecDepth 100000 in
theorem djsearch1_c (Z : Value → List Sp → Prop) (L0 : List Cho) (base g B c i j : Nat) (W : World) (hI : SrtI Z L0 base g B c W) (hi : i < L0.length) (hj : j < L0.length) : Calls Tryz.prog 52 #[.int .i64 (i : Int), .int .i64 (j : Int), .pointer (some ⟨B, 0, none⟩)] W (LessRet base g (SrtI Z L0 base g B c) W) := by
  obtain ⟨⟨L, S, h1, h2, _⟩, h3, _, h5, _⟩ := id hI
  have hl := h1.length_eq
  have HI : Hid (∀ q, SrtI Z L0 base g B c (W.drewN q)) := Lib.hid fun q => hI.below (below_dnL (Below.refl _ _) q)
  have HK : Hid (∀ q, Kp base g W (W.drewN q)) := Lib.hid fun q => Kp.of (below_dnL (Below.refl _ _) q) h5
  have b0 := blk_get h3 0
  simp only [List.getElem?_toArray, List.getElem?_cons_zero] at b0
  have ci := h2.c2 i (by omega)
  have cj := h2.c2 j (by omega)
  obtain ⟨Ai, ki, hei, _, _⟩ := (h2.spans i (by omega)).form
  obtain ⟨Aj, kj, hej, _, _⟩ := (h2.spans j (by omega)).form
  rw [hei] at ci
  rw [hej] at cj
  have i0 : (i : Int) < (L0.length : Int) := by omega
  have i1 : (0 : Int) ≤ (i : Int) := by omega
  have j0 : (j : Int) < (L0.length : Int) := by omega
  have j1 : (0 : Int) ≤ (j : Int) := by omega
  clear hI h1 h2 h3 h5 hl hei hej hi hj
  go_enter Tryz.func52, Tryz.ntmps52
  go_wp2_with fail
  go_quiet (fail)
  go_wp2_with fail
  go_ret
  exact ⟨_, rfl, HI.out _, HK.out _⟩
theorem cho_set (L : List Cho) (i : Nat) (x : Cho) (k : Nat) (hi : i < L.length) : cho (L.set i x) k = if k = i then x else cho L k := by
  unfold cho
  rw [List.getD_eq_getElem?_getD, List.getElem?_set]
  by_cases e : k = i
  · subst e
    rw [if_pos rfl, if_pos rfl, if_pos hi]
    rfl
  · rw [if_neg (fun h => e h.symm), if_neg e, List.getD_eq_getElem?_getD]
def swpL (L : List Cho) (i j : Nat) : List Cho := (L.set i (cho L j)).set j (cho L i)
def swpS (S : Nat → Value) (i j k : Nat) : Value := if k = j then S i else if k = i then S j else S k
theorem swpL_get (L : List Cho) (i j k : Nat) (hi : i < L.length) (hj : j < L.length) : cho (swpL L i j) k = if k = j then cho L i else if k = i then cho L j else cho L k := by
  unfold swpL
  rw [cho_set _ _ _ _ (by simpa using hj), cho_set _ _ _ _ hi]
theorem swpL_perm (L : List Cho) (i j : Nat) (hi : i < L.length) (hj : j < L.length) : (swpL L i j).Perm L := by
  unfold swpL
  rw [← cho_at hi, ← cho_at hj]
  exact List.set_set_perm hi hj
theorem setCells_oth (W : World) (g : Nat) : ∀ (vs : List Value) (o k : Nat), k ≠ g → (W.setCells g o vs).heap[k]? = W.heap[k]? := by
  intro vs
  induction vs generalizing W with
  | nil => intro o k _; rfl
  | cons v vs ih =>
    intro o k hk
    show ((W.setCell ⟨g, o, none⟩ v).setCells g (o + 1) vs).heap[k]? = _
    rw [ih _ _ _ hk, blk_oth hk]
theorem setCells_blk47 {g : Nat} {t : TypeId} : ∀ (vs : List Value) (o : Nat) (W : World) (cs : Array Value), W.heap[g]? = some (.cells cs t (0, 0)) → ∃ cs', (W.setCells g o vs).heap[g]? = some (.cells cs' t (0, 0)) ∧ cs'.size = cs.size ∧ ∀ k, k < cs.size → cs'[k]? = if o ≤ k ∧ k < o + vs.length then vs[k - o]? else cs[k]?
  | [], o, W, cs, h => ⟨cs, h, rfl, fun k _ => by rw [if_neg (by simp)]⟩
  | v :: vs, o, W, cs, h => by
    obtain ⟨cs', h1, h2, h3⟩ := setCells_blk47 vs (o + 1) (W.setCell ⟨g, o, none⟩ v) _ (blk_set h o v)
    refine ⟨cs', h1, by rw [h2]; simp, fun k hk => ?_⟩
    rw [h3 k (by simpa using hk)]
    by_cases e : o + 1 ≤ k ∧ k < o + 1 + vs.length
    · rw [if_pos e, if_pos (by rw [List.length_cons]; omega), show k - o = (k - (o + 1)) + 1 from by omega]
      rfl
    · rw [if_neg e, Array.getElem?_setIfInBounds]
      by_cases e2 : o = k
      · subst e2
        rw [if_pos rfl, if_pos hk, if_pos (by simp), Nat.sub_self]
        rfl
      · rw [if_neg e2, if_neg (by simp; omega)]
/-- The two stores of a swap. -/
theorem ChosAt.swap {W : World} {g : Nat} {L : List Cho} {S : Nat → Value} (h : ChosAt W g L S) (i j : Nat) (hi : i < L.length) (hj : j < L.length) :
    ChosAt ((W.setCells g (0 + i * 3) [.int .i64 (cho L j).1, .int .i64 (cho L j).2.1, S j]).setCells g (0 + j * 3) [.int .i64 (cho L i).1, .int .i64 (cho L i).2.1, S i]) g (swpL L i j) (swpS S i j) := by
  obtain ⟨⟨cs, h1, h2⟩, h3, h4⟩ := h
  obtain ⟨c1, a1, a2, a3⟩ := setCells_blk47 [.int .i64 (cho L j).1, .int .i64 (cho L j).2.1, S j] (0 + i * 3) W cs h1
  obtain ⟨c2, b1, b2, b3⟩ := setCells_blk47 [.int .i64 (cho L i).1, .int .i64 (cho L i).2.1, S i] (0 + j * 3) _ c1 a1
  have hlen : (swpL L i j).length = L.length := (swpL_perm L i j hi hj).length_eq
  have hsz : ∀ (V : World) (o : Nat) (vs : List Value), (V.setCells g o vs).heap.size = V.heap.size := fun V o vs => by
    induction vs generalizing V o with
    | nil => rfl
    | cons v vs ih =>
      show ((V.setCell ⟨g, o, none⟩ v).setCells g (o + 1) vs).heap.size = _
      rw [ih]
      simp [World.setCell]
  refine ⟨⟨c2, b1, fun k q hk hq => ?_⟩, fun k hk => ?_, fun k hk => ?_⟩
  · rw [hlen] at hk
    have hcs : k * 3 + q < cs.size := (Array.getElem?_eq_some_iff.1 (h2 k q hk hq)).1
    rw [b3 _ (by omega)]
    unfold choCell
    rw [swpL_get L i j k hi hj]
    by_cases e : k = j
    · subst e
      rw [if_pos (by simp; omega), show k * 3 + q - (0 + k * 3) = q from by omega, if_pos rfl]
      unfold swpS
      rw [if_pos rfl]
      rcases (by omega : q = 0 ∨ q = 1 ∨ q = 2) with rfl | rfl | rfl <;> rfl
    · rw [if_neg (by simp; omega), a3 _ hcs]
      by_cases e2 : k = i
      · subst e2
        rw [if_pos (by simp; omega), show k * 3 + q - (0 + k * 3) = q from by omega, if_neg e, if_pos rfl]
        unfold swpS
        rw [if_neg e, if_pos rfl]
        rcases (by omega : q = 0 ∨ q = 1 ∨ q = 2) with rfl | rfl | rfl <;> rfl
      · rw [if_neg (by simp; omega), if_neg e, if_neg e2, h2 k q hk hq]
        unfold choCell swpS
        rw [if_neg e, if_neg e2]
  · rw [hlen] at hk
    rw [swpL_get L i j k hi hj]
    have hkeep : ∀ x, x < L.length → IsSpans ((W.setCells g (0 + i * 3) [.int .i64 (cho L j).1, .int .i64 (cho L j).2.1, S j]).setCells g (0 + j * 3) [.int .i64 (cho L i).1, .int .i64 (cho L i).2.1, S i]) (S x) (cho L x).2.2 := fun x hx => (h3 x hx).blocks (by rw [hsz, hsz]; exact Nat.le_refl _) fun b hb => by
      have hne : b ≠ g := fun e => h4 x hx (by rw [hb, e])
      rw [setCells_oth _ _ _ _ _ hne, setCells_oth _ _ _ _ _ hne]
    unfold swpS
    by_cases e : k = j
    · rw [if_pos e, if_pos e]; exact hkeep i hi
    · rw [if_neg e, if_neg e]
      by_cases e2 : k = i
      · rw [if_pos e2, if_pos e2]; exact hkeep j hj
      · rw [if_neg e2, if_neg e2]; exact hkeep k hk
  · rw [hlen] at hk
    unfold swpS
    split
    · exact h4 i hi
    · split
      · exact h4 j hj
      · exact h4 k hk
theorem rlSwap_run (n g c : Nat) : SwapSwapsK Tryz.prog 97 #[.slice (some ⟨g, 0, none⟩) n c, typeHandle Tryz.prog 31] encV 3 g 0 n :=
  swapSwapsK_of_literal false 97 (fun args W => run_callFunc_extern Tryz.func97 (by kernel_rfl) (by kernel_rfl) (by kernel_rfl) (e := Extern.ReflectliteSwapper.swap false) (by kernel_rfl) args W) 31 chE (by kernel_rfl) encV 3 enc_len (by kernel_rfl) (fun _ => by kernel_rfl) enc_one g 0 n c
theorem srt_holds {L : List Cho} {S : Nat → Value} {W : World} {g : Nat} (h : ChosAt W g L S) : HoldsK encV 3 W g 0 (rowV L S) := by
  intro k hk
  rw [size_flatK, rowV_size] at hk
  rw [get_flatK encV 3 (rowV L S) k (by rw [rowV_size]; exact hk), rowV_get L S (by omega)]
  have hc := h.cell (k / 3) (k % 3) (by omega) (by omega)
  rw [show k / 3 * 3 + k % 3 = k from by omega] at hc
  refine ⟨?_, h.soft _⟩
  rw [Nat.zero_add]
  refine hc.trans ?_
  obtain ⟨e1, e2⟩ := spans_slice (h.spans (k / 3) (by omega))
  unfold choCell encV
  have hm : k % 3 < 3 := Nat.mod_lt _ (by omega)
  generalize k % 3 = q at *
  generalize k / 3 = r at *
  rcases (by omega : q = 0 ∨ q = 1 ∨ q = 2) with rfl | rfl | rfl
  · rfl
  · rfl
  · simp only [if_true, id]
    rw [e1]
    simp [partsV]
theorem srt_env (Z : Value → List Sp → Prop) (L0 : List Cho) (base g B c : Nat) : SEnv base g L0.length (.pointer (some ⟨B, 0, none⟩)) (.slice (some ⟨g, 0, none⟩) L0.length c) (typeHandle Tryz.prog 31) 97 (SrtI Z L0 base g B c) where
  keep := fun W W' h hb => h.below hb
  lt := fun W h => by
    obtain ⟨⟨L, S, h1, h2, _⟩, h3, h4, h5, h6⟩ := h
    exact ⟨h2.lt, h5⟩
  less := fun W i j hi hj h => djsearch1_c Z L0 base g B c i j W h hi hj
  swap := fun W i j hi hj h => by
    obtain ⟨⟨L, S, h1, h2, hz⟩, h3, h4, h5, h6⟩ := h
    have hl := h1.length_eq
    have hr := rlSwap_run L0.length g c W (rowV L S) (srt_holds h2) (by rw [rowV_size, hl]) i j hi hj
    rw [rowV_get L S (by omega), rowV_get L S (by omega)] at hr
    have ei := (spans_slice (h2.spans i (by omega))).1
    have ej := (spans_slice (h2.spans j (by omega))).1
    have fi := (spans_slice (h2.spans i (by omega))).2
    have fj := (spans_slice (h2.spans j (by omega))).2
    have gi : (.slice (partsV (S i)).1 (partsV (S i)).2.1 (partsV (S i)).2.2 : Value) = S i := by rw [fi]; exact ei.symm
    have gj : (.slice (partsV (S j)).1 (partsV (S j)).2.1 (partsV (S j)).2.2 : Value) = S j := by rw [fj]; exact ej.symm
    unfold encV at hr
    simp only [gi, gj] at hr
    have hsw := h2.swap i j (by omega) (by omega)
    have hzs : ∀ k, k < (swpL L i j).length → Z (swpS S i j k) (cho (swpL L i j) k).2.2 := fun k hk => by
      rw [show (swpL L i j).length = L.length from by unfold swpL; simp] at hk
      rw [swpL_get L i j k (by omega) (by omega)]
      unfold swpS
      by_cases e : k = j
      · rw [if_pos e, if_pos e]; exact hz i (by omega)
      · rw [if_neg e, if_neg e]
        by_cases e2 : k = i
        · rw [if_pos e2, if_pos e2]; exact hz j (by omega)
        · rw [if_neg e2, if_neg e2]; exact hz k hk
    refine ⟨_, hr, ⟨⟨_, _, (swpL_perm L i j (by omega) (by omega)).trans h1, hsw, hzs⟩, ?_, h4, ?_, h6⟩, ⟨?_, fun b _ hne => ?_⟩⟩
    · rw [setCells_oth _ _ _ _ _ h4, setCells_oth _ _ _ _ _ h4]; exact h3
    · have hb := dj_belowSet (a := W) h6 [.int .i64 (cho L i).1, .int .i64 (cho L i).2.1, S i] (0 + j * 3) _ (dj_belowSet (a := W) h6 [.int .i64 (cho L j).1, .int .i64 (cho L j).2.1, S j] (0 + i * 3) W (Below.refl _ _))
      exact Nat.le_trans h5 hb.size
    · exact dj_belowSet (a := W) h6 _ _ _ (dj_belowSet (a := W) h6 _ _ W (Below.refl _ _))
    · rw [setCells_oth _ _ _ _ _ hne, setCells_oth _ _ _ _ _ hne]
set_option maxRecDepth 100000 in
theorem slStable_c (Z : Value → List Sp → Prop) (L0 : List Cho) (base g B c : Nat) (w : World) (h2 : 2 ≤ L0.length) (hn : L0.length ≤ 1000) (hI : SrtI Z L0 base g B c w) : Calls Tryz.prog 51 #[.iface 22 (.slice (some ⟨g, 0, none⟩) L0.length c), .func (.func 52) #[] #[.pointer (some ⟨B, 0, none⟩)]] w (SoRet base g (SrtI Z L0 base g B c) w) := by
  have hs := soStable_c (srt_env Z L0 base g B c) hn
  have hz : sliceBound Tryz.prog 31 chE 25 (some ⟨g, 0, none⟩) L0.length c = #[.slice (some ⟨g, 0, none⟩) L0.length c, typeHandle Tryz.prog 31] := by
    unfold sliceBound
    rw [chK _ h2, if_neg (by decide)]
  have hSt := Any.sort_SliceStable_of_stable lay_sliceStable 22 31 chT chE (by kernel_rfl) (by kernel_rfl) (by kernel_rfl) (by kernel_rfl) 25 (fun _ => by kernel_rfl) (some ⟨g, 0, none⟩) L0.length c (by omega) 97 (by rw [chK _ h2]; kernel_rfl) (.func 52) #[] #[.pointer (some ⟨B, 0, none⟩)] w (fun w' => SrtI Z L0 base g B c w' ∧ Kp base g w w') (by
    rw [hz]
    have hb : Below w.heap.size w (stableWorld Tryz.prog lay_sliceStable_ren 22 (some ⟨g, 0, none⟩) L0.length c w) := by
      unfold stableWorld
      exact ((Below.refl _ _).alloc (Nat.le_refl _) _).alloc (by simp) _
    refine (hs _ (hI.below hb)).mono ?_
    rintro e w' ⟨rfl, h3, h4⟩
    exact ⟨rfl, h3, (Kp.of hb hI.hb).trans h4⟩)
  exact hSt.mono fun e w' h => ⟨h.1, h.2.1, h.2.2⟩
set_option maxRecDepth 100000 in
theorem slStable_tiny (A : Option Addr) (n c B : Nat) (w : World) (hn : n ≤ 1) : Calls Tryz.prog 51 #[.iface 22 (.slice A n c), .func (.func 52) #[] #[.pointer (some ⟨B, 0, none⟩)]] w (fun e w' => e = .returned (.tuple #[]) ∧ Below w.heap.size w w') := by
  have key : ∀ f, Tryz.prog.funcs.findIdx? (·.name == "internal/reflectlite" ++ ".Swapper$" ++ toString (swapperK n chE 25)) = some f → Calls Tryz.prog 51 #[.iface 22 (.slice A n c), .func (.func 52) #[] #[.pointer (some ⟨B, 0, none⟩)]] w (fun e w' => e = .returned (.tuple #[]) ∧ Below w.heap.size w w') := fun f hf =>
    (Any.sort_SliceStable_tiny lay_sliceStable 22 31 chT chE (by kernel_rfl) (by kernel_rfl) (by kernel_rfl) (by kernel_rfl) 25 (fun _ => by kernel_rfl) A n c hn f hf (.func 52) #[] #[.pointer (some ⟨B, 0, none⟩)] w).mono fun e w' ⟨h1, os, h2⟩ => ⟨h1, by rw [h2]; exact below_grow47 w os⟩
  rcases (by omega : n = 0 ∨ n = 1) with rfl | rfl
  · exact key 89 (by kernel_rfl)
  · exact key 90 (by kernel_rfl)
end Go.Proofs.YtcppcfinnbeboaaGreat
