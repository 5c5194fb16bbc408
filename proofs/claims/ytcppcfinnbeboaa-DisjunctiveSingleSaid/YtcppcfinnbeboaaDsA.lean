/- Law 47: sort.SliceStable's parts, at any row that the swapper turns: what lies elsewhere is kept, no index leaves the row. -/
import Derived.Test.YtcppcfinnbeboaaDjC
namespace Go.Proofs.Ytcppcfinnbeboaa
open Go.RowKit Go.Shelf

/-- One block, g, may have changed; new blocks may have come. -/
structure Kp (base g : Nat) (W W' : World) : Prop where
  bel : Below base W W'
  oth : ∀ b, b < W.heap.size → b ≠ g → W'.heap[b]? = W.heap[b]?
section
variable {base g n : Nat} {W W' W2 : World}
theorem Kp.refl : Kp base g W W := ⟨Below.refl _ _, fun _ _ _ => rfl⟩
theorem Kp.trans (h : Kp base g W W') (h2 : Kp base g W' W2) : Kp base g W W2 := ⟨h.bel.trans h2.bel, fun b hb hg => (h2.oth b (Nat.lt_of_lt_of_le hb h.bel.size) hg).trans (h.oth b hb hg)⟩
theorem Kp.of (h : Below W.heap.size W W') (hb : base ≤ W.heap.size) : Kp base g W W' := ⟨h.mono hb, fun b hb _ => h.block b hb⟩
def LessRet (base g : Nat) (I : World → Prop) (W : World) (e : Ending) (w' : World) : Prop := ∃ b, e = .returned (.bool b) ∧ I w' ∧ Kp base g W w'
def SoRet (base g : Nat) (I : World → Prop) (W : World) (e : Ending) (w' : World) : Prop := e = .returned (.tuple #[]) ∧ I w' ∧ Kp base g W w'
/-- What less and swap do: I is kept. -/
structure SEnv (base g n : Nat) (p s th : Value) (sf : FuncId) (I : World → Prop) : Prop where
  keep : ∀ W W', I W → Below W.heap.size W W' → I W'
  lt : ∀ W, I W → g < W.heap.size ∧ base ≤ W.heap.size
  less : ∀ W (i j : Nat), i < n → j < n → I W → Calls Try.prog 78 #[.int .i64 (i : Int), .int .i64 (j : Int), p] W (LessRet base g I W)
  swap : ∀ W (i j : Nat), i < n → j < n → I W → ∃ W', Sem.run Try.prog (callFunc sf #[.int .i64 (i : Int), .int .i64 (j : Int), s, th]) W = .ok (.value (.tuple #[])) W' ∧ I W' ∧ Kp base g W W'
theorem ent_djsearch1 : ∀ (args : Array Value) (w : World), Sem.run Try.prog (callFunc 78 args) w = .ok (.enter 78 args) w := fun _ _ => by kernel_rfl
def swD (p s th : Value) (sf : FuncId) : Value := .agg #[.func (.func 78) #[] #[p], .func (.func sf) #[] #[s, th]]
variable {p s th : Value} {sf : FuncId} {I : World → Prop}
/-- The box of the two functions. -/
structure BoxS (B g : Nat) (p s th : Value) (sf : FuncId) (W : World) : Prop where
  blk : W.heap[B]? = some (.cells #[.func (.func 78) #[] #[p], .func (.func sf) #[] #[s, th]] 131 (0, 0))
  ne : B ≠ g
theorem BoxS.kp {B : Nat} (h : BoxS B g p s th sf W) (hk : Kp base g W W') : BoxS B g p s th sf W' := ⟨(hk.oth B (blk_lt h.blk) h.ne).trans h.blk, h.ne⟩
theorem BoxS.c0 {B : Nat} (h : BoxS B g p s th sf W) : W.cell? ⟨B, 0, none⟩ = some (.func (.func 78) #[] #[p]) := blk_get h.blk 0
theorem BoxS.c1 {B : Nat} (h : BoxS B g p s th sf W) : W.cell? ⟨B, 1, none⟩ = some (.func (.func sf) #[] #[s, th]) := blk_get h.blk 1
theorem BoxS.new (hE : SEnv base g n p s th sf I) (hI : I W) : BoxS W.heap.size g p s th sf (W.alloc (.cells #[.func (.func 78) #[] #[p], .func (.func sf) #[] #[s, th]] 131)) ∧ I (W.alloc (.cells #[.func (.func 78) #[] #[p], .func (.func sf) #[] #[s, th]] 131)) ∧ Kp base g W (W.alloc (.cells #[.func (.func 78) #[] #[p], .func (.func sf) #[] #[s, th]] 131)) :=
  ⟨⟨heap_alloc_new W _, by have := (hE.lt W hI).1; omega⟩, hE.keep _ _ hI ((Below.refl _ _).alloc (Nat.le_refl _) _), Kp.of ((Below.refl _ _).alloc (Nat.le_refl _) _) (hE.lt W hI).2⟩
end
set_option maxRecDepth 100000 in
set_option maxHeartbeats 4000000 in
theorem soInsert_c {base g n : Nat} {p s th : Value} {sf : FuncId} {I : World → Prop} (hE : SEnv base g n p s th sf I) (hn : n ≤ 1000) (a b : Nat) (ha : a ≤ 1000) (hb : b ≤ n) (w : World) (hI : I w) :
    Calls Try.prog 116 #[swD p s th sf, .int .i64 (a : Int), .int .i64 (b : Int)] w (SoRet base g I w) := by
  unfold swD
  obtain ⟨hB, hI1, hK1⟩ := BoxS.new hE hI
  have z0 : IntKind.i64.wrap ((a : Int) + 1) = (a : Int) + 1 := by rw [IntKind.wrap_i64]; omega
  have eg := ent_djsearch1
  have HE := Lib.hid hE
  have HB := Lib.hid hB; have HI1 := Lib.hid hI1; have HK1 := Lib.hid hK1; have Hb := Lib.hid hb
  clear hE hI hB hI1 hK1 hb
  go_enter Try.func116, Try.ntmps116
  go_wp2_with fail
  obtain ⟨W1, hW1⟩ : ∃ y, y = w.alloc (.cells #[.func (.func 78) #[] #[p], .func (.func sf) #[] #[s, th]] 131) := ⟨_, rfl⟩
  obtain ⟨B, hBe⟩ : ∃ y, y = w.heap.size := ⟨_, rfl⟩
  rw [← hW1] at HB HI1 HK1 ⊢
  rw [← hBe] at HB ⊢
  clear hW1 hBe
  go_loopw [6] (fun i wr => ∃ k : Nat, i = .int .i64 (k : Int) ∧ a < k ∧ k ≤ a + b + 1 ∧ I wr ∧ Kp base g W1 wr) (fun i _ => a + b + 1 - (intOf i).toNat)
  case atStart => exact ⟨a + 1, by go_num, by omega, by omega, HI1.out, Kp.refl⟩
  case round =>
    obtain ⟨k, rfl, hak, hk, hI, hK⟩ := hrel
    rcases Nat.lt_or_ge k b with hlt | hge
    rotate_left
    · have k0 : decide ((k : Int) < (b : Int)) = false := decide_eq_false (by omega)
      have k00 : decide (k < b) = false := decide_eq_false (by omega)
      have HR := Lib.hid (HK1.out.trans hK)
      clear hK hge hk hak
      go_wp2_with fail
      go_end0
      exact ⟨rfl, hI, HR.out⟩
    have k0 : decide ((k : Int) < (b : Int)) = true := decide_eq_true (by omega)
    have k00 : decide (k < b) = true := decide_eq_true hlt
    have k1 : IntKind.i64.wrap ((k : Int) + 1) = (k : Int) + 1 := by rw [IntKind.wrap_i64]; have := Hb.out; omega
    have HI := Lib.hid hI; have HK := Lib.hid hK; have Hlt := Lib.hid hlt; have Hak := Lib.hid hak
    clear hI hK hlt hak hk
    go_wp2_with fail
    go_loopw [7] (fun i wq => ∃ j : Nat, i = .int .i64 (j : Int) ∧ a ≤ j ∧ j ≤ k ∧ I wq ∧ Kp base g W1 wq) (fun i _ => (intOf i).toNat)
    case atStart => exact ⟨k, rfl, by have := Hak.out; omega, Nat.le_refl _, HI.out, HK.out⟩
    case round =>
      obtain ⟨j, rfl, haj, hjk, hI, hK⟩ := hrel
      rcases Nat.lt_or_ge a j with hlt | hge
      rotate_left
      · have j0 : decide ((a : Int) < (j : Int)) = false := decide_eq_false (by omega)
        have j00 : decide (a < j) = false := decide_eq_false (by omega)
        have HI2 := Lib.hid hI; have HK2 := Lib.hid hK
        clear hI hK hge haj hjk
        go_wp2_with fail
        go_roundw
        case rel => exact ⟨k + 1, by go_num, by have := Hak.out; omega, by have := Hlt.out; omega, HI2.out, HK2.out⟩
        case measure => have := Hlt.out; simp [intOf]; omega
      have j0 : decide ((a : Int) < (j : Int)) = true := decide_eq_true (by omega)
      have j00 : decide (a < j) = true := decide_eq_true (by omega)
      have j1 : IntKind.i64.wrap ((j : Int) - 1) = ((j - 1 : Nat) : Int) := by rw [IntKind.wrap_i64]; have := Hb.out; have := Hlt.out; omega
      have hbx := HB.out.kp hK
      have c0 := hbx.c0
      have hl := HE.out.less wr j (j - 1) (by have := Hb.out; have := Hlt.out; omega) (by have := Hb.out; have := Hlt.out; omega) hI
      have Hl := Lib.hid hl; have HK2 := Lib.hid hK; have Haj := Lib.hid hlt; have Hjk := Lib.hid hjk
      clear hl hK hI hlt haj hjk hbx
      go_wp2_with (go_at_fn 78; refine Hl.out.mono ?_; rintro e w2 ⟨bb, rfl, hI2, hK2⟩; have c1 := (HB.out.kp (HK2.out.trans hK2)).c1; have HI3 := Lib.hid hI2; have HK3 := Lib.hid (HK2.out.trans hK2); clear hI2 hK2; cases bb)
      · go_roundw
        case rel => exact ⟨k + 1, by go_num, by have := Hak.out; omega, by have := Hlt.out; omega, HI3.out, HK3.out⟩
        case measure => have := Hlt.out; simp [intOf]; omega
      · obtain ⟨W4, hs, hI4, hK4⟩ := HE.out.swap w2 j (j - 1) (by have := Hb.out; have := Hlt.out; have := Hjk.out; omega) (by have := Hb.out; have := Hlt.out; have := Hjk.out; omega) HI3.out
        have HI4 := Lib.hid hI4; have HK4 := Lib.hid (HK3.out.trans hK4); have Hs := Lib.hid hs
        clear hI4 hK4 hs c0
        rw [Hs.out, Oper.upon_value]
        go_wp2_with fail
        go_roundw
        case rel => exact ⟨j - 1, by go_num, by have := Haj.out; omega, by have := Hjk.out; omega, HI4.out, HK4.out⟩
        case measure => have := Haj.out; simp [intOf]; omega
end Go.Proofs.Ytcppcfinnbeboaa
