/- Texts joined: AgS, AgM, AgF, AgG. -/
import Derived.Lib.Mul64
import Derived.Laws.Bits64b
import Derived.Shelf.Spec.BitsCarry
import Derived.Test.YtohjgegnamcnlaaGreatZaa
import Derived.Maps.RangeWalk
import Derived.Maps.OwnSet
import Derived.WideKeyEntry
import Derived.StringKeys
import Derived.Test.YtohjgegnamcnlaaGreatPre

/- Law 39: sums of 128 bits. -/
namespace Go.Proofs.YtohjgegnamcnlaaGreat
open Go.RowKit Go.Shelf Go.Lib

theorem maskN47 (a : Nat) (ha : a < 18446744073709551616) : bits .and .u64 (a : Int) 4294967295 = ((a % 4294967296 : Nat) : Int) := by
  have h := bits_and_u64_nat a 4294967295 ha (by omega)
  have e : a &&& 4294967295 = a % 4294967296 := Nat.and_two_pow_sub_one_eq_mod a 32
  rw [e] at h
  exact h
theorem divN47 (a : Nat) : (a : Int) / 4294967296 = ((a / 4294967296 : Nat) : Int) := by omega
theorem mulN47 (a b : Nat) : (a : Int) * (b : Int) = ((a * b : Nat) : Int) := (Int.natCast_mul a b).symm
theorem addN47 (a b : Nat) : (a : Int) + (b : Int) = ((a + b : Nat) : Int) := (Int.natCast_add a b).symm
theorem wrapN47 (a : Nat) (ha : a < 18446744073709551616) : IntKind.u64.wrap (a : Int) = (a : Int) := by rw [IntKind.wrap_u64]; omega
theorem wrapM47 (a : Nat) : IntKind.u64.wrap (a : Int) = ((a % 18446744073709551616 : Nat) : Int) := by rw [IntKind.wrap_u64]; omega
set_option maxHeartbeats 1000000 in
theorem mul64_c (x y : Nat) (hx : x < 18446744073709551616) (hy : y < 18446744073709551616) (w : World) :
    Calls Tryz.prog 81 #[.int .u64 x, .int .u64 y] w fun e w' => e = .returned (.tuple #[.int .u64 ((x * y / 18446744073709551616 : Nat) : Int), .int .u64 ((x * y % 18446744073709551616 : Nat) : Int)]) ∧ w' = w := by
  obtain ⟨bd, bt, bw, hhi⟩ := Lib.mul64_hi x y hx hy
  have ba := Lib.half_mul_le (a := x / 4294967296) (b := y / 4294967296) (by omega) (by omega)
  have bb := Lib.half_mul_le (a := x / 4294967296) (b := y % 4294967296) (by omega) (by omega)
  have bc := Lib.half_mul_le (a := x % 4294967296) (b := y / 4294967296) (by omega) (by omega)
  have ba' : x / 4294967296 * (y / 4294967296) < 18446744073709551616 := by omega
  have bb' : x / 4294967296 * (y % 4294967296) < 18446744073709551616 := by omega
  have bc' : x % 4294967296 * (y / 4294967296) < 18446744073709551616 := by omega
  have bh1 : x / 4294967296 * (y / 4294967296) + (x / 4294967296 * (y % 4294967296) + x % 4294967296 * (y % 4294967296) / 4294967296) / 4294967296 < 18446744073709551616 := by omega
  have bh : x / 4294967296 * (y / 4294967296) + (x / 4294967296 * (y % 4294967296) + x % 4294967296 * (y % 4294967296) / 4294967296) / 4294967296 + ((x / 4294967296 * (y % 4294967296) + x % 4294967296 * (y % 4294967296) / 4294967296) % 4294967296 + x % 4294967296 * (y / 4294967296)) / 4294967296 < 18446744073709551616 := by omega
  go_enter Tryz.func81, Tryz.ntmps81
  go_wp2
  simp only [maskN47 x hx, maskN47 y hy, divN47, mulN47, addN47, wrapN47 _ bd, wrapN47 _ bb', wrapN47 _ bt, maskN47 _ bt, wrapN47 _ bc', wrapN47 _ bw, wrapN47 _ ba', wrapN47 _ bh1, wrapN47 _ bh, wrapM47 (x * y)]
  rw [hhi]
  go_ret2
  exact ⟨rfl, rfl⟩
theorem add64_run (x y c : Nat) (hc : c ≤ 1) (w : World) : (callFunc 82 #[.int .u64 x, .int .u64 y, .int .u64 c]).run Tryz.prog w = .ok (.value (.tuple #[.int .u64 (((x + y + c) % 18446744073709551616 : Nat) : Int), .int .u64 (((x + y + c) / 18446744073709551616 : Nat) : Int)])) w := by
  rw [run_callFunc_extern Tryz.func82 (by kernel_rfl) (by kernel_rfl) (by kernel_rfl) (e := add64Entry) (by kernel_rfl), run_add64 x y c (by omega) (by omega) (by omega) (by omega)]
  simp only [Result.andThen]
  congr 5 <;> omega
theorem sub64_run (x y b : Nat) (hb : b ≤ 1) (w : World) : (callFunc 83 #[.int .u64 x, .int .u64 y, .int .u64 b]).run Tryz.prog w = .ok (.value (.tuple #[.int .u64 (((x + 18446744073709551616 - y - b) % 18446744073709551616 : Nat) : Int), .int .u64 ((if x < y + b then 1 else 0 : Nat) : Int)])) w := by
  rw [run_callFunc_extern Tryz.func83 (by kernel_rfl) (by kernel_rfl) (by kernel_rfl) (e := sub64Entry) (by kernel_rfl), run_sub64 x y b hb]
  rfl
/-- Nothing but the block q has turned. -/
structure On (q : Nat) (w w' : World) : Prop where
  bel : Below q w w'
  oth : ∀ b, b < w.heap.size → b ≠ q → w'.heap[b]? = w.heap[b]?
theorem On.refl {q : Nat} {w : World} : On q w w := ⟨Below.refl _ _, fun _ _ _ => rfl⟩
theorem On.trans {q : Nat} {w w' w2 : World} (h : On q w w') (h2 : On q w' w2) : On q w w2 := ⟨h.bel.trans h2.bel, fun b hb hg => (h2.oth b (Nat.lt_of_lt_of_le hb h.bel.size) hg).trans (h.oth b hb hg)⟩
theorem On.set {q : Nat} {w w' : World} (h : On q w w') (j : Nat) (v : Value) : On q w (w'.setCell ⟨q, j, none⟩ v) :=
  ⟨h.bel.setCell (Nat.le_refl q) _, fun b hb hg => (Below.heap_setCell w' ⟨q, j, none⟩ v b hg).trans (h.oth b hb hg)⟩
theorem On.below {q base : Nat} {w w' : World} (h : On q w w') (hb : base ≤ q) : Below base w w' := h.bel.mono hb
/-- A sum in its block. -/
def SumAt (w : World) (q S : Nat) : Prop := w.heap[q]? = some (.cells #[.int .u64 ((S / 18446744073709551616 : Nat) : Int), .int .u64 ((S % 18446744073709551616 : Nat) : Int)] 85 (0, 0))
def addS (n t : Int) : Nat := if (decide (n < 0) == decide (0 < t)) || decide (n = 0) then 0 else n.natAbs * t.natAbs
def SumRet (q S : Nat) (w : World) (e : Ending) (w' : World) : Prop := e = .returned (.tuple #[]) ∧ SumAt w' q S ∧ On q w w'
theorem SumAt.set {w : World} {q S T : Nat} (h : SumAt w q S) : SumAt ((w.setCell ⟨q, 1, none⟩ (.int .u64 ((T % 18446744073709551616 : Nat) : Int))).setCell ⟨q, 0, none⟩ (.int .u64 ((T / 18446744073709551616 : Nat) : Int))) q T := by
  unfold SumAt at *
  rw [blk_set (blk_set h 1 _) 0 _]
  rfl
set_option maxRecDepth 100000 in
set_option maxHeartbeats 2000000 in
theorem sumadd_pos (q S a b : Nat) (w : World) (h : SumAt w q S) (ha : 1 ≤ a) (ha2 : a ≤ 9223372036854775807) (hb : 1 ≤ b) (hb2 : b ≤ 9223372036854775807)
    (hmax : S + a * b < 340282366920938463463374607431768211456) : Calls Tryz.prog 51 #[.pointer (some ⟨q, 0, none⟩), .int .i64 a, .int .i64 b] w (SumRet q (S + a * b) w) := by
  have K := Lib.hid fun W => mul64_c a b (by omega) (by omega) W
  obtain ⟨m, hm⟩ : ∃ m, m = a * b := ⟨_, rfl⟩
  rw [← hm] at K hmax ⊢
  have T := h
  unfold SumAt at T
  have c0 : w.cell? ⟨q, 0, none⟩ = some (.int .u64 ((S / 18446744073709551616 : Nat) : Int)) := (blk_get T 0).trans rfl
  have c1 : w.cell? ⟨q, 1, none⟩ = some (.int .u64 ((S % 18446744073709551616 : Nat) : Int)) := (blk_get T 1).trans rfl
  have f0 := blk_soft T 0
  have f1 := blk_soft T 1
  have hq := blk_lt T
  have H := Lib.hid (SumAt.set h (T := S + m))
  have A1 : ∀ W, (callFunc 82 #[.int .u64 ((S % 18446744073709551616 : Nat) : Int), .int .u64 ((m % 18446744073709551616 : Nat) : Int), .int .u64 0]).run Tryz.prog W = _ := fun W => add64_run (S % 18446744073709551616) (m % 18446744073709551616) 0 (by omega) W
  obtain ⟨cy, hcy⟩ : ∃ c, c = (S % 18446744073709551616 + m % 18446744073709551616 + 0) / 18446744073709551616 := ⟨_, rfl⟩
  rw [← hcy] at A1
  have A2 := fun W => add64_run (S / 18446744073709551616) (m / 18446744073709551616) cy (by omega) W
  have e0 : (S % 18446744073709551616 + m % 18446744073709551616 + 0) % 18446744073709551616 = (S + m) % 18446744073709551616 := by omega
  have e1 : (S / 18446744073709551616 + m / 18446744073709551616 + cy) % 18446744073709551616 = (S + m) / 18446744073709551616 := by omega
  rw [e0] at A1
  rw [e1] at A2
  clear hcy e0 e1 hm T
  generalize (S / 18446744073709551616 + m / 18446744073709551616 + cy) / 18446744073709551616 = junk at A2
  generalize m / 18446744073709551616 = mh at *
  generalize m % 18446744073709551616 = ml at *
  generalize (S + m) / 18446744073709551616 = th at *
  generalize (S + m) % 18446744073709551616 = tl at *
  generalize S / 18446744073709551616 = sh at *
  generalize S % 18446744073709551616 = sl at *
  have g0 : decide ((a : Int) < 0) = false := decide_eq_false (by omega)
  have g1 : decide (0 < (b : Int)) = true := decide_eq_true (by omega)
  have g2 : ((a : Int) == 0) = false := by rw [beq_eq_false_iff_ne]; omega
  have w1 : IntKind.u64.wrap (a : Int) = (a : Int) := by rw [IntKind.wrap_u64]; omega
  have w2 : IntKind.u64.wrap (b : Int) = (b : Int) := by rw [IntKind.wrap_u64]; omega
  clear h
  go_enter Tryz.func51, Tryz.ntmps51
  go_wp2_with (go_at_call 81; refine (K.out _).mono ?_; rintro e W ⟨rfl, rfl⟩)
  go_end0
  exact ⟨rfl, H.out, (On.refl.set 1 _).set 0 _⟩
set_option maxRecDepth 100000 in
set_option maxHeartbeats 2000000 in
theorem sumadd_neg (q S a b : Nat) (n t : Int) (hna : n = -(a : Int)) (htb : t = -(b : Int)) (w : World) (h : SumAt w q S) (ha : 1 ≤ a) (ha2 : a ≤ 9223372036854775808) (hb : 1 ≤ b) (hb2 : b ≤ 9223372036854775807)
    (hmax : S + a * b < 340282366920938463463374607431768211456) : Calls Tryz.prog 51 #[.pointer (some ⟨q, 0, none⟩), .int .i64 n, .int .i64 t] w (SumRet q (S + a * b) w) := by
  have K := Lib.hid fun W => mul64_c a b (by omega) (by omega) W
  obtain ⟨m, hm⟩ : ∃ m, m = a * b := ⟨_, rfl⟩
  rw [← hm] at K hmax ⊢
  have T := h
  unfold SumAt at T
  have c0 : w.cell? ⟨q, 0, none⟩ = some (.int .u64 ((S / 18446744073709551616 : Nat) : Int)) := (blk_get T 0).trans rfl
  have c1 : w.cell? ⟨q, 1, none⟩ = some (.int .u64 ((S % 18446744073709551616 : Nat) : Int)) := (blk_get T 1).trans rfl
  have f0 := blk_soft T 0
  have f1 := blk_soft T 1
  have hq := blk_lt T
  have H := Lib.hid (SumAt.set h (T := S + m))
  have A1 : ∀ W, (callFunc 82 #[.int .u64 ((S % 18446744073709551616 : Nat) : Int), .int .u64 ((m % 18446744073709551616 : Nat) : Int), .int .u64 0]).run Tryz.prog W = _ := fun W => add64_run (S % 18446744073709551616) (m % 18446744073709551616) 0 (by omega) W
  obtain ⟨cy, hcy⟩ : ∃ c, c = (S % 18446744073709551616 + m % 18446744073709551616 + 0) / 18446744073709551616 := ⟨_, rfl⟩
  rw [← hcy] at A1
  have A2 := fun W => add64_run (S / 18446744073709551616) (m / 18446744073709551616) cy (by omega) W
  have e0 : (S % 18446744073709551616 + m % 18446744073709551616 + 0) % 18446744073709551616 = (S + m) % 18446744073709551616 := by omega
  have e1 : (S / 18446744073709551616 + m / 18446744073709551616 + cy) % 18446744073709551616 = (S + m) / 18446744073709551616 := by omega
  rw [e0] at A1
  rw [e1] at A2
  clear hcy e0 e1 hm T
  generalize (S / 18446744073709551616 + m / 18446744073709551616 + cy) / 18446744073709551616 = junk at A2
  generalize m / 18446744073709551616 = mh at *
  generalize m % 18446744073709551616 = ml at *
  generalize (S + m) / 18446744073709551616 = th at *
  generalize (S + m) % 18446744073709551616 = tl at *
  generalize S / 18446744073709551616 = sh at *
  generalize S % 18446744073709551616 = sl at *
  have g0 : decide (n < 0) = true := decide_eq_true (by omega)
  have g1 : decide (0 < t) = false := decide_eq_false (by omega)
  have g2 : (n == 0) = false := by rw [beq_eq_false_iff_ne]; omega
  obtain ⟨x, hx⟩ : ∃ x : Nat, x = 18446744073709551616 - a := ⟨_, rfl⟩
  obtain ⟨y, hy⟩ : ∃ y : Nat, y = 18446744073709551616 - b := ⟨_, rfl⟩
  have w1 : IntKind.u64.wrap (n) = (x : Int) := by rw [IntKind.wrap_u64]; omega
  have w2 : IntKind.u64.wrap (t) = (y : Int) := by rw [IntKind.wrap_u64]; omega
  have w3 : IntKind.u64.wrap (-(x : Int)) = (a : Int) := by rw [IntKind.wrap_u64]; omega
  have w4 : IntKind.u64.wrap (-(y : Int)) = (b : Int) := by rw [IntKind.wrap_u64]; omega
  clear hx hy hna htb
  clear h
  go_enter Tryz.func51, Tryz.ntmps51
  go_wp2_with (go_at_call 81; refine (K.out _).mono ?_; rintro e W ⟨rfl, rfl⟩)
  go_end0
  exact ⟨rfl, H.out, (On.refl.set 1 _).set 0 _⟩
theorem sumadd_skip (q : Nat) (n t : Int) (w : World) (h : (decide (n < 0) == decide (0 < t)) = true ∨ n = 0) : Calls Tryz.prog 51 #[.pointer (some ⟨q, 0, none⟩), .int .i64 n, .int .i64 t] w (fun e w' => e = .returned (.tuple #[]) ∧ w' = w) := by
  cases g0 : decide (n < 0) <;> cases g1 : decide (0 < t)
  · go_enter Tryz.func51, Tryz.ntmps51
    go_wp2_with fail
    (try simp only [Exit.inBlock, Exit.then])
    refine bodyPost_ret (results_none rfl _ _ _) rfl ?_
    exact ⟨rfl, rfl⟩
  · rw [g0, g1] at h
    obtain rfl : n = 0 := h.resolve_left (by decide)
    go_enter Tryz.func51, Tryz.ntmps51
    go_wp2_with fail
    (try simp only [Exit.inBlock, Exit.then])
    refine bodyPost_ret (results_none rfl _ _ _) rfl ?_
    exact ⟨rfl, rfl⟩
  · rw [g0, g1] at h
    obtain rfl : n = 0 := h.resolve_left (by decide)
    exact absurd g0 (by decide)
  · go_enter Tryz.func51, Tryz.ntmps51
    go_wp2_with fail
    (try simp only [Exit.inBlock, Exit.then])
    refine bodyPost_ret (results_none rfl _ _ _) rfl ?_
    exact ⟨rfl, rfl⟩
theorem sumadd_c (q S : Nat) (n t : Int) (w : World) (h : SumAt w q S) (hn : -9223372036854775808 ≤ n ∧ n ≤ 9223372036854775807) (ht : -9223372036854775807 ≤ t ∧ t ≤ 9223372036854775807)
    (hmax : S + addS n t < 340282366920938463463374607431768211456) (ht0 : t ≠ 0) : Calls Tryz.prog 51 #[.pointer (some ⟨q, 0, none⟩), .int .i64 n, .int .i64 t] w (SumRet q (S + addS n t) w) := by
  unfold addS at *
  by_cases hc : (decide (n < 0) == decide (0 < t)) = true ∨ n = 0
  · have hz : ((decide (n < 0) == decide (0 < t)) || decide (n = 0)) = true := by
      rcases hc with e | e
      · rw [e]; rfl
      · rw [e]; simp
    rw [if_pos hz] at *
    refine (sumadd_skip q n t w hc).mono ?_
    rintro e w' ⟨rfl, rfl⟩
    exact ⟨rfl, h, On.refl⟩
  · have h1 : (decide (n < 0) == decide (0 < t)) = false := by
      cases q : (decide (n < 0) == decide (0 < t))
      · rfl
      · exact absurd (.inl q) hc
    have h2 : n ≠ 0 := fun e => hc (.inr e)
    rw [if_neg (by rw [h1]; simp [h2])] at *
    rcases Int.lt_or_lt_of_ne h2 with hl | hl
    · have hl2 : t < 0 := by
        rw [decide_eq_true hl] at h1
        have : decide (0 < t) = false := by cases q : decide (0 < t) <;> simp_all
        have := of_decide_eq_false this
        omega
      exact sumadd_neg q S n.natAbs t.natAbs n t (by omega) (by omega) w h (by omega) (by omega) (by omega) (by omega) hmax
    · have hl2 : 0 < t := by
        rw [decide_eq_false (by omega : ¬ n < 0)] at h1
        have : decide (0 < t) = true := by cases q : decide (0 < t) <;> simp_all
        exact of_decide_eq_true this
      have k := sumadd_pos q S n.natAbs t.natAbs w h (by omega) (by omega) (by omega) (by omega) hmax
      rw [show ((n.natAbs : Nat) : Int) = n by omega, show ((t.natAbs : Nat) : Int) = t by omega] at k
      exact k
def lessS (S T : Nat) : Int × Int := if -9223372036854775808 ≤ (S : Int) - T ∧ (S : Int) - T ≤ 9223372036854775807 then ((S : Int) - T, 0) else (0, 9)
theorem pick_less (S T : Nat) (hS : S < 340282366920938463463374607431768211456) (hT : T < 340282366920938463463374607431768211456) (lo b1 hi b2 : Nat)
    (h1 : lo = (S % 18446744073709551616 + 18446744073709551616 - T % 18446744073709551616 - 0) % 18446744073709551616) (h2 : b1 = if S % 18446744073709551616 < T % 18446744073709551616 + 0 then 1 else 0)
    (h3 : hi = (S / 18446744073709551616 + 18446744073709551616 - T / 18446744073709551616 - b1) % 18446744073709551616) (h4 : b2 = if S / 18446744073709551616 < T / 18446744073709551616 + b1 then 1 else 0) :
    lessS S T = if (b2 = 0 ∧ hi = 0 ∧ lo < 9223372036854775808) ∨ (b2 = 1 ∧ hi = 18446744073709551615 ∧ 9223372036854775808 ≤ lo) then (IntKind.i64.wrap (lo : Int), 0) else (0, 9) := by
  unfold lessS
  rw [IntKind.wrap_i64]
  by_cases q1 : S % 18446744073709551616 < T % 18446744073709551616 + 0
  · rw [if_pos q1] at h2
    by_cases q2 : S / 18446744073709551616 < T / 18446744073709551616 + b1
    · rw [if_pos q2] at h4
      split
      · rw [if_pos (by omega)]
        refine Prod.ext ?_ rfl
        show (S : Int) - T = _
        omega
      · rw [if_neg (by omega)]
    · rw [if_neg q2] at h4
      split
      · rw [if_pos (by omega)]
        refine Prod.ext ?_ rfl
        show (S : Int) - T = _
        omega
      · rw [if_neg (by omega)]
  · rw [if_neg q1] at h2
    by_cases q2 : S / 18446744073709551616 < T / 18446744073709551616 + b1
    · rw [if_pos q2] at h4
      split
      · rw [if_pos (by omega)]
        refine Prod.ext ?_ rfl
        show (S : Int) - T = _
        omega
      · rw [if_neg (by omega)]
    · rw [if_neg q2] at h4
      split
      · rw [if_pos (by omega)]
        refine Prod.ext ?_ rfl
        show (S : Int) - T = _
        omega
      · rw [if_neg (by omega)]
theorem sumless_c (S T : Nat) (hS : S < 340282366920938463463374607431768211456) (hT : T < 340282366920938463463374607431768211456) (w : World) :
    Calls Tryz.prog 52 #[.agg #[.int .u64 ((S / 18446744073709551616 : Nat) : Int), .int .u64 ((S % 18446744073709551616 : Nat) : Int)], .agg #[.int .u64 ((T / 18446744073709551616 : Nat) : Int), .int .u64 ((T % 18446744073709551616 : Nat) : Int)]] w
      (fun e w' => e = .returned (.tuple #[.int .i64 (lessS S T).1, .int .i64 (lessS S T).2]) ∧ Below w.heap.size w w') := by
  have hL := pick_less S T hS hT _ _ _ _ rfl rfl rfl rfl
  have A1 : ∀ W, (callFunc 83 #[.int .u64 ((S % 18446744073709551616 : Nat) : Int), .int .u64 ((T % 18446744073709551616 : Nat) : Int), .int .u64 0]).run Tryz.prog W = _ := fun W => sub64_run (S % 18446744073709551616) (T % 18446744073709551616) 0 (by omega) W
  have hb1 : (if S % 18446744073709551616 < T % 18446744073709551616 + 0 then 1 else 0) ≤ 1 := by split <;> omega
  have A2 := fun W => sub64_run (S / 18446744073709551616) (T / 18446744073709551616) (if S % 18446744073709551616 < T % 18446744073709551616 + 0 then 1 else 0) hb1 W
  generalize (S % 18446744073709551616 + 18446744073709551616 - T % 18446744073709551616 - 0) % 18446744073709551616 = lo at hL A1
  generalize (if S % 18446744073709551616 < T % 18446744073709551616 + 0 then 1 else 0) = b1 at hL A1 A2 hb1
  have hb2 : (if S / 18446744073709551616 < T / 18446744073709551616 + b1 then 1 else 0) = 0 ∨ (if S / 18446744073709551616 < T / 18446744073709551616 + b1 then 1 else 0) = 1 := by split <;> simp
  generalize (S / 18446744073709551616 + 18446744073709551616 - T / 18446744073709551616 - b1) % 18446744073709551616 = hi at hL A2
  generalize (if S / 18446744073709551616 < T / 18446744073709551616 + b1 then 1 else 0) = b2 at hL A2 hb2
  generalize lessS S T = R at hL ⊢
  generalize S / 18446744073709551616 = s1 at *
  generalize S % 18446744073709551616 = s0 at *
  generalize T / 18446744073709551616 = t1 at *
  generalize T % 18446744073709551616 = t0 at *
  obtain ⟨w1, hw1⟩ : ∃ y, y = w.alloc (.cells #[.int .u64 (s1 : Int), .int .u64 (s0 : Int)] 85) := ⟨_, rfl⟩
  obtain ⟨w2, hw2⟩ : ∃ y, y = w1.alloc (.cells #[.int .u64 (t1 : Int), .int .u64 (t0 : Int)] 85) := ⟨_, rfl⟩
  have hz1 : w1.heap.size = w.heap.size + 1 := by rw [hw1, World.size_alloc]
  have T0 : w2.heap[w.heap.size]? = some (.cells #[.int .u64 (s1 : Int), .int .u64 (s0 : Int)] 85 (0, 0)) := by
    rw [hw2]
    exact (((Below.refl _ _).alloc (Nat.le_refl w1.heap.size) _).block _ (by omega)).trans (by rw [hw1]; exact heap_alloc_new w _)
  have T1 : w2.heap[w.heap.size + 1]? = some (.cells #[.int .u64 (t1 : Int), .int .u64 (t0 : Int)] 85 (0, 0)) := by rw [hw2, ← hz1]; exact heap_alloc_new w1 _
  have hbw : Below w.heap.size w w2 := by
    rw [hw2]
    refine Below.alloc ?_ (by omega) _
    rw [hw1]
    exact (Below.refl _ _).alloc (Nat.le_refl _) _
  have x0 := blk_get T0 0
  have x1 := blk_get T0 1
  have y0 := blk_get T1 0
  have y1 := blk_get T1 1
  simp at x0 x1 y0 y1
  have Hw1 := Lib.hid hw1; have Hw2 := Lib.hid hw2; have Hbw := Lib.hid hbw
  rw [hw2, hw1] at x0 x1 y0 y1
  clear hw1 hw2 T0 T1 hz1 hbw hS hT hb1
  rcases hb2 with rfl | rfl
  · cases q1 : ((hi : Int) == 0)
    · have hR : R = (0, 9) := by
        rw [hL, if_neg]
        intro h
        have : hi ≠ 0 := fun e => by rw [e] at q1; exact absurd q1 (by decide)
        omega
      subst hR
      clear hL
      go_enter Tryz.func52, Tryz.ntmps52
      go_wp2_with (simp only [A1, A2])
      go_ret2
      refine ⟨rfl, ?_⟩
      rw [← Hw1.out, ← Hw2.out]
      exact Hbw.out
    · have hh : hi = 0 := by have := eq_of_beq q1; omega
      cases q2 : decide ((lo : Int) < 9223372036854775808)
      · have hR : R = (0, 9) := by
          rw [hL, if_neg]
          intro h
          have : ¬ (lo : Int) < 9223372036854775808 := of_decide_eq_false q2
          omega
        subst hR
        clear hL
        go_enter Tryz.func52, Tryz.ntmps52
        go_wp2_with (simp only [A1, A2])
        go_ret2
        refine ⟨rfl, ?_⟩
        rw [← Hw1.out, ← Hw2.out]
        exact Hbw.out
      · obtain ⟨z, hz⟩ : ∃ z, IntKind.i64.wrap (lo : Int) = z := ⟨_, rfl⟩
        have hR : R = (z, 0) := by
          rw [hL, if_pos, hz]
          have := of_decide_eq_true q2
          omega
        subst hR
        clear hL
        go_enter Tryz.func52, Tryz.ntmps52
        go_wp2_with (simp only [A1, A2])
        go_ret2
        refine ⟨rfl, ?_⟩
        rw [← Hw1.out, ← Hw2.out]
        exact Hbw.out
  · cases q1 : ((hi : Int) == 18446744073709551615)
    · have hR : R = (0, 9) := by
        rw [hL, if_neg]
        intro h
        have : hi ≠ 18446744073709551615 := fun e => by rw [e] at q1; exact absurd q1 (by decide)
        omega
      subst hR
      clear hL
      go_enter Tryz.func52, Tryz.ntmps52
      go_wp2_with (simp only [A1, A2])
      go_ret2
      refine ⟨rfl, ?_⟩
      rw [← Hw1.out, ← Hw2.out]
      exact Hbw.out
    · have hh : hi = 18446744073709551615 := by have := eq_of_beq q1; omega
      cases q2 : decide ((9223372036854775808 : Int) ≤ (lo : Int))
      · have hR : R = (0, 9) := by
          rw [hL, if_neg]
          intro h
          have : ¬ (9223372036854775808 : Int) ≤ (lo : Int) := of_decide_eq_false q2
          omega
        subst hR
        clear hL
        go_enter Tryz.func52, Tryz.ntmps52
        go_wp2_with (simp only [A1, A2])
        go_ret2
        refine ⟨rfl, ?_⟩
        rw [← Hw1.out, ← Hw2.out]
        exact Hbw.out
      · obtain ⟨z, hz⟩ : ∃ z, IntKind.i64.wrap (lo : Int) = z := ⟨_, rfl⟩
        have hR : R = (z, 0) := by
          rw [hL, if_pos, hz]
          have := of_decide_eq_true q2
          omega
        subst hR
        clear hL
        go_enter Tryz.func52, Tryz.ntmps52
        go_wp2_with (simp only [A1, A2])
        go_ret2
        refine ⟨rfl, ?_⟩
        rw [← Hw1.out, ← Hw2.out]
        exact Hbw.out
end Go.Proofs.YtohjgegnamcnlaaGreat

/- Law 39: maps with strings as keys, seen as functions; their elements as they lie. -/
namespace Go.Proofs.YtohjgegnamcnlaaGreat
open Go.RowKit Go.Shelf Go.Maps
open Go.ChangeMaps (setBlock heap_setBlock_same heap_setBlock_other)

def rawV (v : Value) : Option (DataW Value × List MemPlace) := some (.held v, [])
def sk (s : ByteArray) : Lit := .string s.data.toList
theorem sk_inj {a b : ByteArray} (h : sk a = sk b) : a = b := bytes_ext (by injection h)
theorem Kst : Keyed Tryz.prog 9 := Maps.string_keyed tStr
theorem key_mk {s : ByteArray} (h : s.size ≤ maxLen) : keyOf Tryz.prog 9 (.string s) = some (sk s) := WideMaps.keyOf_string_mk tStr h
theorem key_lit {s : ByteArray} (h : s.size ≤ maxLen) : WideAt.IsKeyLit (sk s) := Kst.key (key_mk h)
def FOf (D : DataW Value) (f : ByteArray → Option Value) : Prop := ∀ s, s.size ≤ maxLen → (f s = none → Maps.has D (sk s) = false) ∧ ∀ v, f s = some v → Maps.has D (sk s) = true ∧ ∀ z, D.atKey (sk s) z = .held v
def updF (f : ByteArray → Option Value) (s : ByteArray) (v : Option Value) : ByteArray → Option Value := fun x => if x = s then v else f x
/-- Block b is a map of at most n entries, which are those of f. -/
def MapIs (w : World) (b n : Nat) (f : ByteArray → Option Value) : Prop := ∃ D : DataW Value, w.ownsMap Tryz.prog 9 rawV b n D ∧ FOf D f
theorem MapIs.lt {w : World} {b n : Nat} {f : ByteArray → Option Value} (h : MapIs w b n f) : b < w.heap.size := by obtain ⟨D, h, _⟩ := h; exact h.lt
theorem MapIs.block {w w' : World} {b n : Nat} {f : ByteArray → Option Value} (h : MapIs w b n f) (hb : w'.heap[b]? = w.heap[b]?) : MapIs w' b n f := by
  obtain ⟨D, ⟨es, clock, h1, h2⟩, h3⟩ := h
  exact ⟨D, ⟨es, clock, hb.trans h1, h2⟩, h3⟩
theorem MapIs.below {w w' : World} {b n : Nat} {f : ByteArray → Option Value} (h : MapIs w b n f) (hb : Below w.heap.size w w') : MapIs w' b n f := h.block (hb.block b h.lt)
theorem MapIs.mono {w : World} {b n m : Nat} {f : ByteArray → Option Value} (h : MapIs w b n f) (hn : n ≤ m) : MapIs w b m f := by
  obtain ⟨D, h1, h2⟩ := h
  exact ⟨D, h1.mono hn, h2⟩
theorem MapIs.congr {w : World} {b n : Nat} {f g : ByteArray → Option Value} (h : MapIs w b n f) (hg : ∀ s, s.size ≤ maxLen → f s = g s) : MapIs w b n g := by
  obtain ⟨D, h1, h2⟩ := h
  exact ⟨D, h1, fun s hs => by rw [← hg s hs]; exact h2 s hs⟩
/-- The block of a map holds no cells. -/
theorem MapIs.cell {w : World} {b n : Nat} {f : ByteArray → Option Value} (h : MapIs w b n f) (i : Nat) : w.cell? ⟨b, i, none⟩ = none := by
  obtain ⟨D, ⟨es, clock, h1, _⟩, _⟩ := h
  simp [World.cell?, h1]
theorem MapIs.made (w : World) : MapIs (w.alloc (.map #[] 0)) w.heap.size 0 (fun _ => none) :=
  ⟨_, World.ownsMap_made w _ _ _, fun s _ => ⟨fun _ => rfl, fun v hv => by cases hv⟩⟩
theorem FOf.absent {D : DataW Value} {f : ByteArray → Option Value} (h : FOf D f) {s : ByteArray} (hs : s.size ≤ maxLen) (hf : f s = none) (z : DataW Value) : D.atKey (sk s) z = z := Maps.atKey_of_not_has ((h s hs).1 hf) z
theorem FOf.put {D : DataW Value} {f : ByteArray → Option Value} (h : FOf D f) (hD : Maps.IsMap D) {s : ByteArray} (hs : s.size ≤ maxLen) (v : Value) : FOf (D.put (sk s) (.held v)) (updF f s (some v)) := fun x hx => by
  unfold updF
  by_cases e : x = s
  · subst e
    rw [if_pos rfl]
    exact ⟨fun h => (by cases h), fun u hu => by cases hu; exact ⟨Maps.has_put_same hD (key_lit hx) _, fun z => Maps.atKey_put_same hD (key_lit hx) _ z⟩⟩
  · have hne : sk x ≠ sk s := fun e2 => e (sk_inj e2)
    rw [if_neg e, Maps.has_put_other hne]
    refine ⟨(h x hx).1, fun u hu => ⟨((h x hx).2 u hu).1, fun z => ?_⟩⟩
    rw [Maps.atKey_put_other hne]
    exact ((h x hx).2 u hu).2 z
theorem FOf.del {D : DataW Value} {f : ByteArray → Option Value} (h : FOf D f) {s : ByteArray} : FOf (D.del (sk s)) (updF f s none) := fun x hx => by
  unfold updF
  by_cases e : x = s
  · subst e
    rw [if_pos rfl]
    exact ⟨fun _ => Maps.has_del_same, fun u hu => by cases hu⟩
  · have hne : sk x ≠ sk s := fun e2 => e (sk_inj e2)
    rw [if_neg e, Maps.has_del_other hne]
    refine ⟨(h x hx).1, fun u hu => ⟨((h x hx).2 u hu).1, fun z => ?_⟩⟩
    rw [Maps.atKey_del_other hne]
    exact ((h x hx).2 u hu).2 z
theorem own_size {w : World} {b n : Nat} {D : DataW Value} {f : ByteArray → Option Value} (h : w.ownsMap Tryz.prog 9 rawV b n D) (hf : FOf D f) : Maps.size D = 0 ↔ ∀ s, s.size ≤ maxLen → f s = none := by
  obtain ⟨es, clock, hb, F, hs, rfl⟩ := h
  constructor
  · intro h0 s hs2
    cases q : f s with
    | none => rfl
    | some v =>
      have h1 := ((hf s hs2).2 v q).1
      have e : (es.toList.map (WideElems.rg Tryz.prog 9 rawV)).foldr DataW.insert [] = [] := List.length_eq_zero_iff.1 h0
      rw [e] at h1
      cases h1
  · intro h0
    rcases Nat.eq_zero_or_pos es.size with e | e
    · have : es = #[] := Array.eq_empty_of_size_eq_zero e
      subst this
      rfl
    · have hm : es[0] ∈ es.toList := Array.mem_toList_iff.2 (Array.getElem_mem e)
      obtain ⟨y, hy⟩ := F.reads _ hm
      obtain ⟨s, h1, h2, h3⟩ := WideMaps.string_of_keyOf tStr (WideElems.rd_key hy)
      have h4 := (hf s h3).1 (h0 s h3)
      have h5 : Maps.has (DataW.map ((es.toList.map (WideElems.rg Tryz.prog 9 rawV)).foldr DataW.insert [])) (sk s) = true := by
        refine List.any_eq_true.2 ⟨WideElems.rg Tryz.prog 9 rawV es[0], mem_sorted.2 (List.mem_map.2 ⟨_, hm, rfl⟩), ?_⟩
        rw [WideElems.rg_of hy, h2]
        exact WideAt.sameKey_self (key_lit h3)
      rw [h4] at h5
      cases h5
/-! ### at the operations -/
section
variable {w : World} {ops : Array Oper} {rest : List Oper} {o : Oper} {a : Act} {Q : Exit → Act → World → Prop} {b n : Nat} {f : ByteArray → Option Value} {t e : TypeId}
theorem run_look (h : MapIs w b n f) (ht : Tryz.prog.underlying t = some (.map 9 e)) {z : Value} (hz : (zeroValue e).run Tryz.prog w = .ok z w) {s : ByteArray} (hs : s.size ≤ maxLen) :
    (Instr.lookup t (.map (some b)) (.string s) false).run Tryz.prog w = .ok ((f s).getD z) w := by
  obtain ⟨D, h1, h2⟩ := h
  obtain ⟨v, ps, hr, hv⟩ := h1.lookup Kst ht hz (zd := .held z) (zp := []) rfl (key_mk hs)
  rw [hr]
  have e1 : DataW.held v = D.atKey (sk s) (.held z) := congrArg Prod.fst (Option.some.inj hv)
  cases q : f s with
  | none =>
    rw [h2.absent hs q] at e1
    have e1 := DataW.held.inj e1
    rw [e1]
    rfl
  | some u =>
    rw [((h2 s hs).2 u q).2] at e1
    have e1 := DataW.held.inj e1
    rw [e1]
    rfl
theorem run_look_ok (h : MapIs w b n f) (ht : Tryz.prog.underlying t = some (.map 9 e)) {z : Value} (hz : (zeroValue e).run Tryz.prog w = .ok z w) {s : ByteArray} (hs : s.size ≤ maxLen) :
    (Instr.lookup t (.map (some b)) (.string s) true).run Tryz.prog w = .ok (.tuple #[(f s).getD z, .bool (f s).isSome]) w := by
  obtain ⟨D, h1, h2⟩ := h
  obtain ⟨v, ps, hr, hv⟩ := h1.look_ok Kst ht hz (zd := .held z) (zp := []) rfl (key_mk hs)
  have hr2 : (Instr.lookup t (.map (some b)) (.string s) true).run Tryz.prog w = .ok (.tuple #[v, .bool (Maps.has D (sk s))]) w := hr
  rw [hr2]
  have e1 : DataW.held v = D.atKey (sk s) (.held z) := congrArg Prod.fst (Option.some.inj hv)
  cases q : f s with
  | none =>
    rw [h2.absent hs q] at e1
    have e1 := DataW.held.inj e1
    rw [e1, (h2 s hs).1 q]
    rfl
  | some u =>
    rw [((h2 s hs).2 u q).2] at e1
    have e1 := DataW.held.inj e1
    rw [e1, ((h2 s hs).2 u q).1]
    rfl
theorem wp_look (hg : o.guard = none) (m x : Operand) (hop : o.op = Op.lookup t m x false) (ht : Tryz.prog.underlying t = some (.map 9 e)) {z : Value} (hz : (zeroValue e).run Tryz.prog w = .ok z w)
    (hm : a.eval m = .map (some b)) (h : MapIs w b n f) (s : ByteArray) (hx : a.eval x = .string s) (hs : s.size ≤ maxLen) (hK : wpList Tryz.prog ops Q rest (a.put o.dst ((f s).getD z)) w) : wpList Tryz.prog ops Q (o :: rest) a w := by
  refine wpList_plain hg fun K' hK' => ?_
  have hrun := run_look h ht hz hs
  unfold Oper.wp
  simp [execOp, hop, hm, hx, hrun, Result.andThen]
  exact hK' _ _ hK
theorem wp_look_ok (hg : o.guard = none) (m x : Operand) (hop : o.op = Op.lookup t m x true) (ht : Tryz.prog.underlying t = some (.map 9 e)) {z : Value} (hz : (zeroValue e).run Tryz.prog w = .ok z w)
    (hm : a.eval m = .map (some b)) (h : MapIs w b n f) (s : ByteArray) (hx : a.eval x = .string s) (hs : s.size ≤ maxLen) (hK : wpList Tryz.prog ops Q rest (a.put o.dst (.tuple #[(f s).getD z, .bool (f s).isSome])) w) : wpList Tryz.prog ops Q (o :: rest) a w := by
  refine wpList_plain hg fun K' hK' => ?_
  have hrun := run_look_ok h ht hz hs
  unfold Oper.wp
  simp [execOp, hop, hm, hx, hrun, Result.andThen]
  exact hK' _ _ hK
theorem wp_mapset (hg : o.guard = none) (m x v : Operand) (hop : o.op = Op.mapUpdate t m x v) (ht : Tryz.prog.underlying t = some (.map 9 e)) (hm : a.eval m = .map (some b)) (h : MapIs w b n f) (hn : n < 1000000000)
    (s : ByteArray) (hx : a.eval x = .string s) (hs : s.size ≤ maxLen) (u : Value) (hv : a.eval v = u)
    (hK : ∀ w', MapIs w' b (n + 1) (updF f s (some u)) → On b w w' → wpList Tryz.prog ops Q rest (a.put o.dst undef) w') : wpList Tryz.prog ops Q (o :: rest) a w := by
  obtain ⟨D, h1, h2⟩ := h
  refine wpList_mapUpdate_own w hg m x v t hop 9 e Kst ht rawV b n D hm h1 (by unfold maxLen; omega) (.string s) u (sk s) hx hv (key_mk hs) (.held u) [] rfl ?_
  intro w' h3 h4
  refine hK w' ⟨_, h3, h2.put h1.isMap hs u⟩ ⟨(Below.refl b w).grown h4 (Nat.le_of_lt h1.lt) fun k hk => by injection hk with hk; omega, fun k hk hne => h4.block k hk fun e => hne (by injection e)⟩
theorem wp_mapdel (hg : o.guard = none) (m x : Operand) (k2 : TypeId) (hk2 : k2 = 9) (hop : o.op = Op.call { callee := Callee.builtin Builtin.delete, args := #[m, x], argTypes := #[t, k2] }) (ht : Tryz.prog.underlying t = some (.map 9 e))
    (hm : a.eval m = .map (some b)) (h : MapIs w b n f) (s : ByteArray) (hx : a.eval x = .string s) (hs : s.size ≤ maxLen)
    (hK : ∀ w', MapIs w' b n (updF f s none) → On b w w' → wpList Tryz.prog ops Q rest (a.put o.dst (.tuple #[])) w') : wpList Tryz.prog ops Q (o :: rest) a w := by
  subst hk2
  obtain ⟨D, h1, h2⟩ := h
  refine wpList_delete_own w hg m x t 9 hop e Kst ht rawV b n D hm h1 (.string s) (sk s) hx (key_mk hs) ?_
  intro w' h3 h5
  have h4 := h5.grown
  refine hK w' ⟨_, h3, h2.del⟩ ⟨(Below.refl b w).grown h4 (Nat.le_of_lt h1.lt) fun k hk => by injection hk with hk; omega, fun k hk hne => h4.block k hk fun e => hne (by injection e)⟩
theorem wp_maplen (hg : o.guard = none) (m : Operand) (hop : o.op = Op.call { callee := Callee.builtin Builtin.len, args := #[m], argTypes := #[t] }) (ht : Tryz.prog.underlying t = some (.map 9 e))
    (hm : a.eval m = .map (some b)) (h : MapIs w b n f) (hK : ∀ k : Nat, k ≤ n → (k = 0 ↔ ∀ s, s.size ≤ maxLen → f s = none) → wpList Tryz.prog ops Q rest (a.put o.dst (.int .i64 (k : Int))) w) : wpList Tryz.prog ops Q (o :: rest) a w := by
  obtain ⟨D, h1, h2⟩ := h
  exact wpList_len_own w hg m t hop 9 e ht rawV b n D hm h1 (hK _ h1.size_le (own_size h1 h2))
theorem run_maplen (h : MapIs w b n f) (ht : Tryz.prog.underlying t = some (.map 9 e)) : ∃ k : Nat, k ≤ n ∧ (k = 0 ↔ ∀ s, s.size ≤ maxLen → f s = none) ∧ ∀ ty, (Builtin.len_ #[t] ty #[.map (some b)]).run Tryz.prog w = .ok (.int .i64 (k : Int)) w := by
  obtain ⟨D, h1, h2⟩ := h
  exact ⟨_, h1.size_le, own_size h1 h2, fun ty => h1.len ht ty⟩
/-! ### range -/
/-- The iterator r over the map b: the keys still to come. -/
def RangeIs (w : World) (b r n : Nat) (f : ByteArray → Option Value) (todo : ByteArray → Bool) (cnt : Nat) : Prop :=
  ∃ D left, w.ranges Tryz.prog 9 rawV b r n D left cnt ∧ FOf D f ∧ ∀ s, s.size ≤ maxLen → left (sk s) = todo s
theorem RangeIs.map {r cnt : Nat} {todo : ByteArray → Bool} (h : RangeIs w b r n f todo cnt) : MapIs w b n f := by
  obtain ⟨D, left, h1, h2, _⟩ := h
  exact ⟨D, h1.owns, h2⟩
theorem RangeIs.lt {r cnt : Nat} {todo : ByteArray → Bool} (h : RangeIs w b r n f todo cnt) : r < w.heap.size := by
  obtain ⟨D, left, h1, h2, _⟩ := h
  exact h1.lt
theorem RangeIs.ne {r cnt : Nat} {todo : ByteArray → Bool} (h : RangeIs w b r n f todo cnt) : r ≠ b := by
  obtain ⟨D, left, h1, h2, _⟩ := h
  exact h1.ne
theorem RangeIs.left_eq {r cnt : Nat} {todo : ByteArray → Bool} (h : RangeIs w b r n f todo cnt) : w.rangeLeft b r = cnt := by
  obtain ⟨D, left, h1, h2, _⟩ := h
  exact h1.left_eq
theorem RangeIs.block {w' : World} {r cnt : Nat} {todo : ByteArray → Bool} (h : RangeIs w b r n f todo cnt) (hb : w'.heap[b]? = w.heap[b]?) (hr : w'.heap[r]? = w.heap[r]?) : RangeIs w' b r n f todo cnt := by
  obtain ⟨D, left, ⟨es, clock, since, seen, c0, h1, h2, h3, h4, h5, h6⟩, h7⟩ := h
  exact ⟨D, left, ⟨es, clock, since, seen, c0, hb.trans h1, h2, h3, h4, hr.trans h5, h6⟩, h7⟩
theorem RangeIs.below {w' : World} {r cnt : Nat} {todo : ByteArray → Bool} (h : RangeIs w b r n f todo cnt) (hb : Below w.heap.size w w') : RangeIs w' b r n f todo cnt := h.block (hb.block b h.map.lt) (hb.block r h.lt)
theorem wp_maprange (hg : o.guard = none) (m : Operand) (hop : o.op = Op.range t m) (ht : Tryz.prog.underlying t = some (.map 9 e)) (hm : a.eval m = .map (some b)) (h : MapIs w b n f)
    (hK : ∀ w' cnt, RangeIs w' b w.heap.size n f (fun s => (f s).isSome) cnt → cnt ≤ n → Below w.heap.size w w' → w'.heap.size = w.heap.size + 1 → wpList Tryz.prog ops Q rest (a.put o.dst (.pointer (some ⟨w.heap.size, 0, none⟩))) w') : wpList Tryz.prog ops Q (o :: rest) a w := by
  obtain ⟨D, h1, h2⟩ := h
  refine wpList_range_own w hg m t hop 9 e Kst ht rawV b n D hm h1 ?_
  intro w' h3 h4 h5
  refine hK w' _ ⟨D, _, h3, h2, fun s hs => ?_⟩ h1.size_le ((Below.refl _ w).grown h4 (Nat.le_refl _) fun k hk => by cases hk) h5
  show Maps.has D (sk s) = (f s).isSome
  cases q : f s with
  | none => exact (h2 s hs).1 q
  | some v => exact ((h2 s hs).2 v q).1
theorem wp_mapnext (hg : o.guard = none) (it : Operand) (hop : o.op = Op.next it false) (r : Nat) (todo : ByteArray → Bool) (cnt : Nat) (hit : a.eval it = .pointer (some ⟨r, 0, none⟩)) (h : RangeIs w b r n f todo cnt)
    (hDone : (∀ s, s.size ≤ maxLen → todo s = false) → wpList Tryz.prog ops Q rest (a.put o.dst (.tuple #[.bool false])) w)
    (hMore : ∀ (x : ByteArray) (v : Value) (w' : World) (cnt' : Nat), x.size ≤ maxLen → todo x = true → f x = some v → RangeIs w' b r n f (fun s => todo s && !decide (s = x)) cnt' → cnt' < cnt → On r w w' → w'.heap.size = w.heap.size →
      (Instr.entry (.pointer (some ⟨r, 0, none⟩))).run Tryz.prog w' = .ok (.tuple #[.string x, v]) w' → wpList Tryz.prog ops Q rest (a.put o.dst (.tuple #[.bool true, .string x, v])) w') : wpList Tryz.prog ops Q (o :: rest) a w := by
  have hlt := h.lt
  obtain ⟨D, left, h1, h2, h3⟩ := h
  refine wpList_next_ranges w hg it hop 9 Kst rawV Value.string (fun v : Value => v) (fun key kl hk => by obtain ⟨s, e, _⟩ := WideMaps.string_of_keyOf tStr hk; exact ⟨s, e⟩) (fun v y _ => ⟨v, rfl⟩) b r n D left cnt hit h1 ?_ ?_
  · intro _ hl
    exact hDone fun s hs => by rw [← h3 s hs]; exact hl _
  · intro x v kl y w' cnt' hk hlk hv hat hrg hlt2 hgr hsz hen
    obtain ⟨s, e1, e2, hs⟩ := WideMaps.string_of_keyOf tStr hk
    injection e1 with e1
    subst e1
    have e3 : kl = sk x := e2
    subst e3
    have hy : y = (.held v, []) := (Option.some.inj hv).symm
    have hf : f x = some v := by
      cases q : f x with
      | none =>
        have := hat .nil
        rw [h2.absent hs q, hy] at this
        exact absurd (congrArg (fun d : DataW Value => match d with | .nil => true | _ => false) this) (fun e => by cases e)
      | some u =>
        have := hat .nil
        rw [((h2 x hs).2 u q).2, hy] at this
        rw [DataW.held.inj this]
    refine hMore x v w' cnt' hs (by rw [← h3 x hs]; exact hlk) hf ⟨D, _, hrg, h2, fun z hz => ?_⟩ hlt2 ⟨(Below.refl r w).grown hgr (Nat.le_of_lt hlt) fun k hk => by injection hk with hk; omega, fun k hk hne => hgr.block k hk fun e => hne (by injection e)⟩ hsz hen
    show (left (sk z) && !(sk z).sameKey (sk x)) = (todo z && !decide (z = x))
    rw [h3 z hz]
    by_cases e : z = x
    · rw [e, WideAt.sameKey_self (key_lit hs), decide_eq_true rfl]
    · rw [Maps.sameKey_ne (fun e2 => e (sk_inj e2)), decide_eq_false e]
end
end Go.Proofs.YtohjgegnamcnlaaGreat

/- Law 39: the events of aggregate.each, and their sort. -/
namespace Go.Proofs.YtohjgegnamcnlaaGreat
open Go.RowKit Go.Shelf
open Go.Sort (grow SWO PermIn SortedIn Holds grow_grow alloc_eq_grow)

/-- append(own, x, y, ..): m elements of any kind, their cells in the block just built. -/
theorem appendM {P : Program} {tS tE : TypeId} {z : Value} {size bytes : Nat} (hS : P.underlying tS = some (.slice tE)) (hE : (P.info? tE).map (fun i => (i.zero, i.size, i.bytes)) = some (some z, size, bytes))
    (hz : z.cells.size = size) (hsz : 0 < size) (hby : bytes ≤ 64)
    {ops : Array Oper} {rest : List Oper} {o : Oper} {a : Act} {Q : Exit → Act → World → Prop} (hgd : o.guard = none) (s x : Operand)
    (ho : o.op = .call { callee := .builtin .append, args := #[s, x], argTypes := #[tS, tS] })
    {w : World} {cs : Array Value} {t : TypeId} (base : Nat) (v : Value) (n m : Nat) (xs news : List Value) (hs : a.eval s = v) (hown : w.ownsRow base tE size v n xs)
    {b : Nat} (hx : a.eval x = .slice (some ⟨b, 0, none⟩) m m) (hb0 : w.heap.size = b) (hcs : cs.toList = news) (hl : news.length = m * size) (h1 : ∀ u ∈ news, u.oneCell' = true) (hlen : n + m < 900000000) (hbase : base ≤ w.heap.size)
    (h : ∀ v' w', w'.ownsRow base tE size v' (n + m) (xs ++ news) → Below base w w' → wpList P ops Q rest (a.put o.dst v') w') :
    wpList P ops Q (o :: rest) a (w.alloc (.cells cs t)) := by
  subst hb0
  obtain ⟨i, hi, hzz, hss, hbb⟩ := info_parts hE
  have hbb2 : (n + m) * bytes ≤ 140737488355328 := Nat.le_trans (Nat.mul_le_mul_left _ hby) (by omega)
  refine wpList_append_own_at (w.alloc (.cells cs t)) hgd s x tS ho base tE i z size bytes hS hi hzz hss hbb hz hsz v n xs hs (hown.alloc _) ⟨w.heap.size, 0, none⟩ m m news hx hl ?_ h1 (by unfold maxLen; omega) hbb2 (by simp; omega) ?_
  · intro j u hu
    have e2 : (⟨w.heap.size, 0, none⟩ : Addr).add j = ⟨w.heap.size, j, none⟩ := by rw [Addr.add_lit, Nat.zero_add]
    rw [e2, blk_get (heap_alloc_new w _), ← hu, ← hcs, Array.getElem?_toList]
  · intro v' w' hown' hg _ _
    refine h v' w' hown' ?_
    refine ((Below.refl base w).alloc hbase (.cells cs t)).grown hg (by simp; omega) ?_
    intro k hk
    exact (hown.lt k hk).1
/-! ### events -/
/-- An event: the fact's number, and whether it begins. -/
abbrev EvA := Nat × Bool
instance evA_inh : Inhabited EvA := ⟨(0, true)⟩
def evt (F : List Fct) (x : EvA) : Int := if x.2 then (fc F x.1).2.1 else (fc F x.1).2.2
def encEv (F : List Fct) (x : EvA) : List Value := [.int .i64 (evt F x), .int .i64 (x.1 : Int), .bool x.2]
theorem encEv_len (F : List Fct) (x : EvA) : (encEv F x).length = 3 := rfl
def evAll (n : Nat) : List EvA := (List.range n).flatMap fun i => [(i, true), (i, false)]
theorem evAll_succ (n : Nat) : evAll (n + 1) = evAll n ++ [(n, true), (n, false)] := by simp [evAll, List.range_succ]
theorem evAll_len : ∀ n : Nat, (evAll n).length = 2 * n
  | 0 => rfl
  | n + 1 => by rw [evAll_succ, List.length_append, evAll_len n]; rfl
/-- An own list that is not empty. -/
theorem own_formG {w : World} {base n k : Nat} {e : TypeId} {v : Value} {xs : List Value} (h : w.ownsRow base e k v n xs) (hr : 0 < n) : ∃ g cap, v = .slice (some ⟨g, 0, none⟩) n cap ∧ base ≤ g ∧ g < w.heap.size ∧ n ≤ cap ∧ cap ≤ 9223372036854775807 := by
  rcases h.2 with ⟨_, h0⟩ | ⟨g, cap, cur, rfl, hb, hg, hnc, hcm, _⟩
  · omega
  · exact ⟨g, cap, rfl, hb, (Array.getElem?_eq_some_iff.1 hg).1, hnc, by simp only [maxLen] at hcm; omega⟩
/-- The bounds of a list of facts' times. -/
def Near39 (F : List Fct) : Prop := ∀ f ∈ F, -4000000000000000000 ≤ f.2.1 ∧ f.2.1 ≤ 4000000000000000000 ∧ -4000000000000000000 ≤ f.2.2 ∧ f.2.2 ≤ 4000000000000000000
theorem Near39.evt {F : List Fct} (h : Near39 F) (x : EvA) : -4000000000000000000 ≤ evt F x ∧ evt F x ≤ 4000000000000000000 := by
  have key : -4000000000000000000 ≤ (fc F x.1).2.1 ∧ (fc F x.1).2.1 ≤ 4000000000000000000 ∧ -4000000000000000000 ≤ (fc F x.1).2.2 ∧ (fc F x.1).2.2 ≤ 4000000000000000000 := by
    by_cases hx : x.1 < F.length
    · exact h _ (fc_mem hx)
    · have : fc F x.1 = ([], (0, 0)) := by unfold fc; rw [List.getD_eq_getElem?_getD, List.getElem?_eq_none (by omega)]; rfl
      rw [this]
      simp
  unfold Go.Proofs.YtohjgegnamcnlaaGreat.evt
  split
  · exact ⟨key.1, key.2.1⟩
  · exact ⟨key.2.2.1, key.2.2.2⟩
def OwnsEv (F : List Fct) (w : World) (base : Nat) (v : Value) (L : List EvA) : Prop := w.ownsRow base 106 3 v L.length (L.flatMap (encEv F))
def evC (F : List Fct) (L : List EvA) (i j : Nat) : Value := if j = 0 then .int .i64 (evt F (L.getD i (0, true))) else if j = 1 then .int .i64 (((L.getD i (0, true)).1 : Nat) : Int) else .bool (L.getD i (0, true)).2
theorem OwnsEv.rows {F : List Fct} {w : World} {base : Nat} {v : Value} {L : List EvA} (h : OwnsEv F w base v L) : RowsIn w v L.length 3 (evC F L) := rows_of_own h fun i j hi hj => by
  rw [flatK_get (encEv_len F) L i j hi hj]
  unfold evC encEv
  rw [List.getD_eq_getElem?_getD, List.getElem?_eq_getElem hi]
  rcases (by omega : j = 0 ∨ j = 1 ∨ j = 2) with rfl | rfl | rfl <;> rfl
theorem OwnsEv.below {F : List Fct} {w w' : World} {base : Nat} {v : Value} {L : List EvA} (h : OwnsEv F w base v L) (hb : Below w.heap.size w w') : OwnsEv F w' base v L := own_below h hb (Nat.le_refl _)
theorem OwnsEv.glt {F : List Fct} {w : World} {base g n c : Nat} {L : List EvA} (h : OwnsEv F w base (.slice (some ⟨g, 0, none⟩) n c) L) : g < w.heap.size := (World.ownsRow.lt h g rfl).2
theorem OwnsEv.block {F : List Fct} {w w' : World} {base g n c : Nat} {L : List EvA} (h : OwnsEv F w base (.slice (some ⟨g, 0, none⟩) n c) L) (hb : w'.heap[g]? = w.heap[g]?) : OwnsEv F w' base (.slice (some ⟨g, 0, none⟩) n c) L := by
  obtain ⟨h1, h2⟩ := h
  refine ⟨h1, ?_⟩
  rcases h2 with ⟨h0, _⟩ | ⟨g', cap, cur, hv, hg, hh, r⟩
  · cases h0
  · refine .inr ⟨g', cap, cur, hv, hg, ?_, r⟩
    injection hv with e1
    injection e1 with e1
    injection e1 with e1
    subst e1
    exact hb.trans hh
section
variable {F : List Fct} {w : World} {base g c : Nat} {L : List EvA}
theorem OwnsEv.e0 (h : OwnsEv F w base (.slice (some ⟨g, 0, none⟩) L.length c) L) (k : Nat) (hk : k < L.length) : w.cell? ⟨g, k * 3, none⟩ = some (.int .i64 (evt F L[k])) := by
  have := RowsIn.cells h.rows k 0 hk (by omega)
  rw [Nat.zero_add, Nat.add_zero] at this
  rw [this]
  simp [evC, hk]
theorem OwnsEv.e1 (h : OwnsEv F w base (.slice (some ⟨g, 0, none⟩) L.length c) L) (k : Nat) (hk : k < L.length) : w.cell? ⟨g, k * 3 + 1, none⟩ = some (.int .i64 ((L[k].1 : Nat) : Int)) := by
  have := RowsIn.cells h.rows k 1 hk (by omega)
  rw [Nat.zero_add] at this
  rw [this]
  simp [evC, hk]
theorem OwnsEv.e2 (h : OwnsEv F w base (.slice (some ⟨g, 0, none⟩) L.length c) L) (k : Nat) (hk : k < L.length) : w.cell? ⟨g, k * 3 + 2, none⟩ = some (.bool L[k].2) := by
  have := RowsIn.cells h.rows k 2 hk (by omega)
  rw [Nat.zero_add] at this
  rw [this]
  simp [evC, hk]
end
theorem tEvents : Tryz.prog.underlying 104 = some (.slice 106) := Tryz.underlying104
theorem tEventInfoA : (Tryz.prog.info? 106).map (fun i => (i.zero, i.size, i.bytes)) = some (some (.agg #[.int .i64 0, .int .i64 0, .bool false]), 3, 24) := by kernel_rfl
/-! ### the sort -/
def cfA (F : List Fct) (x y : EvA) : Int := evt F x - evt F y
theorem ltA (F : List Fct) (x y : EvA) : ltOf (cfA F) x y = decide (evt F x < evt F y) := by
  unfold ltOf cfA
  rw [decide_eq_decide]
  omega
theorem swoA (F : List Fct) : SWO (ltOf (cfA F)) where
  irrefl x := by rw [ltA]; simp
  trans x y z h1 h2 := by rw [ltA] at *; simp at *; omega
  ntrans x y z h1 h2 := by rw [ltA] at *; simp at *; omega
theorem ent_aeach1 : ∀ (args : Array Value) (w : World), Sem.run Tryz.prog (callFunc 72 args) w = .ok (.enter 72 args) w := fun _ _ => by kernel_rfl
theorem aeach1_c {F : List Fct} (hF : Near39 F) (x y : EvA) (W : World) : Calls Tryz.prog 72 #[.agg (encEv F x).toArray, .agg (encEv F y).toArray] W fun e w' => e = .returned (.int .i64 (cfA F x y)) ∧ ∃ q os', w' = grow (W.drewN q) os' := by
  obtain ⟨h1, h2⟩ := hF.evt x
  obtain ⟨h3, h4⟩ := hF.evt y
  unfold cfA encEv
  generalize evt F x = a at *
  generalize evt F y = b at *
  obtain ⟨i, p⟩ := x
  obtain ⟨j, q⟩ := y
  simp only
  go_enter Tryz.func72, Tryz.ntmps72
  go_wp2_with fail
  go_ret
  exact ⟨rfl, 0, _, by rw [alloc_eq_grow, alloc_eq_grow, grow_grow]; rfl⟩
theorem sorted_pwA {F : List Fct} {L : Array EvA} (h : SortedIn (ltOf (cfA F)) 0 L.size L) : L.toList.Pairwise (fun s t => evt F s ≤ evt F t) := by
  rw [List.pairwise_iff_getElem]
  intro i j hi hj hij
  have := h i j (Nat.zero_le _) hij (by simpa using hj)
  rw [ltA, getElem!_pos L j (by simpa using hj), getElem!_pos L i (by simpa using hi)] at this
  simp only [Array.getElem_toList]
  simpa using this
def SortARet (F : List Fct) (base : Nat) (w : World) (v : Value) (l : List EvA) (e : Ending) (w' : World) : Prop :=
  e = .returned (.tuple #[]) ∧ ∃ L : List EvA, L.Perm l ∧ L.Pairwise (fun s t => evt F s ≤ evt F t) ∧ w'.ownsRow base 106 3 v l.length (L.flatMap (encEv F)) ∧ Below base w w'
theorem slSortEventA_c {F : List Fct} (hF : Near39 F) (v : Value) (l : List EvA) (w : World) (base : Nat) (hown : OwnsEv F w base v l) (hl : l.length ≤ 100000000) :
    Calls Tryz.prog 71 #[v, .func (.func 72) #[] #[]] w (SortARet F base w v l) := by
  unfold OwnsEv at hown
  by_cases h0 : 0 < l.length
  · obtain ⟨g, cap, rfl, hgb, hglt, hcap, hcm⟩ := own_formG hown h0
    obtain ⟨hH, hblk, _⟩ := holdsK_own (enc := encEv F) (k := 3) (fun _ => rfl) hown
    have hcon := AnyQ.slices_SortFunc lay_sortEventA 3 Tryz.isAgg106 Tryz.sizeOf106 (encEv F) (fun _ => rfl) (fun x u hu => by simp [encEv] at hu; rcases hu with rfl | rfl | rfl <;> rfl) (cfA F) (swoA F) 72 #[] g 0 cap l.toArray w ent_aeach1
      (fun _ _ _ _ x y => aeach1_c hF x y _) hH hblk (by simp; omega)
    change Calls Tryz.prog 71 _ _ _ at hcon
    have hsz : l.toArray.size = l.length := by simp
    rw [hsz] at hcon
    refine hcon.mono ?_
    rintro e w' ⟨rfl, d', n, os, hp, hs, rfl⟩
    rw [← hsz] at hp
    have hd : d'.size = l.length := by have := hp.1; simpa using this
    obtain ⟨o1, o2⟩ := own_sorted (enc := encEv F) (k := 3) (fun _ => rfl) hown n os d' hd
    exact ⟨rfl, d'.toList, permIn_all hp, sorted_pwA (by rw [hd]; exact hs), o1, o2⟩
  · obtain rfl : l = [] := List.length_eq_zero_iff.1 (by omega)
    obtain ⟨A, cap, rfl⟩ : ∃ A cap, v = .slice A 0 cap := by
      rcases hown.2 with ⟨h, _⟩ | ⟨g, cap, cur, h, _⟩
      · exact ⟨_, _, h⟩
      · exact ⟨_, _, h⟩
    have hcon := AnyF.slices_SortFunc_none lay_sortEventA A cap (.func (.func 72) #[] #[]) w
    change Calls Tryz.prog 71 _ _ _ at hcon
    refine hcon.mono ?_
    rintro e w' ⟨rfl, rfl⟩
    exact ⟨rfl, [], List.Perm.nil, List.Pairwise.nil, hown, Below.refl _ _⟩
end Go.Proofs.YtohjgegnamcnlaaGreat

/- Law 39: the plain law of aggregate.each. -/
namespace Go.Proofs.YtohjgegnamcnlaaGreat
open Go.RowKit Go.Shelf

/-- A visit: a span, and the rows there. -/
abbrev Vis := Sp × List VRow
def actF (F : List Fct) (r : VRow) (t : Int) : Prop := ∃ f ∈ F, f.1 = r ∧ f.2.1 ≤ t ∧ t < f.2.2
def Tm (F : List Fct) (t : Int) : Prop := ∃ f ∈ F, t = f.2.1 ∨ t = f.2.2
/-- The visits so far: they cover the times of which P holds. -/
structure VisOk (F : List Fct) (Vs : List Vis) (P : Int → Prop) : Prop where
  span : ∀ v ∈ Vs, v.1.1 < v.1.2 ∧ Tm F v.1.1 ∧ Tm F v.1.2
  inP : ∀ v ∈ Vs, ∀ t, v.1.1 ≤ t → t < v.1.2 → P t
  ord : Vs.Pairwise fun a b => a.1.2 ≤ b.1.1
  rows : ∀ v ∈ Vs, v.2.Nodup ∧ v.2 ≠ [] ∧ ∀ t, v.1.1 ≤ t → t < v.1.2 → ∀ r, r ∈ v.2 ↔ actF F r t
  cover : ∀ t r, P t → actF F r t → ∃ v ∈ Vs, v.1.1 ≤ t ∧ t < v.1.2
/-- Facts as the code has them valid: each ends behind its beginning. -/
def Up39 (F : List Fct) : Prop := ∀ f ∈ F, f.2.1 < f.2.2
def evL (i : Nat) (L : List EvA) : EvA := L.getD i (0, true)
/-- A list of events in order. -/
structure EvOk (F : List Fct) (L : List EvA) : Prop where
  perm : L.Perm (evAll F.length)
  srt : L.Pairwise fun s t => evt F s ≤ evt F t
theorem mem_evAll {n : Nat} {x : EvA} : x ∈ evAll n ↔ x.1 < n := by
  obtain ⟨i, b⟩ := x
  unfold evAll
  rw [List.mem_flatMap]
  constructor
  · rintro ⟨j, hj, h⟩
    simp only [List.mem_range] at hj
    simp only [List.mem_cons, Prod.mk.injEq, List.not_mem_nil, or_false] at h
    rcases h with h | h <;> (simp only; omega)
  · intro h
    refine ⟨i, List.mem_range.2 h, ?_⟩
    cases b <;> simp
theorem nodup_evAll : ∀ n, (evAll n).Nodup
  | 0 => List.nodup_nil
  | n + 1 => by
    rw [evAll_succ]
    refine List.nodup_append.2 ⟨nodup_evAll n, by simp, fun a ha b hb e => ?_⟩
    subst e
    have := mem_evAll.1 ha
    simp only [List.mem_cons, List.not_mem_nil, or_false] at hb
    rcases hb with e | e <;> (rw [e] at this; simp only at this; omega)
section
variable {F : List Fct} {L : List EvA}
theorem EvOk.nodup (h : EvOk F L) : L.Nodup := h.perm.nodup_iff.2 (nodup_evAll _)
theorem EvOk.mem (h : EvOk F L) {x : EvA} : x ∈ L ↔ x.1 < F.length := by rw [h.perm.mem_iff, mem_evAll]
theorem EvOk.len (h : EvOk F L) : L.length = 2 * F.length := by rw [h.perm.length_eq, evAll_len]
theorem take_split {L : List EvA} {k : Nat} (h : k < L.length) : L = L.take k ++ L[k] :: L.drop (k + 1) := by rw [← List.drop_eq_getElem_cons h, List.take_append_drop]
/-- What lies ahead of a place is not later; what lies behind it is not earlier. -/
theorem EvOk.ahead (h : EvOk F L) {k : Nat} (hk : k < L.length) : (∀ x ∈ L.take k, evt F x ≤ evt F L[k]) ∧ ∀ x ∈ L.drop (k + 1), evt F L[k] ≤ evt F x := by
  have h1 := h.srt
  rw [take_split hk, List.pairwise_append] at h1
  obtain ⟨_, h2, h3⟩ := h1
  refine ⟨fun x hx => h3 x hx _ (List.mem_cons_self ..), fun x hx => (List.pairwise_cons.1 h2).1 x hx⟩
theorem EvOk.apart (h : EvOk F L) {k : Nat} (hk : k < L.length) : L[k] ∉ L.take k ∧ L[k] ∉ L.drop (k + 1) ∧ ∀ x, x ∈ L.take k → x ∉ L.drop (k + 1) := by
  have h1 := h.nodup
  rw [take_split hk, List.nodup_append] at h1
  obtain ⟨_, h2, h3⟩ := h1
  refine ⟨fun hx => h3 _ hx _ (List.mem_cons_self ..) rfl, (List.nodup_cons.1 h2).1, fun x hx hy => h3 x hx x (List.mem_cons_of_mem _ hy) rfl⟩
theorem EvOk.where (h : EvOk F L) {k : Nat} (hk : k < L.length) {x : EvA} (hx : x.1 < F.length) : x ∈ L.take k ∨ x = L[k] ∨ x ∈ L.drop (k + 1) := by
  have h1 := h.mem.2 hx
  rw [take_split hk] at h1
  rcases List.mem_append.1 h1 with e | e
  · exact .inl e
  · rcases List.mem_cons.1 e with e | e
    · exact .inr (.inl e)
    · exact .inr (.inr e)
/-- The k-th event is an end: its beginning lies ahead of it. -/
theorem EvOk.begun (h : EvOk F L) (hu : Up39 F) {k i : Nat} (hk : k < L.length) (he : L[k] = (i, false)) : (i, true) ∈ L.take k := by
  have hi : i < F.length := by
    have := h.mem.1 (List.getElem_mem hk)
    rw [he] at this
    exact this
  rcases h.where hk (x := (i, true)) hi with e | e | e
  · exact e
  · rw [he] at e
    cases e
  · have h1 := (h.ahead hk).2 _ e
    rw [he] at h1
    have h2 := hu _ (fc_mem hi)
    unfold evt at h1
    simp only [if_true, Bool.false_eq_true, if_false] at h1
    omega
/-- The k-th event is a beginning: its end does not lie ahead of it. -/
theorem EvOk.unended (h : EvOk F L) (hu : Up39 F) {k i : Nat} (hk : k < L.length) (he : L[k] = (i, true)) : (i, false) ∉ L.take k := fun e => by
  have hi : i < F.length := by
    have := h.mem.1 (List.getElem_mem hk)
    rw [he] at this
    exact this
  have h1 := (h.ahead hk).1 _ e
  rw [he] at h1
  have h2 := hu _ (fc_mem hi)
  unfold evt at h1
  simp only [if_true, Bool.false_eq_true, if_false] at h1
  omega
end
/-! ### how many facts of a code are open -/
def codeF (F : List Fct) (i : Nat) : ByteArray := encR (fc F i).1
def opn (F : List Fct) (pre : List EvA) (s : ByteArray) (i : Nat) : Bool := decide (codeF F i = s) && decide ((i, true) ∈ pre) && !decide ((i, false) ∈ pre)
def cntS (F : List Fct) (pre : List EvA) (s : ByteArray) : Nat := (List.range F.length).countP (opn F pre s)
theorem countP_turn {p q : Nat → Bool} {i : Nat} (hp : p i = false) (hq : q i = true) (he : ∀ j, j ≠ i → p j = q j) : ∀ n, i < n → (List.range n).countP q = (List.range n).countP p + 1
  | 0, h => absurd h (by omega)
  | n + 1, h => by
    rw [List.range_succ, List.countP_append, List.countP_append]
    rcases Nat.eq_or_lt_of_le (show i ≤ n by omega) with e | e
    · subst e
      have key : (List.range i).countP q = (List.range i).countP p := List.countP_congr fun j hj => by
        have := List.mem_range.1 hj
        rw [he j (by omega)]
      rw [key]
      simp [hp, hq]
    · rw [countP_turn hp hq he n e]
      have : p n = q n := he n (by omega)
      simp only [List.countP_cons, List.countP_nil, this]
      omega
theorem countP_same {p q : Nat → Bool} (he : ∀ j, p j = q j) (n : Nat) : (List.range n).countP q = (List.range n).countP p := List.countP_congr fun j _ => by rw [he j]
section
variable {F : List Fct} {L : List EvA}
theorem take_succE {k : Nat} (hk : k < L.length) : L.take (k + 1) = L.take k ++ [L[k]] := List.take_succ_eq_append_getElem hk
theorem cnt_begin (h : EvOk F L) (hu : Up39 F) {k i : Nat} (hk : k < L.length) (he : L[k] = (i, true)) (s : ByteArray) : cntS F (L.take (k + 1)) s = cntS F (L.take k) s + if codeF F i = s then 1 else 0 := by
  have hi : i < F.length := by
    have := h.mem.1 (List.getElem_mem hk)
    rw [he] at this
    exact this
  have h1 := (h.apart hk).1
  have h2 := h.unended hu hk he
  rw [he] at h1
  have hoth : ∀ j, j ≠ i → opn F (L.take k) s j = opn F (L.take (k + 1)) s j := fun j hj => by
    unfold opn
    rw [take_succE hk, he]
    simp [hj]
  unfold cntS
  by_cases hc : codeF F i = s
  · rw [if_pos hc]
    refine countP_turn (i := i) ?_ ?_ hoth _ hi
    · unfold opn; simp [h1]
    · unfold opn
      rw [take_succE hk, he]
      simp [hc, h2]
  · rw [if_neg hc]
    refine countP_same (fun j => ?_) _
    by_cases hj : j = i
    · subst hj; unfold opn; simp [hc]
    · exact hoth j hj
theorem cnt_end (h : EvOk F L) (hu : Up39 F) {k i : Nat} (hk : k < L.length) (he : L[k] = (i, false)) (s : ByteArray) : cntS F (L.take k) s = cntS F (L.take (k + 1)) s + if codeF F i = s then 1 else 0 := by
  have hi : i < F.length := by
    have := h.mem.1 (List.getElem_mem hk)
    rw [he] at this
    exact this
  have h1 := (h.apart hk).1
  have h2 := h.begun hu hk he
  rw [he] at h1
  have hoth : ∀ j, j ≠ i → opn F (L.take (k + 1)) s j = opn F (L.take k) s j := fun j hj => by
    unfold opn
    rw [take_succE hk, he]
    simp [hj]
  unfold cntS
  by_cases hc : codeF F i = s
  · rw [if_pos hc]
    refine countP_turn (i := i) ?_ ?_ hoth _ hi
    · unfold opn
      rw [take_succE hk, he]
      simp
    · unfold opn
      simp [hc, h1, h2]
  · rw [if_neg hc]
    refine countP_same (fun j => ?_) _
    by_cases hj : j = i
    · subst hj; unfold opn; simp [hc]
    · exact hoth j hj
theorem cnt_le (F : List Fct) (pre : List EvA) (s : ByteArray) : cntS F pre s ≤ F.length := by
  unfold cntS
  have := List.countP_le_length (p := opn F pre s) (l := List.range F.length)
  simpa using this
theorem cnt_pos {pre : List EvA} {s : ByteArray} : 0 < cntS F pre s ↔ ∃ i, i < F.length ∧ opn F pre s i = true := by
  unfold cntS
  rw [List.countP_pos_iff]
  constructor
  · rintro ⟨i, h1, h2⟩
    exact ⟨i, List.mem_range.1 h1, h2⟩
  · rintro ⟨i, h1, h2⟩
    exact ⟨i, List.mem_range.2 h1, h2⟩
/-- The map 'many'. -/
def manyF (F : List Fct) (pre : List EvA) (s : ByteArray) : Option Value := if cntS F pre s = 0 then none else some (.int .i64 ((cntS F pre s : Nat) : Int))
theorem many_get (F : List Fct) (pre : List EvA) (s : ByteArray) : (manyF F pre s).getD (.int .i64 0) = .int .i64 ((cntS F pre s : Nat) : Int) := by
  unfold manyF
  by_cases h : cntS F pre s = 0
  · rw [if_pos h, h]; rfl
  · rw [if_neg h]; rfl
theorem many_begin (h : EvOk F L) (hu : Up39 F) {k i : Nat} (hk : k < L.length) (he : L[k] = (i, true)) (x : ByteArray) :
    updF (manyF F (L.take k)) (codeF F i) (some (.int .i64 ((cntS F (L.take k) (codeF F i) : Int) + 1))) x = manyF F (L.take (k + 1)) x := by
  have h1 := cnt_begin h hu hk he x
  unfold updF manyF
  by_cases e : x = codeF F i
  · subst e
    rw [if_pos rfl] at h1 ⊢
    rw [h1, if_neg (by omega)]
    rfl
  · rw [if_neg (fun e2 => e e2.symm)] at h1
    rw [if_neg e, h1, Nat.add_zero]
theorem many_end (h : EvOk F L) (hu : Up39 F) {k i : Nat} (hk : k < L.length) (he : L[k] = (i, false)) {c : Nat} (hc : cntS F (L.take k) (codeF F i) = c + 1) (x : ByteArray) :
    updF (manyF F (L.take k)) (codeF F i) (if c = 0 then none else some (.int .i64 (c : Int))) x = manyF F (L.take (k + 1)) x := by
  have h1 := cnt_end h hu hk he x
  have h2 := cnt_end h hu hk he (codeF F i)
  rw [if_pos rfl, hc] at h2
  have h3 : cntS F (L.take (k + 1)) (codeF F i) = c := by omega
  unfold updF manyF
  by_cases e : x = codeF F i
  · subst e
    rw [if_pos rfl, h3]
  · rw [if_neg (fun e2 => e e2.symm), Nat.add_zero] at h1
    rw [if_neg e, h1]
/-! ### the first fact of a code -/
def firstN (F : List Fct) : Nat → ByteArray → Option Nat
  | 0, _ => none
  | k + 1, s => match firstN F k s with
    | some i => some i
    | none => if codeF F k = s then some k else none
theorem firstN_some : ∀ {k : Nat} {s : ByteArray} {i : Nat}, firstN F k s = some i → i < k ∧ codeF F i = s
  | 0, _, _, h => by cases h
  | k + 1, s, i, h => by
    unfold firstN at h
    split at h
    · rename_i j hj
      injection h with h
      subst h
      have := firstN_some hj
      exact ⟨by omega, this.2⟩
    · split at h
      · injection h with h
        subst h
        exact ⟨by omega, by assumption⟩
      · cases h
theorem firstN_has : ∀ {k i : Nat}, i < k → ∃ j, firstN F k (codeF F i) = some j
  | 0, i, h => absurd h (by omega)
  | k + 1, i, h => by
    unfold firstN
    cases q : firstN F k (codeF F i) with
    | some j => exact ⟨j, rfl⟩
    | none =>
      rcases Nat.eq_or_lt_of_le (show i ≤ k by omega) with e | e
      · subst e
        exact ⟨i, if_pos rfl⟩
      · obtain ⟨j, hj⟩ := firstN_has (k := k) e
        rw [q] at hj
        cases hj
def firstF (F : List Fct) (k : Nat) (s : ByteArray) : Option Value := (firstN F k s).map fun i : Nat => Value.int .i64 (i : Int)
/-! ### between two batches -/
/-- At the place k no batch is under way: T was the last time. -/
structure Gap (F : List Fct) (L : List EvA) (k : Nat) (T : Int) : Prop where
  lo : ∀ x ∈ L.take k, evt F x ≤ T
  hi : ∀ x ∈ L.drop k, T < evt F x
theorem opn_gap (h : EvOk F L) {k : Nat} {T : Int} (hg : Gap F L k T) {s : ByteArray} {i : Nat} (hi : i < F.length) : opn F (L.take k) s i = (decide (codeF F i = s) && decide ((fc F i).2.1 ≤ T) && decide (T < (fc F i).2.2)) := by
  have key : ∀ b, decide ((i, b) ∈ L.take k) = decide (evt F (i, b) ≤ T) := fun b => by
    rw [decide_eq_decide]
    constructor
    · exact fun hx => hg.lo _ hx
    · intro hle
      have h1 : (i, b) ∈ L := h.mem.2 hi
      rw [← List.take_append_drop k L] at h1
      rcases List.mem_append.1 h1 with e | e
      · exact e
      · have := hg.hi _ e
        omega
  unfold opn
  rw [key true, key false]
  unfold evt
  simp only [if_true, Bool.false_eq_true, if_false]
  congr 1
  rw [← decide_not, decide_eq_decide]
  omega
/-- Between two times of events nothing turns. -/
theorem act_still (h : EvOk F L) {k : Nat} {T t : Int} (hg : Gap F L k T) (h1 : T ≤ t) (h2 : ∀ x ∈ L.drop k, t < evt F x) (r : VRow) : actF F r t ↔ actF F r T := by
  have hg2 : Gap F L k t := ⟨fun x hx => Int.le_trans (hg.lo x hx) h1, h2⟩
  have key : ∀ i, i < F.length → ((fc F i).2.1 ≤ t ∧ t < (fc F i).2.2 ↔ (fc F i).2.1 ≤ T ∧ T < (fc F i).2.2) := fun i hi => by
    have e1 := opn_gap h hg (s := codeF F i) hi
    have e2 := opn_gap h hg2 (s := codeF F i) hi
    rw [e1] at e2
    simp only [decide_true, Bool.true_and] at e2
    constructor
    · rintro ⟨a, b⟩
      rw [decide_eq_true a, decide_eq_true b] at e2
      simpa using e2
    · rintro ⟨a, b⟩
      rw [decide_eq_true a, decide_eq_true b] at e2
      simpa using e2.symm
  unfold actF
  constructor
  · rintro ⟨f, hf, e, h3⟩
    obtain ⟨i, hi, rfl⟩ := List.getElem_of_mem hf
    rw [fc_at hi] at e h3 hf
    exact ⟨_, hf, e, (key i hi).1 h3⟩
  · rintro ⟨f, hf, e, h3⟩
    obtain ⟨i, hi, rfl⟩ := List.getElem_of_mem hf
    rw [fc_at hi] at e h3 hf
    exact ⟨_, hf, e, (key i hi).2 h3⟩
/-- The rows that are gathered: one for each code that is open. -/
structure RowsOf (F : List Fct) (pre : List EvA) (R : List VRow) (todo : ByteArray → Bool) : Prop where
  nd : R.Nodup
  from_ : ∀ r ∈ R, ∃ i, i < F.length ∧ (fc F i).1 = r
  iff : ∀ i, i < F.length → ((fc F i).1 ∈ R ↔ (cntS F pre (codeF F i) ≠ 0 ∧ todo (codeF F i) = false))
def OkF (F : List Fct) : Prop := ∀ f ∈ F, okR f.1
theorem code_inj (hok : OkF F) {i j : Nat} (hi : i < F.length) (hj : j < F.length) (h : codeF F i = codeF F j) : (fc F i).1 = (fc F j).1 := encR_inj (hok _ (fc_mem hi)) (hok _ (fc_mem hj)) h
theorem RowsOf.start (F : List Fct) (pre : List EvA) : RowsOf F pre [] (fun s => (manyF F pre s).isSome) :=
  ⟨List.nodup_nil, fun r hr => absurd hr (by simp), fun i hi => by
    constructor
    · intro h; exact absurd h (by simp)
    · rintro ⟨h1, h2⟩
      unfold manyF at h2
      rw [if_neg h1] at h2
      cases h2⟩
theorem RowsOf.step (hok : OkF F) {pre : List EvA} {R : List VRow} {todo : ByteArray → Bool} (h : RowsOf F pre R todo) {s : ByteArray} (hs : todo s = true) (hm : (manyF F pre s).isSome = true) {j : Nat} (hj : j < F.length) (hc : codeF F j = s) :
    RowsOf F pre (R ++ [(fc F j).1]) (fun x => todo x && !decide (x = s)) := by
  subst hc
  have hnot : (fc F j).1 ∉ R := fun hin => by
    have := ((h.iff j hj).1 hin).2
    rw [hs] at this
    cases this
  have hcn : cntS F pre (codeF F j) ≠ 0 := fun e => by
    unfold manyF at hm
    rw [if_pos e] at hm
    cases hm
  refine ⟨?_, ?_, ?_⟩
  · refine List.nodup_append.2 ⟨h.nd, by simp, fun a ha b hb e => ?_⟩
    rw [List.mem_singleton] at hb
    rw [e, hb] at ha
    exact hnot ha
  · intro r hr
    rcases List.mem_append.1 hr with e | e
    · exact h.from_ r e
    · rw [List.mem_singleton] at e
      exact ⟨j, hj, e.symm⟩
  · intro i hi
    rw [List.mem_append, List.mem_singleton, h.iff i hi]
    constructor
    · rintro (⟨h1, h2⟩ | e)
      · exact ⟨h1, by rw [h2]; rfl⟩
      · have e2 : codeF F i = codeF F j := by unfold codeF; rw [e]
        rw [e2]
        exact ⟨hcn, by simp⟩
    · rintro ⟨h1, h2⟩
      by_cases e : codeF F i = codeF F j
      · exact .inr (code_inj hok hi hj e)
      · refine .inl ⟨h1, ?_⟩
        rw [decide_eq_false e] at h2
        simpa using h2
theorem VisOk.congr {Vs : List Vis} {P Q : Int → Prop} (h : VisOk F Vs P) (hpq : ∀ t, P t ↔ Q t) : VisOk F Vs Q :=
  ⟨h.span, fun v hv t h1 h2 => (hpq t).1 (h.inP v hv t h1 h2), h.ord, h.rows, fun t r hq => h.cover t r ((hpq t).2 hq)⟩
/-- The times ahead of all events from the place k on. -/
def Bef (F : List Fct) (L : List EvA) (k : Nat) (t : Int) : Prop := ∀ x ∈ L.drop k, t < evt F x
theorem bef39_lt (h : EvOk F L) {k : Nat} (hk : k < L.length) (t : Int) : Bef F L k t ↔ t < evt F L[k] := by
  unfold Bef
  rw [List.drop_eq_getElem_cons hk]
  constructor
  · exact fun hx => hx _ (List.mem_cons_self ..)
  · intro hx x hm
    rcases List.mem_cons.1 hm with e | e
    · rw [e]; exact hx
    · have := (h.ahead hk).2 x e
      omega
theorem cnt_gap (h : EvOk F L) {k : Nat} {T : Int} (hg : Gap F L k T) (i : Nat) : cntS F (L.take k) (codeF F i) ≠ 0 ↔ ∃ j, j < F.length ∧ codeF F j = codeF F i ∧ (fc F j).2.1 ≤ T ∧ T < (fc F j).2.2 := by
  rw [← Nat.pos_iff_ne_zero, cnt_pos]
  constructor
  · rintro ⟨j, hj, ho⟩
    rw [opn_gap h hg hj] at ho
    simp only [Bool.and_eq_true, decide_eq_true_eq] at ho
    exact ⟨j, hj, ho.1.1, ho.1.2, ho.2⟩
  · rintro ⟨j, hj, a, b, c⟩
    refine ⟨j, hj, ?_⟩
    rw [opn_gap h hg hj, decide_eq_true a, decide_eq_true b, decide_eq_true c]
    rfl
theorem cnt_act (h : EvOk F L) (hok : OkF F) {k : Nat} {T : Int} (hg : Gap F L k T) {i : Nat} (hi : i < F.length) : cntS F (L.take k) (codeF F i) ≠ 0 ↔ actF F (fc F i).1 T := by
  rw [cnt_gap h hg]
  constructor
  · rintro ⟨j, hj, a, b, c⟩
    exact ⟨_, fc_mem hj, code_inj hok hj hi a, b, c⟩
  · rintro ⟨f, hf, e, b, c⟩
    obtain ⟨j, hj, rfl⟩ := List.getElem_of_mem hf
    rw [fc_at hj] at e b c
    refine ⟨j, hj, ?_, b, c⟩
    unfold codeF
    rw [e]
/-- The visit at a gap. -/
theorem visit_ok (h : EvOk F L) (hok : OkF F) {k : Nat} {T : Int} (hg : Gap F L k T) (hk : k < L.length) (hT : Tm F T) {Vs : List Vis} (hV : VisOk F Vs (· < T)) {R : List VRow} {todo : ByteArray → Bool} (hR : RowsOf F (L.take k) R todo) (hd : ∀ i, i < F.length → todo (codeF F i) = false) (hne : ∃ i, i < F.length ∧ cntS F (L.take k) (codeF F i) ≠ 0) :
    VisOk F (Vs ++ [((T, evt F L[k]), R)]) (Bef F L k) := by
  have hmem : L[k] ∈ L.drop k := by rw [List.drop_eq_getElem_cons hk]; exact List.mem_cons_self ..
  have hlt := hg.hi _ hmem
  have hbf := bef39_lt h hk
  have hdrop : ∀ x ∈ L.drop k, evt F L[k] ≤ evt F x := fun x hx => by
    rw [List.drop_eq_getElem_cons hk] at hx
    rcases List.mem_cons.1 hx with e | e
    · rw [e]; omega
    · exact (h.ahead hk).2 x e
  have hrows : ∀ t, T ≤ t → t < evt F L[k] → ∀ r, r ∈ R ↔ actF F r t := fun t h1 h2 r => by
    rw [act_still h hg h1 (fun x hx => by have := hdrop x hx; omega) r]
    constructor
    · intro hr
      obtain ⟨i, hi, rfl⟩ := hR.from_ r hr
      exact (cnt_act h hok hg hi).1 ((hR.iff i hi).1 hr).1
    · intro ha
      obtain ⟨f, hf, e, h3⟩ := ha
      obtain ⟨i, hi, rfl⟩ := List.getElem_of_mem hf
      rw [fc_at hi] at e hf h3
      subst e
      exact (hR.iff i hi).2 ⟨(cnt_act h hok hg hi).2 ⟨_, hf, rfl, h3⟩, hd i hi⟩
  have hTm : Tm F (evt F L[k]) := by
    have hm : L[k].1 < F.length := h.mem.1 (List.getElem_mem hk)
    refine ⟨_, fc_mem hm, ?_⟩
    unfold evt
    split
    · exact .inl rfl
    · exact .inr rfl
  refine ⟨?_, ?_, ?_, ?_, ?_⟩
  · intro v hv
    rcases List.mem_append.1 hv with e | e
    · exact hV.span v e
    · rw [List.mem_singleton] at e
      subst e
      exact ⟨hlt, hT, hTm⟩
  · intro v hv t h1 h2
    rw [hbf]
    rcases List.mem_append.1 hv with e | e
    · have := hV.inP v e t h1 h2
      omega
    · rw [List.mem_singleton] at e
      subst e
      exact h2
  · rw [List.pairwise_append]
    refine ⟨hV.ord, List.pairwise_singleton _ _, fun v hv x hx => ?_⟩
    rw [List.mem_singleton] at hx
    subst hx
    have h1 := (hV.span v hv).1
    have := hV.inP v hv (v.1.2 - 1) (by omega) (by omega)
    show v.1.2 ≤ T
    omega
  · intro v hv
    rcases List.mem_append.1 hv with e | e
    · exact hV.rows v e
    · rw [List.mem_singleton] at e
      subst e
      refine ⟨hR.nd, ?_, hrows⟩
      obtain ⟨i, hi, hc⟩ := hne
      have := (hR.iff i hi).2 ⟨hc, hd i hi⟩
      exact List.ne_nil_of_mem this
  · intro t r hp ha
    rw [hbf] at hp
    by_cases ht : t < T
    · obtain ⟨v, hv, h1⟩ := hV.cover t r ht ha
      exact ⟨v, List.mem_append_left _ hv, h1⟩
    · exact ⟨_, List.mem_append_right _ (List.mem_singleton.2 rfl), by simp only; omega, hp⟩
/-- No visit at a gap: nothing holds there. -/
theorem novisit_ok (h : EvOk F L) (hok : OkF F) {k : Nat} {T : Int} (hg : Gap F L k T) {Vs : List Vis} (hV : VisOk F Vs (· < T)) (hz : ∀ i, i < F.length → cntS F (L.take k) (codeF F i) = 0) : VisOk F Vs (Bef F L k) := by
  refine ⟨hV.span, fun v hv t h1 h2 => ?_, hV.ord, hV.rows, fun t r hp ha => ?_⟩
  · have := hV.inP v hv t h1 h2
    intro x hx
    have := hg.hi x hx
    omega
  · by_cases ht : t < T
    · exact hV.cover t r ht ha
    · rw [act_still h hg (by omega) hp r] at ha
      obtain ⟨f, hf, e, h3⟩ := ha
      obtain ⟨i, hi, rfl⟩ := List.getElem_of_mem hf
      rw [fc_at hi] at e hf h3
      exact absurd (hz i hi) ((cnt_act h hok hg hi).2 ⟨_, hf, rfl, h3⟩)
theorem VisOk.start (F : List Fct) (L : List EvA) (h : EvOk F L) : VisOk F [] (Bef F L 0) := by
  refine ⟨fun v hv => absurd hv (by simp), fun v hv => absurd hv (by simp), List.Pairwise.nil, fun v hv => absurd hv (by simp), fun t r hp ha => ?_⟩
  obtain ⟨f, hf, e, h1, h2⟩ := ha
  obtain ⟨i, hi, rfl⟩ := List.getElem_of_mem hf
  rw [fc_at hi] at h1
  have := hp (i, true) (by rw [List.drop_zero]; exact h.mem.2 hi)
  unfold evt at this
  simp only [if_true] at this
  omega
/-- All events are behind: nothing is open. -/
theorem cnt_all (h : EvOk F L) (s : ByteArray) : cntS F (L.take L.length) s = 0 := by
  unfold cntS
  rw [List.countP_eq_zero]
  intro i hi
  have := List.mem_range.1 hi
  unfold opn
  have h1 : (i, false) ∈ L := h.mem.2 this
  simp [h1]
/-- A batch: from k0 to k the time is T. -/
structure Batch (F : List Fct) (L : List EvA) (k0 k : Nat) (T : Int) : Prop where
  le : k0 ≤ k ∧ k ≤ L.length
  lo : ∀ x ∈ L.take k, evt F x ≤ T
  at_ : k0 < L.length ∧ evt F (evL k0 L) = T
theorem evL_at {k : Nat} (hk : k < L.length) : evL k L = L[k] := by simp [evL, hk]
theorem Batch.start (h : EvOk F L) {k : Nat} (hk : k < L.length) : Batch F L k k (evt F L[k]) := ⟨⟨Nat.le_refl _, Nat.le_of_lt hk⟩, (h.ahead hk).1, hk, by rw [evL_at hk]⟩
theorem Batch.step {k0 k : Nat} {T : Int} (hb : Batch F L k0 k T) (hk : k < L.length) (he : evt F L[k] = T) : Batch F L k0 (k + 1) T := by
  refine ⟨⟨by have := hb.le; omega, hk⟩, fun x hx => ?_, hb.at_⟩
  rw [take_succE hk] at hx
  rcases List.mem_append.1 hx with e | e
  · exact hb.lo x e
  · rw [List.mem_singleton] at e
    rw [e, he]; omega
theorem Batch.gap (h : EvOk F L) {k0 k : Nat} {T : Int} (hb : Batch F L k0 k T) (hend : k = L.length ∨ ∃ hk : k < L.length, evt F L[k] ≠ T) (hlt : k0 < k) : Gap F L k T := by
  refine ⟨hb.lo, fun x hx => ?_⟩
  rcases hend with e | ⟨hk, hne⟩
  · subst e
    rw [List.drop_length] at hx
    exact absurd hx (by simp)
  · have h1 : evL k0 L ∈ L.take k := by
      rw [evL_at hb.at_.1]
      exact List.mem_take_iff_getElem.2 ⟨k0, by have := hb.at_.1; omega, rfl⟩
    have h2 := (h.ahead hk).1 _ h1
    rw [hb.at_.2] at h2
    rw [List.drop_eq_getElem_cons hk] at hx
    rcases List.mem_cons.1 hx with e | e
    · rw [e]; omega
    · have := (h.ahead hk).2 x e
      omega
theorem evt_tm (h : EvOk F L) {k : Nat} (hk : k < L.length) : Tm F (evt F L[k]) := by
  have hm : L[k].1 < F.length := h.mem.1 (List.getElem_mem hk)
  refine ⟨_, fc_mem hm, ?_⟩
  unfold evt
  split
  · exact .inl rfl
  · exact .inr rfl
end
end Go.Proofs.YtohjgegnamcnlaaGreat
