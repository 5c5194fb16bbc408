/- Law 39: sums of 128 bits. -/
import Derived.Lib.Mul64
import Derived.Laws.Bits64b
import Derived.Shelf.Spec.BitsCarry
import Derived.Test.YtohjgegnamcnlaaGreatAgE
namespace Go.Proofs.YtohjgegnamcnlaaGreat
open Go.RowKit Go.Shelf Go.Lib

theorem maskN47 (a : Nat) (ha : a < 18446744073709551616) : bits .and .u64 (a : Int) 4294967295 = ((a % 4294967296 : Nat) : Int) := by
  have h := bits_and_u64_nat a 4294967295 ha (by omega)
  have e : a &&& 4294967295 = a % 4294967296 := Nat.and_two_pow_sub_one_eq_mod a 32
  rw [e] at h
  exact h
theorem divN47 (a : Nat) : (a : Int) / 4294967296 = ((a / 4294967296 : Nat) : Int) := by omega
theorem mulN47 (a b : Nat) : (a : Int) * (b : Int) = ((a * b : Nat) : Int) := (Int.natCast_mul a b).symm
theorem addN47 (a b : Nat) : (a : Int) + (b : Int) = ((a + b : Nat) : Int) := (Int.natCast_add a b).symm
theorem wrapN47 (a : Nat) (ha : a < 18446744073709551616) : IntKind.u64.wrap (a : Int) = (a : Int) := by rw [IntKind.wrap_u64]; omega
theorem wrapM47 (a : Nat) : IntKind.u64.wrap (a : Int) = ((a % 18446744073709551616 : Nat) : Int) := by rw [IntKind.wrap_u64]; omega
set_option maxHeartbeats 1000000 in
theorem mul64_c (x y : Nat) (hx : x < 18446744073709551616) (hy : y < 18446744073709551616) (w : World) :
    Calls Tryz.prog 81 #[.int .u64 x, .int .u64 y] w fun e w' => e = .returned (.tuple #[.int .u64 ((x * y / 18446744073709551616 : Nat) : Int), .int .u64 ((x * y % 18446744073709551616 : Nat) : Int)]) ∧ w' = w := by
  obtain ⟨bd, bt, bw, hhi⟩ := Lib.mul64_hi x y hx hy
  have ba := Lib.half_mul_le (a := x / 4294967296) (b := y / 4294967296) (by omega) (by omega)
  have bb := Lib.half_mul_le (a := x / 4294967296) (b := y % 4294967296) (by omega) (by omega)
  have bc := Lib.half_mul_le (a := x % 4294967296) (b := y / 4294967296) (by omega) (by omega)
  have ba' : x / 4294967296 * (y / 4294967296) < 18446744073709551616 := by omega
  have bb' : x / 4294967296 * (y % 4294967296) < 18446744073709551616 := by omega
  have bc' : x % 4294967296 * (y / 4294967296) < 18446744073709551616 := by omega
  have bh1 : x / 4294967296 * (y / 4294967296) + (x / 4294967296 * (y % 4294967296) + x % 4294967296 * (y % 4294967296) / 4294967296) / 4294967296 < 18446744073709551616 := by omega
  have bh : x / 4294967296 * (y / 4294967296) + (x / 4294967296 * (y % 4294967296) + x % 4294967296 * (y % 4294967296) / 4294967296) / 4294967296 + ((x / 4294967296 * (y % 4294967296) + x % 4294967296 * (y % 4294967296) / 4294967296) % 4294967296 + x % 4294967296 * (y / 4294967296)) / 4294967296 < 18446744073709551616 := by omega
  go_enter Tryz.func81, Tryz.ntmps81
  go_wp2
  simp only [maskN47 x hx, maskN47 y hy, divN47, mulN47, addN47, wrapN47 _ bd, wrapN47 _ bb', wrapN47 _ bt, maskN47 _ bt, wrapN47 _ bc', wrapN47 _ bw, wrapN47 _ ba', wrapN47 _ bh1, wrapN47 _ bh, wrapM47 (x * y)]
  rw [hhi]
  go_ret2
  exact ⟨rfl, rfl⟩
theorem add64_run (x y c : Nat) (hc : c ≤ 1) (w : World) : (callFunc 82 #[.int .u64 x, .int .u64 y, .int .u64 c]).run Tryz.prog w = .ok (.value (.tuple #[.int .u64 (((x + y + c) % 18446744073709551616 : Nat) : Int), .int .u64 (((x + y + c) / 18446744073709551616 : Nat) : Int)])) w := by
  rw [run_callFunc_extern Tryz.func82 (by kernel_rfl) (by kernel_rfl) (by kernel_rfl) (e := add64Entry) (by kernel_rfl), run_add64 x y c (by omega) (by omega) (by omega) (by omega)]
  simp only [Result.andThen]
  congr 5 <;> omega
theorem sub64_run (x y b : Nat) (hb : b ≤ 1) (w : World) : (callFunc 83 #[.int .u64 x, .int .u64 y, .int .u64 b]).run Tryz.prog w = .ok (.value (.tuple #[.int .u64 (((x + 18446744073709551616 - y - b) % 18446744073709551616 : Nat) : Int), .int .u64 ((if x < y + b then 1 else 0 : Nat) : Int)])) w := by
  rw [run_callFunc_extern Tryz.func83 (by kernel_rfl) (by kernel_rfl) (by kernel_rfl) (e := sub64Entry) (by kernel_rfl), run_sub64 x y b hb]
  rfl
/-- Nothing but the block q has turned. -/
structure On (q : Nat) (w w' : World) : Prop where
  bel : Below q w w'
  oth : ∀ b, b < w.heap.size → b ≠ q → w'.heap[b]? = w.heap[b]?
theorem On.refl {q : Nat} {w : World} : On q w w := ⟨Below.refl _ _, fun _ _ _ => rfl⟩
theorem On.trans {q : Nat} {w w' w2 : World} (h : On q w w') (h2 : On q w' w2) : On q w w2 := ⟨h.bel.trans h2.bel, fun b hb hg => (h2.oth b (Nat.lt_of_lt_of_le hb h.bel.size) hg).trans (h.oth b hb hg)⟩
theorem On.set {q : Nat} {w w' : World} (h : On q w w') (j : Nat) (v : Value) : On q w (w'.setCell ⟨q, j, none⟩ v) :=
  ⟨h.bel.setCell (Nat.le_refl q) _, fun b hb hg => (Below.heap_setCell w' ⟨q, j, none⟩ v b hg).trans (h.oth b hb hg)⟩
theorem On.below {q base : Nat} {w w' : World} (h : On q w w') (hb : base ≤ q) : Below base w w' := h.bel.mono hb
/-- A sum in its block. -/
def SumAt (w : World) (q S : Nat) : Prop := w.heap[q]? = some (.cells #[.int .u64 ((S / 18446744073709551616 : Nat) : Int), .int .u64 ((S % 18446744073709551616 : Nat) : Int)] 85 (0, 0))
def addS (n t : Int) : Nat := if (decide (n < 0) == decide (0 < t)) || decide (n = 0) then 0 else n.natAbs * t.natAbs
def SumRet (q S : Nat) (w : World) (e : Ending) (w' : World) : Prop := e = .returned (.tuple #[]) ∧ SumAt w' q S ∧ On q w w'
theorem SumAt.set {w : World} {q S T : Nat} (h : SumAt w q S) : SumAt ((w.setCell ⟨q, 1, none⟩ (.int .u64 ((T % 18446744073709551616 : Nat) : Int))).setCell ⟨q, 0, none⟩ (.int .u64 ((T / 18446744073709551616 : Nat) : Int))) q T := by
  unfold SumAt at *
  rw [blk_set (blk_set h 1 _) 0 _]
  rfl
set_option maxRecDepth 100000 in
set_option maxHeartbeats 2000000 in
theorem sumadd_pos (q S a b : Nat) (w : World) (h : SumAt w q S) (ha : 1 ≤ a) (ha2 : a ≤ 9223372036854775807) (hb : 1 ≤ b) (hb2 : b ≤ 9223372036854775807)
    (hmax : S + a * b < 340282366920938463463374607431768211456) : Calls Tryz.prog 51 #[.pointer (some ⟨q, 0, none⟩), .int .i64 a, .int .i64 b] w (SumRet q (S + a * b) w) := by
  have K := Lib.hid fun W => mul64_c a b (by omega) (by omega) W
  obtain ⟨m, hm⟩ : ∃ m, m = a * b := ⟨_, rfl⟩
  rw [← hm] at K hmax ⊢
  have T := h
  unfold SumAt at T
  have c0 : w.cell? ⟨q, 0, none⟩ = some (.int .u64 ((S / 18446744073709551616 : Nat) : Int)) := (blk_get T 0).trans rfl
  have c1 : w.cell? ⟨q, 1, none⟩ = some (.int .u64 ((S % 18446744073709551616 : Nat) : Int)) := (blk_get T 1).trans rfl
  have f0 := blk_soft T 0
  have f1 := blk_soft T 1
  have hq := blk_lt T
  have H := Lib.hid (SumAt.set h (T := S + m))
  have A1 : ∀ W, (callFunc 82 #[.int .u64 ((S % 18446744073709551616 : Nat) : Int), .int .u64 ((m % 18446744073709551616 : Nat) : Int), .int .u64 0]).run Tryz.prog W = _ := fun W => add64_run (S % 18446744073709551616) (m % 18446744073709551616) 0 (by omega) W
  obtain ⟨cy, hcy⟩ : ∃ c, c = (S % 18446744073709551616 + m % 18446744073709551616 + 0) / 18446744073709551616 := ⟨_, rfl⟩
  rw [← hcy] at A1
  have A2 := fun W => add64_run (S / 18446744073709551616) (m / 18446744073709551616) cy (by omega) W
  have e0 : (S % 18446744073709551616 + m % 18446744073709551616 + 0) % 18446744073709551616 = (S + m) % 18446744073709551616 := by omega
  have e1 : (S / 18446744073709551616 + m / 18446744073709551616 + cy) % 18446744073709551616 = (S + m) / 18446744073709551616 := by omega
  rw [e0] at A1
  rw [e1] at A2
  clear hcy e0 e1 hm T
  generalize (S / 18446744073709551616 + m / 18446744073709551616 + cy) / 18446744073709551616 = junk at A2
  generalize m / 18446744073709551616 = mh at *
  generalize m % 18446744073709551616 = ml at *
  generalize (S + m) / 18446744073709551616 = th at *
  generalize (S + m) % 18446744073709551616 = tl at *
  generalize S / 18446744073709551616 = sh at *
  generalize S % 18446744073709551616 = sl at *
  have g0 : decide ((a : Int) < 0) = false := decide_eq_false (by omega)
  have g1 : decide (0 < (b : Int)) = true := decide_eq_true (by omega)
  have g2 : ((a : Int) == 0) = false := by rw [beq_eq_false_iff_ne]; omega
  have w1 : IntKind.u64.wrap (a : Int) = (a : Int) := by rw [IntKind.wrap_u64]; omega
  have w2 : IntKind.u64.wrap (b : Int) = (b : Int) := by rw [IntKind.wrap_u64]; omega
  clear h
  go_enter Tryz.func51, Tryz.ntmps51
  go_wp2_with (go_at_call 81; refine (K.out _).mono ?_; rintro e W ⟨rfl, rfl⟩)
  go_end0
  exact ⟨rfl, H.out, (On.refl.set 1 _).set 0 _⟩
set_option maxRecDepth 100000 in
set_option maxHeartbeats 2000000 in
theorem sumadd_neg (q S a b : Nat) (n t : Int) (hna : n = -(a : Int)) (htb : t = -(b : Int)) (w : World) (h : SumAt w q S) (ha : 1 ≤ a) (ha2 : a ≤ 9223372036854775808) (hb : 1 ≤ b) (hb2 : b ≤ 9223372036854775807)
    (hmax : S + a * b < 340282366920938463463374607431768211456) : Calls Tryz.prog 51 #[.pointer (some ⟨q, 0, none⟩), .int .i64 n, .int .i64 t] w (SumRet q (S + a * b) w) := by
  have K := Lib.hid fun W => mul64_c a b (by omega) (by omega) W
  obtain ⟨m, hm⟩ : ∃ m, m = a * b := ⟨_, rfl⟩
  rw [← hm] at K hmax ⊢
  have T := h
  unfold SumAt at T
  have c0 : w.cell? ⟨q, 0, none⟩ = some (.int .u64 ((S / 18446744073709551616 : Nat) : Int)) := (blk_get T 0).trans rfl
  have c1 : w.cell? ⟨q, 1, none⟩ = some (.int .u64 ((S % 18446744073709551616 : Nat) : Int)) := (blk_get T 1).trans rfl
  have f0 := blk_soft T 0
  have f1 := blk_soft T 1
  have hq := blk_lt T
  have H := Lib.hid (SumAt.set h (T := S + m))
  have A1 : ∀ W, (callFunc 82 #[.int .u64 ((S % 18446744073709551616 : Nat) : Int), .int .u64 ((m % 18446744073709551616 : Nat) : Int), .int .u64 0]).run Tryz.prog W = _ := fun W => add64_run (S % 18446744073709551616) (m % 18446744073709551616) 0 (by omega) W
  obtain ⟨cy, hcy⟩ : ∃ c, c = (S % 18446744073709551616 + m % 18446744073709551616 + 0) / 18446744073709551616 := ⟨_, rfl⟩
  rw [← hcy] at A1
  have A2 := fun W => add64_run (S / 18446744073709551616) (m / 18446744073709551616) cy (by omega) W
  have e0 : (S % 18446744073709551616 + m % 18446744073709551616 + 0) % 18446744073709551616 = (S + m) % 18446744073709551616 := by omega
  have e1 : (S / 18446744073709551616 + m / 18446744073709551616 + cy) % 18446744073709551616 = (S + m) / 18446744073709551616 := by omega
  rw [e0] at A1
  rw [e1] at A2
  clear hcy e0 e1 hm T
  generalize (S / 18446744073709551616 + m / 18446744073709551616 + cy) / 18446744073709551616 = junk at A2
  generalize m / 18446744073709551616 = mh at *
  generalize m % 18446744073709551616 = ml at *
  generalize (S + m) / 18446744073709551616 = th at *
  generalize (S + m) % 18446744073709551616 = tl at *
  generalize S / 18446744073709551616 = sh at *
  generalize S % 18446744073709551616 = sl at *
  have g0 : decide (n < 0) = true := decide_eq_true (by omega)
  have g1 : decide (0 < t) = false := decide_eq_false (by omega)
  have g2 : (n == 0) = false := by rw [beq_eq_false_iff_ne]; omega
  obtain ⟨x, hx⟩ : ∃ x : Nat, x = 18446744073709551616 - a := ⟨_, rfl⟩
  obtain ⟨y, hy⟩ : ∃ y : Nat, y = 18446744073709551616 - b := ⟨_, rfl⟩
  have w1 : IntKind.u64.wrap (n) = (x : Int) := by rw [IntKind.wrap_u64]; omega
  have w2 : IntKind.u64.wrap (t) = (y : Int) := by rw [IntKind.wrap_u64]; omega
  have w3 : IntKind.u64.wrap (-(x : Int)) = (a : Int) := by rw [IntKind.wrap_u64]; omega
  have w4 : IntKind.u64.wrap (-(y : Int)) = (b : Int) := by rw [IntKind.wrap_u64]; omega
  clear hx hy hna htb
  clear h
  go_enter Tryz.func51, Tryz.ntmps51
  go_wp2_with (go_at_call 81; refine (K.out _).mono ?_; rintro e W ⟨rfl, rfl⟩)
  go_end0
  exact ⟨rfl, H.out, (On.refl.set 1 _).set 0 _⟩
theorem sumadd_skip (q : Nat) (n t : Int) (w : World) (h : (decide (n < 0) == decide (0 < t)) = true ∨ n = 0) : Calls Tryz.prog 51 #[.pointer (some ⟨q, 0, none⟩), .int .i64 n, .int .i64 t] w (fun e w' => e = .returned (.tuple #[]) ∧ w' = w) := by
  cases g0 : decide (n < 0) <;> cases g1 : decide (0 < t)
  · go_enter Tryz.func51, Tryz.ntmps51
    go_wp2_with fail
    (try simp only [Exit.inBlock, Exit.then])
    refine bodyPost_ret (results_none rfl _ _ _) rfl ?_
    exact ⟨rfl, rfl⟩
  · rw [g0, g1] at h
    obtain rfl : n = 0 := h.resolve_left (by decide)
    go_enter Tryz.func51, Tryz.ntmps51
    go_wp2_with fail
    (try simp only [Exit.inBlock, Exit.then])
    refine bodyPost_ret (results_none rfl _ _ _) rfl ?_
    exact ⟨rfl, rfl⟩
  · rw [g0, g1] at h
    obtain rfl : n = 0 := h.resolve_left (by decide)
    exact absurd g0 (by decide)
  · go_enter Tryz.func51, Tryz.ntmps51
    go_wp2_with fail
    (try simp only [Exit.inBlock, Exit.then])
    refine bodyPost_ret (results_none rfl _ _ _) rfl ?_
    exact ⟨rfl, rfl⟩
theorem sumadd_c (q S : Nat) (n t : Int) (w : World) (h : SumAt w q S) (hn : -9223372036854775808 ≤ n ∧ n ≤ 9223372036854775807) (ht : -9223372036854775807 ≤ t ∧ t ≤ 9223372036854775807)
    (hmax : S + addS n t < 340282366920938463463374607431768211456) (ht0 : t ≠ 0) : Calls Tryz.prog 51 #[.pointer (some ⟨q, 0, none⟩), .int .i64 n, .int .i64 t] w (SumRet q (S + addS n t) w) := by
  unfold addS at *
  by_cases hc : (decide (n < 0) == decide (0 < t)) = true ∨ n = 0
  · have hz : ((decide (n < 0) == decide (0 < t)) || decide (n = 0)) = true := by
      rcases hc with e | e
      · rw [e]; rfl
      · rw [e]; simp
    rw [if_pos hz] at *
    refine (sumadd_skip q n t w hc).mono ?_
    rintro e w' ⟨rfl, rfl⟩
    exact ⟨rfl, h, On.refl⟩
  · have h1 : (decide (n < 0) == decide (0 < t)) = false := by
      cases q : (decide (n < 0) == decide (0 < t))
      · rfl
      · exact absurd (.inl q) hc
    have h2 : n ≠ 0 := fun e => hc (.inr e)
    rw [if_neg (by rw [h1]; simp [h2])] at *
    rcases Int.lt_or_lt_of_ne h2 with hl | hl
    · have hl2 : t < 0 := by
        rw [decide_eq_true hl] at h1
        have : decide (0 < t) = false := by cases q : decide (0 < t) <;> simp_all
        have := of_decide_eq_false this
        omega
      exact sumadd_neg q S n.natAbs t.natAbs n t (by omega) (by omega) w h (by omega) (by omega) (by omega) (by omega) hmax
    · have hl2 : 0 < t := by
        rw [decide_eq_false (by omega : ¬ n < 0)] at h1
        have : decide (0 < t) = true := by cases q : decide (0 < t) <;> simp_all
        exact of_decide_eq_true this
      have k := sumadd_pos q S n.natAbs t.natAbs w h (by omega) (by omega) (by omega) (by omega) hmax
      rw [show ((n.natAbs : Nat) : Int) = n by omega, show ((t.natAbs : Nat) : Int) = t by omega] at k
      exact k
def lessS (S T : Nat) : Int × Int := if -9223372036854775808 ≤ (S : Int) - T ∧ (S : Int) - T ≤ 9223372036854775807 then ((S : Int) - T, 0) else (0, 9)
theorem pick_less (S T : Nat) (hS : S < 340282366920938463463374607431768211456) (hT : T < 340282366920938463463374607431768211456) (lo b1 hi b2 : Nat)
    (h1 : lo = (S % 18446744073709551616 + 18446744073709551616 - T % 18446744073709551616 - 0) % 18446744073709551616) (h2 : b1 = if S % 18446744073709551616 < T % 18446744073709551616 + 0 then 1 else 0)
    (h3 : hi = (S / 18446744073709551616 + 18446744073709551616 - T / 18446744073709551616 - b1) % 18446744073709551616) (h4 : b2 = if S / 18446744073709551616 < T / 18446744073709551616 + b1 then 1 else 0) :
    lessS S T = if (b2 = 0 ∧ hi = 0 ∧ lo < 9223372036854775808) ∨ (b2 = 1 ∧ hi = 18446744073709551615 ∧ 9223372036854775808 ≤ lo) then (IntKind.i64.wrap (lo : Int), 0) else (0, 9) := by
  unfold lessS
  rw [IntKind.wrap_i64]
  by_cases q1 : S % 18446744073709551616 < T % 18446744073709551616 + 0
  · rw [if_pos q1] at h2
    by_cases q2 : S / 18446744073709551616 < T / 18446744073709551616 + b1
    · rw [if_pos q2] at h4
      split
      · rw [if_pos (by omega)]
        refine Prod.ext ?_ rfl
        show (S : Int) - T = _
        omega
      · rw [if_neg (by omega)]
    · rw [if_neg q2] at h4
      split
      · rw [if_pos (by omega)]
        refine Prod.ext ?_ rfl
        show (S : Int) - T = _
        omega
      · rw [if_neg (by omega)]
  · rw [if_neg q1] at h2
    by_cases q2 : S / 18446744073709551616 < T / 18446744073709551616 + b1
    · rw [if_pos q2] at h4
      split
      · rw [if_pos (by omega)]
        refine Prod.ext ?_ rfl
        show (S : Int) - T = _
        omega
      · rw [if_neg (by omega)]
    · rw [if_neg q2] at h4
      split
      · rw [if_pos (by omega)]
        refine Prod.ext ?_ rfl
        show (S : Int) - T = _
        omega
      · rw [if_neg (by omega)]
theorem sumless_c (S T : Nat) (hS : S < 340282366920938463463374607431768211456) (hT : T < 340282366920938463463374607431768211456) (w : World) :
    Calls Tryz.prog 52 #[.agg #[.int .u64 ((S / 18446744073709551616 : Nat) : Int), .int .u64 ((S % 18446744073709551616 : Nat) : Int)], .agg #[.int .u64 ((T / 18446744073709551616 : Nat) : Int), .int .u64 ((T % 18446744073709551616 : Nat) : Int)]] w
      (fun e w' => e = .returned (.tuple #[.int .i64 (lessS S T).1, .int .i64 (lessS S T).2]) ∧ Below w.heap.size w w') := by
  have hL := pick_less S T hS hT _ _ _ _ rfl rfl rfl rfl
  have A1 : ∀ W, (callFunc 83 #[.int .u64 ((S % 18446744073709551616 : Nat) : Int), .int .u64 ((T % 18446744073709551616 : Nat) : Int), .int .u64 0]).run Tryz.prog W = _ := fun W => sub64_run (S % 18446744073709551616) (T % 18446744073709551616) 0 (by omega) W
  have hb1 : (if S % 18446744073709551616 < T % 18446744073709551616 + 0 then 1 else 0) ≤ 1 := by split <;> omega
  have A2 := fun W => sub64_run (S / 18446744073709551616) (T / 18446744073709551616) (if S % 18446744073709551616 < T % 18446744073709551616 + 0 then 1 else 0) hb1 W
  generalize (S % 18446744073709551616 + 18446744073709551616 - T % 18446744073709551616 - 0) % 18446744073709551616 = lo at hL A1
  generalize (if S % 18446744073709551616 < T % 18446744073709551616 + 0 then 1 else 0) = b1 at hL A1 A2 hb1
  have hb2 : (if S / 18446744073709551616 < T / 18446744073709551616 + b1 then 1 else 0) = 0 ∨ (if S / 18446744073709551616 < T / 18446744073709551616 + b1 then 1 else 0) = 1 := by split <;> simp
  generalize (S / 18446744073709551616 + 18446744073709551616 - T / 18446744073709551616 - b1) % 18446744073709551616 = hi at hL A2
  generalize (if S / 18446744073709551616 < T / 18446744073709551616 + b1 then 1 else 0) = b2 at hL A2 hb2
  generalize lessS S T = R at hL ⊢
  generalize S / 18446744073709551616 = s1 at *
  generalize S % 18446744073709551616 = s0 at *
  generalize T / 18446744073709551616 = t1 at *
  generalize T % 18446744073709551616 = t0 at *
  obtain ⟨w1, hw1⟩ : ∃ y, y = w.alloc (.cells #[.int .u64 (s1 : Int), .int .u64 (s0 : Int)] 85) := ⟨_, rfl⟩
  obtain ⟨w2, hw2⟩ : ∃ y, y = w1.alloc (.cells #[.int .u64 (t1 : Int), .int .u64 (t0 : Int)] 85) := ⟨_, rfl⟩
  have hz1 : w1.heap.size = w.heap.size + 1 := by rw [hw1, World.size_alloc]
  have T0 : w2.heap[w.heap.size]? = some (.cells #[.int .u64 (s1 : Int), .int .u64 (s0 : Int)] 85 (0, 0)) := by
    rw [hw2]
    exact (((Below.refl _ _).alloc (Nat.le_refl w1.heap.size) _).block _ (by omega)).trans (by rw [hw1]; exact heap_alloc_new w _)
  have T1 : w2.heap[w.heap.size + 1]? = some (.cells #[.int .u64 (t1 : Int), .int .u64 (t0 : Int)] 85 (0, 0)) := by rw [hw2, ← hz1]; exact heap_alloc_new w1 _
  have hbw : Below w.heap.size w w2 := by
    rw [hw2]
    refine Below.alloc ?_ (by omega) _
    rw [hw1]
    exact (Below.refl _ _).alloc (Nat.le_refl _) _
  have x0 := blk_get T0 0
  have x1 := blk_get T0 1
  have y0 := blk_get T1 0
  have y1 := blk_get T1 1
  simp at x0 x1 y0 y1
  have Hw1 := Lib.hid hw1; have Hw2 := Lib.hid hw2; have Hbw := Lib.hid hbw
  rw [hw2, hw1] at x0 x1 y0 y1
  clear hw1 hw2 T0 T1 hz1 hbw hS hT hb1
  rcases hb2 with rfl | rfl
  · cases q1 : ((hi : Int) == 0)
    · have hR : R = (0, 9) := by
        rw [hL, if_neg]
        intro h
        have : hi ≠ 0 := fun e => by rw [e] at q1; exact absurd q1 (by decide)
        omega
      subst hR
      clear hL
      go_enter Tryz.func52, Tryz.ntmps52
      go_wp2_with (simp only [A1, A2])
      go_ret2
      refine ⟨rfl, ?_⟩
      rw [← Hw1.out, ← Hw2.out]
      exact Hbw.out
    · have hh : hi = 0 := by have := eq_of_beq q1; omega
      cases q2 : decide ((lo : Int) < 9223372036854775808)
      · have hR : R = (0, 9) := by
          rw [hL, if_neg]
          intro h
          have : ¬ (lo : Int) < 9223372036854775808 := of_decide_eq_false q2
          omega
        subst hR
        clear hL
        go_enter Tryz.func52, Tryz.ntmps52
        go_wp2_with (simp only [A1, A2])
        go_ret2
        refine ⟨rfl, ?_⟩
        rw [← Hw1.out, ← Hw2.out]
        exact Hbw.out
      · obtain ⟨z, hz⟩ : ∃ z, IntKind.i64.wrap (lo : Int) = z := ⟨_, rfl⟩
        have hR : R = (z, 0) := by
          rw [hL, if_pos, hz]
          have := of_decide_eq_true q2
          omega
        subst hR
        clear hL
        go_enter Tryz.func52, Tryz.ntmps52
        go_wp2_with (simp only [A1, A2])
        go_ret2
        refine ⟨rfl, ?_⟩
        rw [← Hw1.out, ← Hw2.out]
        exact Hbw.out
  · cases q1 : ((hi : Int) == 18446744073709551615)
    · have hR : R = (0, 9) := by
        rw [hL, if_neg]
        intro h
        have : hi ≠ 18446744073709551615 := fun e => by rw [e] at q1; exact absurd q1 (by decide)
        omega
      subst hR
      clear hL
      go_enter Tryz.func52, Tryz.ntmps52
      go_wp2_with (simp only [A1, A2])
      go_ret2
      refine ⟨rfl, ?_⟩
      rw [← Hw1.out, ← Hw2.out]
      exact Hbw.out
    · have hh : hi = 18446744073709551615 := by have := eq_of_beq q1; omega
      cases q2 : decide ((9223372036854775808 : Int) ≤ (lo : Int))
      · have hR : R = (0, 9) := by
          rw [hL, if_neg]
          intro h
          have : ¬ (9223372036854775808 : Int) ≤ (lo : Int) := of_decide_eq_false q2
          omega
        subst hR
        clear hL
        go_enter Tryz.func52, Tryz.ntmps52
        go_wp2_with (simp only [A1, A2])
        go_ret2
        refine ⟨rfl, ?_⟩
        rw [← Hw1.out, ← Hw2.out]
        exact Hbw.out
      · obtain ⟨z, hz⟩ : ∃ z, IntKind.i64.wrap (lo : Int) = z := ⟨_, rfl⟩
        have hR : R = (z, 0) := by
          rw [hL, if_pos, hz]
          have := of_decide_eq_true q2
          omega
        subst hR
        clear hL
        go_enter Tryz.func52, Tryz.ntmps52
        go_wp2_with (simp only [A1, A2])
        go_ret2
        refine ⟨rfl, ?_⟩
        rw [← Hw1.out, ← Hw2.out]
        exact Hbw.out
end Go.Proofs.YtohjgegnamcnlaaGreat
