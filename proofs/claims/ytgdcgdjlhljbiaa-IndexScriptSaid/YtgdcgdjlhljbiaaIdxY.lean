/- Law 42: allen.Holds, index.Related. -/
import Derived.Test.YtgdcgdjlhljbiaaSwM
import Derived.Test.YtgdcgdjlhljbiaaIdxX
namespace Go.Proofs.Ytgdcgdjlhljbiaa
open Go.RowKit Go.Shelf

def setB (set : Int) : Bool := decide (0 ≤ set) && decide (set ≤ 8191)
theorem aisSet_c (set : Int) (w : World) : Calls Try.prog 76 #[.int .i64 set] w (Ret w (.bool (setB set))) := by
  unfold setB
  by_cases h0 : 0 ≤ set
  · have c0 : decide (0 ≤ set) = true := decide_eq_true h0
    by_cases h1 : set ≤ 8191
    · have c1 : decide (set ≤ 8191) = true := decide_eq_true h1
      rw [c0, c1]
      clear h0 h1
      go_enter Try.func76, Try.ntmps76
      go_wp2_with fail
      go_ret
      exact ⟨rfl, Below.refl _ _⟩
    · have c1 : decide (set ≤ 8191) = false := decide_eq_false h1
      rw [c0, c1]
      clear h0 h1
      go_enter Try.func76, Try.ntmps76
      go_wp2_with fail
      go_ret
      exact ⟨rfl, Below.refl _ _⟩
  · have c0 : decide (0 ≤ set) = false := decide_eq_false h0
    rw [c0]
    clear h0
    go_enter Try.func76, Try.ntmps76
    go_wp2_with fail
    go_ret
    exact ⟨rfl, Below.refl _ _⟩
def holdsB (set p q r s : Int) : Bool := setB set && bitB set (ofI (p, q) (r, s))
set_option maxRecDepth 100000 in
theorem aHolds_c (set p q r s : Int) (w : World) (ho : okSpan (p, q) = true) (ho' : okSpan (r, s) = true) :
    Calls Try.prog 62 #[.int .i64 set, .agg #[.int .i64 p, .int .i64 q], .agg #[.int .i64 r, .int .i64 s]] w (Ret w (.bool (holdsB set p q r s))) := by
  have KK := Lib.hid (fun W => ivOf_c p q r s W ho ho')
  have KS := Lib.hid (fun W => aisSet_c set W)
  have k1 := fun W => ivValid_c p q W
  have k2 := fun W => ivValid_c r s W
  rw [ho] at k1
  rw [ho'] at k2
  have K1 := Lib.hid k1; have K2 := Lib.hid k2
  clear k1 k2
  obtain ⟨hk0, hk1⟩ := ofI_bd (p, q) (r, s)
  unfold holdsB
  generalize ofI (p, q) (r, s) = k at *
  have hB0 := ((Below.refl w.heap.size w).alloc (Nat.le_refl _) (.cells #[.int .i64 p, .int .i64 q] 33)).alloc (by simp) (.cells #[.int .i64 r, .int .i64 s] 33)
  have x0 : ((w.alloc (.cells #[.int .i64 p, .int .i64 q] 33)).alloc (.cells #[.int .i64 r, .int .i64 s] 33)).cell? ⟨w.heap.size, 0, none⟩ = some (.int .i64 p) := by simp
  have x1 : ((w.alloc (.cells #[.int .i64 p, .int .i64 q] 33)).alloc (.cells #[.int .i64 r, .int .i64 s] 33)).cell? ⟨w.heap.size, 1, none⟩ = some (.int .i64 q) := by simp
  have x2 : ((w.alloc (.cells #[.int .i64 p, .int .i64 q] 33)).alloc (.cells #[.int .i64 r, .int .i64 s] 33)).cell? ⟨w.heap.size + 1, 0, none⟩ = some (.int .i64 r) := by simp
  have x3 : ((w.alloc (.cells #[.int .i64 p, .int .i64 q] 33)).alloc (.cells #[.int .i64 r, .int .i64 s] 33)).cell? ⟨w.heap.size + 1, 1, none⟩ = some (.int .i64 s) := by simp
  have hz : w.heap.size + 1 < ((w.alloc (.cells #[.int .i64 p, .int .i64 q] 33)).alloc (.cells #[.int .i64 r, .int .i64 s] 33)).heap.size := by simp
  cases hset : setB set
  · rw [hset] at KS
    rw [Bool.false_and]
    have HB0 := Lib.hid hB0
    clear hB0 hset ho ho'
    go_enter Try.func62, Try.ntmps62
    go_wp2_with fail
    generalize (w.alloc (.cells #[.int .i64 p, .int .i64 q] 33)).alloc (.cells #[.int .i64 r, .int .i64 s] 33) = w0 at *
    refine (KK.out _).mono ?_
    rintro e w2 ⟨rfl, hb2⟩
    go_wp2_with (go_at_call 76; (with_reducible refine (KS.out _).mono ?_); rintro e w3 ⟨rfl, hb3⟩)
    go_ret
    have hb02 := HB0.out.trans (hb2.mono HB0.out.size)
    exact ⟨rfl, hb02.trans (hb3.mono hb02.size)⟩
  · rw [hset] at KS
    rw [Bool.true_and]
    obtain ⟨b, hb⟩ : ∃ b, b = bitB set k := ⟨_, rfl⟩
    rw [← hb]
    have Hb := Lib.hid hb
    have HB0 := Lib.hid hB0
    have hk9 : decide (0 ≤ k) = true := decide_eq_true hk0
    clear hB0 hset ho ho' hb
    go_enter Try.func62, Try.ntmps62
    go_wp2_with fail
    generalize (w.alloc (.cells #[.int .i64 p, .int .i64 q] 33)).alloc (.cells #[.int .i64 r, .int .i64 s] 33) = w0 at *
    refine (KK.out _).mono ?_
    rintro e w2 ⟨rfl, hb2⟩
    have x0 := (hb2.cell (p := ⟨w.heap.size, 0, none⟩) (Nat.lt_of_succ_lt hz)).trans x0
    have x1 := (hb2.cell (p := ⟨w.heap.size, 1, none⟩) (Nat.lt_of_succ_lt hz)).trans x1
    have x2 := (hb2.cell (p := ⟨w.heap.size + 1, 0, none⟩) hz).trans x2
    have x3 := (hb2.cell (p := ⟨w.heap.size + 1, 1, none⟩) hz).trans x3
    have hz := Nat.lt_of_lt_of_le hz hb2.size
    go_wp2_with (first
      | (go_at_call 36; (with_reducible refine (K2.out _).mono ?_); rintro e w5 ⟨rfl, hb5⟩)
      | (go_at_call 36; (with_reducible refine (K1.out _).mono ?_); rintro e w4 ⟨rfl, hb4⟩; have x2 := (hb4.cell (p := ⟨w.heap.size + 1, 0, none⟩) (Nat.lt_of_lt_of_le hz hb3.size)).trans x2; have x3 := (hb4.cell (p := ⟨w.heap.size + 1, 1, none⟩) (Nat.lt_of_lt_of_le hz hb3.size)).trans x3)
      | (go_at_call 76; (with_reducible refine (KS.out _).mono ?_); rintro e w3 ⟨rfl, hb3⟩; have x0 := (hb3.cell (p := ⟨w.heap.size, 0, none⟩) (Nat.lt_of_succ_lt hz)).trans x0; have x1 := (hb3.cell (p := ⟨w.heap.size, 1, none⟩) (Nat.lt_of_succ_lt hz)).trans x1; have x2 := (hb3.cell (p := ⟨w.heap.size + 1, 0, none⟩) hz).trans x2; have x3 := (hb3.cell (p := ⟨w.heap.size + 1, 1, none⟩) hz).trans x3)
      | fail)
    go_ret
    have hb02 := HB0.out.trans (hb2.mono HB0.out.size)
    have hb03 := hb02.trans (hb3.mono hb02.size)
    have hb04 := hb03.trans (hb4.mono hb03.size)
    exact ⟨ret_bool Hb.out.symm, hb04.trans (hb5.mono hb04.size)⟩
end Go.Proofs.Ytgdcgdjlhljbiaa
