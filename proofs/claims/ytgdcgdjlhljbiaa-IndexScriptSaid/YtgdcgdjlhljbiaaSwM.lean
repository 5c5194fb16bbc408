/- Allen's relation of two spans: the walks of interval.Of and of the reference's Of; the conditions of a join. -/
import Derived.Test.YtgdcgdjlhljbiaaPre
namespace Go.Proofs.Ytgdcgdjlhljbiaa
open Go.RowKit Go.Shelf

theorem ivsign_c (x y : Int) (w : World) : Calls Try.prog 91 #[.int .i64 x, .int .i64 y] w (Ret w (.int .i64 (cmpI x y))) := by
  by_cases h1 : x < y
  · have e : cmpI x y = -1 := if_pos h1
    rw [e]; clear e
    go_enter Try.func91, Try.ntmps91
    go_wp2
    go_ret
    exact ⟨rfl, Below.refl _ _⟩
  · by_cases h2 : y < x
    · have e : cmpI x y = 1 := by rw [cmpI, if_neg h1, if_pos h2]
      rw [e]; clear e
      go_enter Try.func91, Try.ntmps91
      go_wp2
      go_ret
      exact ⟨rfl, Below.refl _ _⟩
    · have e : cmpI x y = 0 := by rw [cmpI, if_neg h1, if_neg h2]
      rw [e]; clear e
      go_enter Try.func91, Try.ntmps91
      go_wp2
      go_ret
      exact ⟨rfl, Below.refl _ _⟩
theorem cmpI_cases (x y : Int) : (x < y ∧ cmpI x y = -1) ∨ (x = y ∧ cmpI x y = 0) ∨ (y < x ∧ cmpI x y = 1) := by
  unfold cmpI
  rcases Int.lt_trichotomy x y with h | h | h
  · exact .inl ⟨h, if_pos h⟩
  · exact .inr (.inl ⟨h, by rw [if_neg (by omega), if_neg (by omega)]⟩)
  · exact .inr (.inr ⟨h, by rw [if_neg (by omega), if_pos h]⟩)
/-- The relation of two spans. -/
def ofI (s t : Sp) : Int :=
  if s.2 < t.1 then 0 else if s.2 = t.1 then 1 else if t.2 < s.1 then 12 else if t.2 = s.1 then 11
  else if s.1 < t.1 then (if s.2 < t.2 then 2 else if s.2 = t.2 then 7 else 8)
  else if s.1 = t.1 then (if s.2 < t.2 then 3 else if s.2 = t.2 then 6 else 9)
  else (if s.2 < t.2 then 4 else if s.2 = t.2 then 5 else 10)
theorem ofI_bd (s t : Sp) : 0 ≤ ofI s t ∧ ofI s t ≤ 12 := by
  unfold ofI
  repeat' split
  all_goals omega
/-- Is a relation's bit in a set. -/
def bitB (set k : Int) : Bool := bits BinOp.and IntKind.i64 (set / 2 ^ k.toNat) 1 == 1

set_option maxRecDepth 100000 in
set_option maxHeartbeats 4000000 in
theorem ivOf_c (p q r s : Int) (w : World) (ho : okSpan (p, q) = true) (ho' : okSpan (r, s) = true) : Calls Try.prog 75 #[.agg #[.int .i64 p, .int .i64 q], .agg #[.int .i64 r, .int .i64 s]] w (Ret w (.int .i64 (ofI (p, q) (r, s)))) := by
  have k1 := fun W => ivValid_c p q W
  have k2 := fun W => ivValid_c r s W
  rw [ho] at k1
  rw [ho'] at k2
  have K1 := Lib.hid k1; have K2 := Lib.hid k2
  have ok1 := (okSpan_iff _).1 ho
  have ok2 := (okSpan_iff _).1 ho'
  unfold OkSp at ok1 ok2
  simp only at ok1 ok2
  have s1 := fun W => ivsign_c q r W
  have s2 := fun W => ivsign_c p s W
  have s3 := fun W => ivsign_c p r W
  have s4 := fun W => ivsign_c q s W
  obtain ⟨R, hR⟩ : ∃ R, R = ofI (p, q) (r, s) := ⟨_, rfl⟩
  rw [← hR]
  have start : ∀ P : Prop, P → P := fun _ h => h
  rcases cmpI_cases q r with ⟨h1, e1⟩ | ⟨h1, e1⟩ | ⟨h1, e1⟩
  · have hv : R = 0 := by rw [hR]; unfold ofI; simp only; rw [if_pos h1]
    subst hv
    rw [e1] at s1
    have S1 := Lib.hid s1
    clear k1 k2 s1 s2 s3 s4 e1 h1 hR ho ho' ok1 ok2
    go_enter Try.func75, Try.ntmps75
    go_wp2_with fail
    have hB0 := ((Below.refl w.heap.size w).alloc (Nat.le_refl _) (.cells #[.int .i64 p, .int .i64 q] 33)).alloc (by simp) (.cells #[.int .i64 r, .int .i64 s] 33)
    have x0 : ((w.alloc (.cells #[.int .i64 p, .int .i64 q] 33)).alloc (.cells #[.int .i64 r, .int .i64 s] 33)).cell? ⟨w.heap.size, 0, none⟩ = some (.int .i64 p) := by simp
    have x1 : ((w.alloc (.cells #[.int .i64 p, .int .i64 q] 33)).alloc (.cells #[.int .i64 r, .int .i64 s] 33)).cell? ⟨w.heap.size, 1, none⟩ = some (.int .i64 q) := by simp
    have x2 : ((w.alloc (.cells #[.int .i64 p, .int .i64 q] 33)).alloc (.cells #[.int .i64 r, .int .i64 s] 33)).cell? ⟨w.heap.size + 1, 0, none⟩ = some (.int .i64 r) := by simp
    have x3 : ((w.alloc (.cells #[.int .i64 p, .int .i64 q] 33)).alloc (.cells #[.int .i64 r, .int .i64 s] 33)).cell? ⟨w.heap.size + 1, 1, none⟩ = some (.int .i64 s) := by simp
    have hz : w.heap.size + 1 < ((w.alloc (.cells #[.int .i64 p, .int .i64 q] 33)).alloc (.cells #[.int .i64 r, .int .i64 s] 33)).heap.size := by simp
    generalize (w.alloc (.cells #[.int .i64 p, .int .i64 q] 33)).alloc (.cells #[.int .i64 r, .int .i64 s] 33) = w0 at *
    refine (K1.out _).mono ?_
    rintro e w1 ⟨rfl, hX⟩
    have y2 := (hX.cell (p := ⟨w.heap.size + 1, 0, none⟩) hz).trans x2
    have y3 := (hX.cell (p := ⟨w.heap.size + 1, 1, none⟩) hz).trans x3
    go_wp2_with fail
    refine (K2.out _).mono ?_
    rintro e w2 ⟨rfl, hb⟩
    have hX := hX.trans (hb.mono hX.size)
    have hB2 := hB0.trans (hX.mono hB0.size)
    clear y2 y3
    have y0 := (hX.cell (p := ⟨w.heap.size, 0, none⟩) (Nat.lt_of_succ_lt hz)).trans x0
    have y1 := (hX.cell (p := ⟨w.heap.size, 1, none⟩) (Nat.lt_of_succ_lt hz)).trans x1
    have y2 := (hX.cell (p := ⟨w.heap.size + 1, 0, none⟩) hz).trans x2
    have y3 := (hX.cell (p := ⟨w.heap.size + 1, 1, none⟩) hz).trans x3
    go_wp2_with fail
    refine (S1.out _).mono ?_
    rintro e w3 ⟨rfl, hb3⟩
    have hB3 := hB2.trans (hb3.mono hB2.size)
    go_wp2
    go_ret
    exact ⟨rfl, hB3⟩
  · have hv : R = 1 := by rw [hR]; unfold ofI; simp only; rw [if_neg (by omega), if_pos h1]
    subst hv
    rw [e1] at s1
    have S1 := Lib.hid s1
    clear k1 k2 s1 s2 s3 s4 e1 h1 hR ho ho' ok1 ok2
    go_enter Try.func75, Try.ntmps75
    go_wp2_with fail
    have hB0 := ((Below.refl w.heap.size w).alloc (Nat.le_refl _) (.cells #[.int .i64 p, .int .i64 q] 33)).alloc (by simp) (.cells #[.int .i64 r, .int .i64 s] 33)
    have x0 : ((w.alloc (.cells #[.int .i64 p, .int .i64 q] 33)).alloc (.cells #[.int .i64 r, .int .i64 s] 33)).cell? ⟨w.heap.size, 0, none⟩ = some (.int .i64 p) := by simp
    have x1 : ((w.alloc (.cells #[.int .i64 p, .int .i64 q] 33)).alloc (.cells #[.int .i64 r, .int .i64 s] 33)).cell? ⟨w.heap.size, 1, none⟩ = some (.int .i64 q) := by simp
    have x2 : ((w.alloc (.cells #[.int .i64 p, .int .i64 q] 33)).alloc (.cells #[.int .i64 r, .int .i64 s] 33)).cell? ⟨w.heap.size + 1, 0, none⟩ = some (.int .i64 r) := by simp
    have x3 : ((w.alloc (.cells #[.int .i64 p, .int .i64 q] 33)).alloc (.cells #[.int .i64 r, .int .i64 s] 33)).cell? ⟨w.heap.size + 1, 1, none⟩ = some (.int .i64 s) := by simp
    have hz : w.heap.size + 1 < ((w.alloc (.cells #[.int .i64 p, .int .i64 q] 33)).alloc (.cells #[.int .i64 r, .int .i64 s] 33)).heap.size := by simp
    generalize (w.alloc (.cells #[.int .i64 p, .int .i64 q] 33)).alloc (.cells #[.int .i64 r, .int .i64 s] 33) = w0 at *
    refine (K1.out _).mono ?_
    rintro e w1 ⟨rfl, hX⟩
    have y2 := (hX.cell (p := ⟨w.heap.size + 1, 0, none⟩) hz).trans x2
    have y3 := (hX.cell (p := ⟨w.heap.size + 1, 1, none⟩) hz).trans x3
    go_wp2_with fail
    refine (K2.out _).mono ?_
    rintro e w2 ⟨rfl, hb⟩
    have hX := hX.trans (hb.mono hX.size)
    have hB2 := hB0.trans (hX.mono hB0.size)
    clear y2 y3
    have y0 := (hX.cell (p := ⟨w.heap.size, 0, none⟩) (Nat.lt_of_succ_lt hz)).trans x0
    have y1 := (hX.cell (p := ⟨w.heap.size, 1, none⟩) (Nat.lt_of_succ_lt hz)).trans x1
    have y2 := (hX.cell (p := ⟨w.heap.size + 1, 0, none⟩) hz).trans x2
    have y3 := (hX.cell (p := ⟨w.heap.size + 1, 1, none⟩) hz).trans x3
    go_wp2_with fail
    refine (S1.out _).mono ?_
    rintro e w3 ⟨rfl, hb3⟩
    have hB3 := hB2.trans (hb3.mono hB2.size)
    go_wp2
    go_ret
    exact ⟨rfl, hB3⟩
  · rw [e1] at s1
    have S1 := Lib.hid s1
    rcases cmpI_cases p s with ⟨h2, e2⟩ | ⟨h2, e2⟩ | ⟨h2, e2⟩
    rotate_left
    · have hv : R = 11 := by rw [hR]; unfold ofI; simp only; rw [if_neg (by omega), if_neg (by omega), if_neg (by omega), if_pos h2.symm]
      subst hv
      rw [e2] at s2
      have S2 := Lib.hid s2
      clear k1 k2 s1 s2 s3 s4 e1 h1 e2 h2 hR ho ho' ok1 ok2
      go_enter Try.func75, Try.ntmps75
      go_wp2_with fail
      have hB0 := ((Below.refl w.heap.size w).alloc (Nat.le_refl _) (.cells #[.int .i64 p, .int .i64 q] 33)).alloc (by simp) (.cells #[.int .i64 r, .int .i64 s] 33)
      have x0 : ((w.alloc (.cells #[.int .i64 p, .int .i64 q] 33)).alloc (.cells #[.int .i64 r, .int .i64 s] 33)).cell? ⟨w.heap.size, 0, none⟩ = some (.int .i64 p) := by simp
      have x1 : ((w.alloc (.cells #[.int .i64 p, .int .i64 q] 33)).alloc (.cells #[.int .i64 r, .int .i64 s] 33)).cell? ⟨w.heap.size, 1, none⟩ = some (.int .i64 q) := by simp
      have x2 : ((w.alloc (.cells #[.int .i64 p, .int .i64 q] 33)).alloc (.cells #[.int .i64 r, .int .i64 s] 33)).cell? ⟨w.heap.size + 1, 0, none⟩ = some (.int .i64 r) := by simp
      have x3 : ((w.alloc (.cells #[.int .i64 p, .int .i64 q] 33)).alloc (.cells #[.int .i64 r, .int .i64 s] 33)).cell? ⟨w.heap.size + 1, 1, none⟩ = some (.int .i64 s) := by simp
      have hz : w.heap.size + 1 < ((w.alloc (.cells #[.int .i64 p, .int .i64 q] 33)).alloc (.cells #[.int .i64 r, .int .i64 s] 33)).heap.size := by simp
      generalize (w.alloc (.cells #[.int .i64 p, .int .i64 q] 33)).alloc (.cells #[.int .i64 r, .int .i64 s] 33) = w0 at *
      refine (K1.out _).mono ?_
      rintro e w1 ⟨rfl, hX⟩
      have y2 := (hX.cell (p := ⟨w.heap.size + 1, 0, none⟩) hz).trans x2
      have y3 := (hX.cell (p := ⟨w.heap.size + 1, 1, none⟩) hz).trans x3
      go_wp2_with fail
      refine (K2.out _).mono ?_
      rintro e w2 ⟨rfl, hb⟩
      have hX := hX.trans (hb.mono hX.size)
      have hB2 := hB0.trans (hX.mono hB0.size)
      clear y2 y3
      have y0 := (hX.cell (p := ⟨w.heap.size, 0, none⟩) (Nat.lt_of_succ_lt hz)).trans x0
      have y1 := (hX.cell (p := ⟨w.heap.size, 1, none⟩) (Nat.lt_of_succ_lt hz)).trans x1
      have y2 := (hX.cell (p := ⟨w.heap.size + 1, 0, none⟩) hz).trans x2
      have y3 := (hX.cell (p := ⟨w.heap.size + 1, 1, none⟩) hz).trans x3
      go_wp2_with fail
      refine (S1.out _).mono ?_
      rintro e w3 ⟨rfl, hb⟩
      have hX := hX.trans (hb.mono hX.size)
      clear y0 y1 y2 y3
      have y0 := (hX.cell (p := ⟨w.heap.size, 0, none⟩) (Nat.lt_of_succ_lt hz)).trans x0
      have y1 := (hX.cell (p := ⟨w.heap.size, 1, none⟩) (Nat.lt_of_succ_lt hz)).trans x1
      have y2 := (hX.cell (p := ⟨w.heap.size + 1, 0, none⟩) hz).trans x2
      have y3 := (hX.cell (p := ⟨w.heap.size + 1, 1, none⟩) hz).trans x3
      go_wp2_with fail
      refine (S2.out _).mono ?_
      rintro e w4 ⟨rfl, hb⟩
      have hX := hX.trans (hb.mono hX.size)
      have hB4 := hB0.trans (hX.mono hB0.size)
      clear y0 y1 y2 y3
      have y0 := (hX.cell (p := ⟨w.heap.size, 0, none⟩) (Nat.lt_of_succ_lt hz)).trans x0
      have y1 := (hX.cell (p := ⟨w.heap.size, 1, none⟩) (Nat.lt_of_succ_lt hz)).trans x1
      have y2 := (hX.cell (p := ⟨w.heap.size + 1, 0, none⟩) hz).trans x2
      have y3 := (hX.cell (p := ⟨w.heap.size + 1, 1, none⟩) hz).trans x3
      go_wp2
      go_ret
      exact ⟨rfl, hB4⟩
    · have hv : R = 12 := by rw [hR]; unfold ofI; simp only; rw [if_neg (by omega), if_neg (by omega), if_pos h2]
      subst hv
      rw [e2] at s2
      have S2 := Lib.hid s2
      clear k1 k2 s1 s2 s3 s4 e1 h1 e2 h2 hR ho ho' ok1 ok2
      go_enter Try.func75, Try.ntmps75
      go_wp2_with fail
      have hB0 := ((Below.refl w.heap.size w).alloc (Nat.le_refl _) (.cells #[.int .i64 p, .int .i64 q] 33)).alloc (by simp) (.cells #[.int .i64 r, .int .i64 s] 33)
      have x0 : ((w.alloc (.cells #[.int .i64 p, .int .i64 q] 33)).alloc (.cells #[.int .i64 r, .int .i64 s] 33)).cell? ⟨w.heap.size, 0, none⟩ = some (.int .i64 p) := by simp
      have x1 : ((w.alloc (.cells #[.int .i64 p, .int .i64 q] 33)).alloc (.cells #[.int .i64 r, .int .i64 s] 33)).cell? ⟨w.heap.size, 1, none⟩ = some (.int .i64 q) := by simp
      have x2 : ((w.alloc (.cells #[.int .i64 p, .int .i64 q] 33)).alloc (.cells #[.int .i64 r, .int .i64 s] 33)).cell? ⟨w.heap.size + 1, 0, none⟩ = some (.int .i64 r) := by simp
      have x3 : ((w.alloc (.cells #[.int .i64 p, .int .i64 q] 33)).alloc (.cells #[.int .i64 r, .int .i64 s] 33)).cell? ⟨w.heap.size + 1, 1, none⟩ = some (.int .i64 s) := by simp
      have hz : w.heap.size + 1 < ((w.alloc (.cells #[.int .i64 p, .int .i64 q] 33)).alloc (.cells #[.int .i64 r, .int .i64 s] 33)).heap.size := by simp
      generalize (w.alloc (.cells #[.int .i64 p, .int .i64 q] 33)).alloc (.cells #[.int .i64 r, .int .i64 s] 33) = w0 at *
      refine (K1.out _).mono ?_
      rintro e w1 ⟨rfl, hX⟩
      have y2 := (hX.cell (p := ⟨w.heap.size + 1, 0, none⟩) hz).trans x2
      have y3 := (hX.cell (p := ⟨w.heap.size + 1, 1, none⟩) hz).trans x3
      go_wp2_with fail
      refine (K2.out _).mono ?_
      rintro e w2 ⟨rfl, hb⟩
      have hX := hX.trans (hb.mono hX.size)
      have hB2 := hB0.trans (hX.mono hB0.size)
      clear y2 y3
      have y0 := (hX.cell (p := ⟨w.heap.size, 0, none⟩) (Nat.lt_of_succ_lt hz)).trans x0
      have y1 := (hX.cell (p := ⟨w.heap.size, 1, none⟩) (Nat.lt_of_succ_lt hz)).trans x1
      have y2 := (hX.cell (p := ⟨w.heap.size + 1, 0, none⟩) hz).trans x2
      have y3 := (hX.cell (p := ⟨w.heap.size + 1, 1, none⟩) hz).trans x3
      go_wp2_with fail
      refine (S1.out _).mono ?_
      rintro e w3 ⟨rfl, hb⟩
      have hX := hX.trans (hb.mono hX.size)
      clear y0 y1 y2 y3
      have y0 := (hX.cell (p := ⟨w.heap.size, 0, none⟩) (Nat.lt_of_succ_lt hz)).trans x0
      have y1 := (hX.cell (p := ⟨w.heap.size, 1, none⟩) (Nat.lt_of_succ_lt hz)).trans x1
      have y2 := (hX.cell (p := ⟨w.heap.size + 1, 0, none⟩) hz).trans x2
      have y3 := (hX.cell (p := ⟨w.heap.size + 1, 1, none⟩) hz).trans x3
      go_wp2_with fail
      refine (S2.out _).mono ?_
      rintro e w4 ⟨rfl, hb⟩
      have hX := hX.trans (hb.mono hX.size)
      have hB4 := hB0.trans (hX.mono hB0.size)
      clear y0 y1 y2 y3
      have y0 := (hX.cell (p := ⟨w.heap.size, 0, none⟩) (Nat.lt_of_succ_lt hz)).trans x0
      have y1 := (hX.cell (p := ⟨w.heap.size, 1, none⟩) (Nat.lt_of_succ_lt hz)).trans x1
      have y2 := (hX.cell (p := ⟨w.heap.size + 1, 0, none⟩) hz).trans x2
      have y3 := (hX.cell (p := ⟨w.heap.size + 1, 1, none⟩) hz).trans x3
      go_wp2
      go_ret
      exact ⟨rfl, hB4⟩
    · rw [e2] at s2
      have S2 := Lib.hid s2
      have hv : ∃ i j : Int, cmpI p r = i ∧ cmpI q s = j ∧ ((i = -1 ∧ j = -1 ∧ R = 2) ∨ (i = -1 ∧ j = 0 ∧ R = 7) ∨ (i = -1 ∧ j = 1 ∧ R = 8) ∨ (i = 0 ∧ j = -1 ∧ R = 3) ∨ (i = 0 ∧ j = 0 ∧ R = 6) ∨ (i = 0 ∧ j = 1 ∧ R = 9) ∨ (i = 1 ∧ j = -1 ∧ R = 4) ∨ (i = 1 ∧ j = 0 ∧ R = 5) ∨ (i = 1 ∧ j = 1 ∧ R = 10)) := by
        have hR2 : R = if p < r then (if q < s then 2 else if q = s then 7 else 8) else if p = r then (if q < s then 3 else if q = s then 6 else 9) else (if q < s then 4 else if q = s then 5 else 10) := by
          rw [hR]; unfold ofI; simp only; rw [if_neg (by omega), if_neg (by omega), if_neg (by omega), if_neg (by omega)]
        rcases cmpI_cases p r with ⟨a, e⟩ | ⟨a, e⟩ | ⟨a, e⟩ <;> rcases cmpI_cases q s with ⟨b, e'⟩ | ⟨b, e'⟩ | ⟨b, e'⟩
        · exact ⟨-1, -1, e, e', .inl ⟨rfl, rfl, by rw [hR2, if_pos a, if_pos b]⟩⟩
        · exact ⟨-1, 0, e, e', .inr (.inl ⟨rfl, rfl, by rw [hR2, if_pos a, if_neg (by omega), if_pos b]⟩)⟩
        · exact ⟨-1, 1, e, e', .inr (.inr (.inl ⟨rfl, rfl, by rw [hR2, if_pos a, if_neg (by omega), if_neg (by omega)]⟩))⟩
        · exact ⟨0, -1, e, e', .inr (.inr (.inr (.inl ⟨rfl, rfl, by rw [hR2, if_neg (by omega), if_pos a, if_pos b]⟩)))⟩
        · exact ⟨0, 0, e, e', .inr (.inr (.inr (.inr (.inl ⟨rfl, rfl, by rw [hR2, if_neg (by omega), if_pos a, if_neg (by omega), if_pos b]⟩))))⟩
        · exact ⟨0, 1, e, e', .inr (.inr (.inr (.inr (.inr (.inl ⟨rfl, rfl, by rw [hR2, if_neg (by omega), if_pos a, if_neg (by omega), if_neg (by omega)]⟩)))))⟩
        · exact ⟨1, -1, e, e', .inr (.inr (.inr (.inr (.inr (.inr (.inl ⟨rfl, rfl, by rw [hR2, if_neg (by omega), if_neg (by omega), if_pos b]⟩))))))⟩
        · exact ⟨1, 0, e, e', .inr (.inr (.inr (.inr (.inr (.inr (.inr (.inl ⟨rfl, rfl, by rw [hR2, if_neg (by omega), if_neg (by omega), if_neg (by omega), if_pos b]⟩)))))))⟩
        · exact ⟨1, 1, e, e', .inr (.inr (.inr (.inr (.inr (.inr (.inr (.inr ⟨rfl, rfl, by rw [hR2, if_neg (by omega), if_neg (by omega), if_neg (by omega), if_neg (by omega)]⟩)))))))⟩
      obtain ⟨i, j, e3, e4, hij⟩ := hv
      rw [e3] at s3
      rw [e4] at s4
      clear k1 k2 s1 s2 e1 h1 e2 h2 hR ho ho' ok1 ok2 e3 e4
      rcases hij with ⟨rfl, rfl, rfl⟩ | ⟨rfl, rfl, rfl⟩ | ⟨rfl, rfl, rfl⟩ | ⟨rfl, rfl, rfl⟩ | ⟨rfl, rfl, rfl⟩ | ⟨rfl, rfl, rfl⟩ | ⟨rfl, rfl, rfl⟩ | ⟨rfl, rfl, rfl⟩ | ⟨rfl, rfl, rfl⟩
      all_goals
        have S3 := Lib.hid s3; have S4 := Lib.hid s4
        clear s3 s4
        go_enter Try.func75, Try.ntmps75
        go_wp2_with fail
        have hB0 := ((Below.refl w.heap.size w).alloc (Nat.le_refl _) (.cells #[.int .i64 p, .int .i64 q] 33)).alloc (by simp) (.cells #[.int .i64 r, .int .i64 s] 33)
        have x0 : ((w.alloc (.cells #[.int .i64 p, .int .i64 q] 33)).alloc (.cells #[.int .i64 r, .int .i64 s] 33)).cell? ⟨w.heap.size, 0, none⟩ = some (.int .i64 p) := by simp
        have x1 : ((w.alloc (.cells #[.int .i64 p, .int .i64 q] 33)).alloc (.cells #[.int .i64 r, .int .i64 s] 33)).cell? ⟨w.heap.size, 1, none⟩ = some (.int .i64 q) := by simp
        have x2 : ((w.alloc (.cells #[.int .i64 p, .int .i64 q] 33)).alloc (.cells #[.int .i64 r, .int .i64 s] 33)).cell? ⟨w.heap.size + 1, 0, none⟩ = some (.int .i64 r) := by simp
        have x3 : ((w.alloc (.cells #[.int .i64 p, .int .i64 q] 33)).alloc (.cells #[.int .i64 r, .int .i64 s] 33)).cell? ⟨w.heap.size + 1, 1, none⟩ = some (.int .i64 s) := by simp
        have hz : w.heap.size + 1 < ((w.alloc (.cells #[.int .i64 p, .int .i64 q] 33)).alloc (.cells #[.int .i64 r, .int .i64 s] 33)).heap.size := by simp
        generalize (w.alloc (.cells #[.int .i64 p, .int .i64 q] 33)).alloc (.cells #[.int .i64 r, .int .i64 s] 33) = w0 at *
        refine (K1.out _).mono ?_
        rintro e w1 ⟨rfl, hX⟩
        have y2 := (hX.cell (p := ⟨w.heap.size + 1, 0, none⟩) hz).trans x2
        have y3 := (hX.cell (p := ⟨w.heap.size + 1, 1, none⟩) hz).trans x3
        go_wp2_with fail
        refine (K2.out _).mono ?_
        rintro e w2 ⟨rfl, hb⟩
        have hX := hX.trans (hb.mono hX.size)
        have hB2 := hB0.trans (hX.mono hB0.size)
        clear y2 y3
        have y0 := (hX.cell (p := ⟨w.heap.size, 0, none⟩) (Nat.lt_of_succ_lt hz)).trans x0
        have y1 := (hX.cell (p := ⟨w.heap.size, 1, none⟩) (Nat.lt_of_succ_lt hz)).trans x1
        have y2 := (hX.cell (p := ⟨w.heap.size + 1, 0, none⟩) hz).trans x2
        have y3 := (hX.cell (p := ⟨w.heap.size + 1, 1, none⟩) hz).trans x3
        go_wp2_with fail
        refine (S1.out _).mono ?_
        rintro e w3 ⟨rfl, hb⟩
        have hX := hX.trans (hb.mono hX.size)
        clear y0 y1 y2 y3
        have y0 := (hX.cell (p := ⟨w.heap.size, 0, none⟩) (Nat.lt_of_succ_lt hz)).trans x0
        have y1 := (hX.cell (p := ⟨w.heap.size, 1, none⟩) (Nat.lt_of_succ_lt hz)).trans x1
        have y2 := (hX.cell (p := ⟨w.heap.size + 1, 0, none⟩) hz).trans x2
        have y3 := (hX.cell (p := ⟨w.heap.size + 1, 1, none⟩) hz).trans x3
        go_wp2_with fail
        refine (S2.out _).mono ?_
        rintro e w4 ⟨rfl, hb⟩
        have hX := hX.trans (hb.mono hX.size)
        have hB4 := hB0.trans (hX.mono hB0.size)
        clear y0 y1 y2 y3
        have y0 := (hX.cell (p := ⟨w.heap.size, 0, none⟩) (Nat.lt_of_succ_lt hz)).trans x0
        have y1 := (hX.cell (p := ⟨w.heap.size, 1, none⟩) (Nat.lt_of_succ_lt hz)).trans x1
        have y2 := (hX.cell (p := ⟨w.heap.size + 1, 0, none⟩) hz).trans x2
        have y3 := (hX.cell (p := ⟨w.heap.size + 1, 1, none⟩) hz).trans x3
        go_wp2
        have hz4 : w.heap.size + 1 < w4.heap.size := Nat.lt_of_lt_of_le hz hX.size
        have ht : ∀ n v, #[Value.int .i64 2, .int .i64 7, .int .i64 8, .int .i64 3, .int .i64 6, .int .i64 9, .int .i64 4, .int .i64 5, .int .i64 10][n]? = some v → (w4.alloc (.cells #[.int .i64 2, .int .i64 7, .int .i64 8, .int .i64 3, .int .i64 6, .int .i64 9, .int .i64 4, .int .i64 5, .int .i64 10] 123)).cell? ⟨w4.heap.size, n, none⟩ = some v := fun n v h => by simp [h]
        have hal := (Below.refl w4.heap.size w4).alloc (Nat.le_refl _) (.cells #[.int .i64 2, .int .i64 7, .int .i64 8, .int .i64 3, .int .i64 6, .int .i64 9, .int .i64 4, .int .i64 5, .int .i64 10] 123)
        have hB5 := hB4.alloc hB4.size (.cells #[.int .i64 2, .int .i64 7, .int .i64 8, .int .i64 3, .int .i64 6, .int .i64 9, .int .i64 4, .int .i64 5, .int .i64 10] 123)
        have hg5 : w4.heap.size < (w4.alloc (.cells #[.int .i64 2, .int .i64 7, .int .i64 8, .int .i64 3, .int .i64 6, .int .i64 9, .int .i64 4, .int .i64 5, .int .i64 10] 123)).heap.size := by simp
        generalize w4.alloc (.cells #[.int .i64 2, .int .i64 7, .int .i64 8, .int .i64 3, .int .i64 6, .int .i64 9, .int .i64 4, .int .i64 5, .int .i64 10] 123) = w5 at *
        have hz5 : w.heap.size + 1 < w5.heap.size := by omega
        have f0 := fun X : BW w5 => bw_cell X ((hal.cell (p := ⟨w.heap.size, 0, none⟩) (Nat.lt_of_succ_lt hz4)).trans y0) (Nat.lt_of_succ_lt hz5)
        have f1 := fun X : BW w5 => bw_cell X ((hal.cell (p := ⟨w.heap.size, 1, none⟩) (Nat.lt_of_succ_lt hz4)).trans y1) (Nat.lt_of_succ_lt hz5)
        have f2 := fun X : BW w5 => bw_cell X ((hal.cell (p := ⟨w.heap.size + 1, 0, none⟩) hz4).trans y2) hz5
        have f3 := fun X : BW w5 => bw_cell X ((hal.cell (p := ⟨w.heap.size + 1, 1, none⟩) hz4).trans y3) hz5
        have t0 := fun X : BW w5 => bw_cell X (ht 0 _ rfl) hg5
        have t1 := fun X : BW w5 => bw_cell X (ht 1 _ rfl) hg5
        have t2 := fun X : BW w5 => bw_cell X (ht 2 _ rfl) hg5
        have t3 := fun X : BW w5 => bw_cell X (ht 3 _ rfl) hg5
        have t4 := fun X : BW w5 => bw_cell X (ht 4 _ rfl) hg5
        have t5 := fun X : BW w5 => bw_cell X (ht 5 _ rfl) hg5
        have t6 := fun X : BW w5 => bw_cell X (ht 6 _ rfl) hg5
        have t7 := fun X : BW w5 => bw_cell X (ht 7 _ rfl) hg5
        have t8 := fun X : BW w5 => bw_cell X (ht 8 _ rfl) hg5
        clear y0 y1 y2 y3 ht
        refine wp_region_below (by kernel_rfl) (by kernel_rfl) ?_
        repeat (go_big_quiet_step ((go_at_call 91; first | (with_reducible exact calls_bw _ (S3.out _)) | (with_reducible exact calls_bw _ (S4.out _)))))
        refine wpQuiet_nil ?_
        rintro w7 ⟨⟨_, hb7⟩, rfl⟩
        have hfin := hB5.trans (hb7.mono hB5.size)
        clear f0 f1 f2 f3 t0 t1 t2 t3 t4 t5 t6 t7 t8
        go_wp2
        go_ret
        exact ⟨rfl, hfin⟩
end Go.Proofs.Ytgdcgdjlhljbiaa
