/- sweep.Nearest and the reference's: the plain law, the walks. -/
import Derived.Test.YtahpcepnagpbdaaSwC
import Derived.Test.YtahpcepnagpbdaaSwB
import Derived.Test.YtahpcepnagpbdaaRunsR
namespace Go.Proofs.Ytahpcepnagpbdaa
open Go.RowKit Go.Shelf

def distI (s t : Sp) : Int := max (max 0 (t.1 - s.2)) (s.1 - t.2)
/-- Among the first m, the first of the nearest. -/
structure NearTo (s : Sp) (b : List Sp) (m k : Nat) : Prop where
  lt : k < m
  low : ∀ j, j < k → distI s (sp b k) < distI s (sp b j)
  high : ∀ j, k < j → j < m → distI s (sp b k) ≤ distI s (sp b j)
theorem near_one {s : Sp} {b : List Sp} {m k k' : Nat} (h : NearTo s b m k) (h' : NearTo s b m k') : k = k' := by
  rcases Nat.lt_trichotomy k k' with e | e | e
  · have := h'.low k e; have := h.high k' e h'.lt; omega
  · exact e
  · have := h.low k' e; have := h'.high k e h.lt; omega
theorem near_zero (s : Sp) (b : List Sp) : NearTo s b 1 0 := ⟨by omega, fun j hj => absurd hj (by omega), fun j h1 h2 => absurd h2 (by omega)⟩
theorem near_keep {s : Sp} {b : List Sp} {m k : Nat} (h : NearTo s b m k) (hd : ¬ distI s (sp b m) < distI s (sp b k)) : NearTo s b (m + 1) k := ⟨Nat.lt_succ_of_lt h.lt, h.low, fun j h1 h2 => by
  rcases Nat.eq_or_lt_of_le (show j ≤ m by omega) with e | e
  · rw [e]; omega
  · exact h.high j h1 e⟩
theorem near_take {s : Sp} {b : List Sp} {m k : Nat} (h : NearTo s b m k) (hd : distI s (sp b m) < distI s (sp b k)) : NearTo s b (m + 1) m := ⟨by omega, fun j hj => by
  rcases Nat.lt_trichotomy j k with e | e | e
  · have := h.low j e; omega
  · rw [e]; exact hd
  · have := h.high j e hj; omega, fun j h1 h2 => absurd h2 (by omega)⟩
/-- The nearest of each. -/
structure NearL (a b : List Sp) (n : Nat) (R : List Nat) : Prop where
  len : R.length = n
  each : ∀ i, i < n → NearTo (sp a i) b b.length (ix R i)
theorem nearL_one {a b : List Sp} {n : Nat} {R R' : List Nat} (h : NearL a b n R) (h' : NearL a b n R') : R = R' := by
  refine List.ext_getElem (h.len.trans h'.len.symm) fun i h1 h2 => ?_
  rw [ix_at h1, ix_at h2]
  exact near_one (h.each i (h.len ▸ h1)) (h'.each i (h.len ▸ h1))
theorem nearL_zero (a b : List Sp) : NearL a b 0 [] := ⟨rfl, fun i hi => absurd hi (by omega)⟩
theorem nearL_step {a b : List Sp} {n k : Nat} {R : List Nat} (h : NearL a b n R) (hk : NearTo (sp a n) b b.length k) : NearL a b (n + 1) (R ++ [k]) := by
  refine ⟨by simp [h.len], fun i hi => ?_⟩
  rcases Nat.eq_or_lt_of_le (show i ≤ n by omega) with e | e
  · have : ix (R ++ [k]) i = k := by simp [ix, e, ← h.len]
    rw [this, e]; exact hk
  · have : ix (R ++ [k]) i = ix R i := by
      have : i < R.length := by rw [h.len]; exact e
      simp [ix, List.getElem?_append_left this]
    rw [this]; exact h.each i e
def NearSpec (a b : List Sp) (r : List Nat) (k : Int) : Prop :=
  if (rightB a && rightB b) = true then (if b.length = 0 ∧ 0 < a.length then r = [] ∧ k = 7 else NearL a b a.length r ∧ k = 0) else r = [] ∧ k = 1
theorem ok_of_all {l : List Sp} (h : l.all okSpan = true) {i : Nat} (hi : i < l.length) : -4398046511104 ≤ fr l i ∧ fr l i < tt l i ∧ tt l i ≤ 4398046511104 := by
  have := okS_all h _ (idx_mem hi); unfold OkSp at this; exact this
theorem max_ifs (s0 s1 t0 t1 : Int) : (if (if s1 < t0 then t0 - s1 else 0) < s0 - t1 then s0 - t1 else if s1 < t0 then t0 - s1 else 0) = max (max 0 (t0 - s1)) (s0 - t1) := by
  split <;> split <;> omega
def NearSt (s : Sp) (b : List Sp) (m nb : Nat) (L : Int) : Prop := (m = 0 ∧ nb = 0 ∧ L = 0) ∨ (NearTo s b m nb ∧ L = distI s (sp b nb))

set_option maxRecDepth 100000 in
set_option maxHeartbeats 4000000 in
theorem sNearest_c (va vb : Value) (a b : List Sp) (w : World) (ha : IsSpans w va a) (hb : IsSpans w vb b) : Calls Try.prog 25 #[va, vb] w (IdxE w (NearSpec a b)) := by
  obtain ⟨A, ca, rfl, hna, hca⟩ := ha.form
  obtain ⟨B, cb, rfl, hnb, hcb⟩ := hb.form
  have k1 := sright_c _ a w ha
  have k2 := fun w' (h : Below w.heap.size w w') => sright_c _ b w' (hb.below h)
  cases hra : rightB a
  · rw [hra] at k1
    have K1 := Lib.hid k1
    have hsp : NearSpec a b [] 1 := by rw [NearSpec, if_neg (by rw [hra]; exact Bool.false_ne_true)]; exact ⟨rfl, rfl⟩
    have Hsp := Lib.hid hsp
    clear k1 k2 hsp hra
    go_enter Try.func25, Try.ntmps25
    go_wp2_with fail
    refine K1.out.mono ?_
    rintro e w1 ⟨rfl, hb1⟩
    go_wp2
    go_ret2
    exact ⟨[], 1, _, Hsp.out, rfl, IsInts.nil, hb1⟩
  · rw [hra] at k1
    cases hrb : rightB b
    · have K1 := Lib.hid k1
      rw [hrb] at k2
      have K2 := Lib.hid k2
      have hsp : NearSpec a b [] 1 := by rw [NearSpec, if_neg (by rw [hra, hrb]; exact Bool.false_ne_true)]; exact ⟨rfl, rfl⟩
      have Hsp := Lib.hid hsp
      clear k1 k2 hsp hra hrb
      go_enter Try.func25, Try.ntmps25
      go_wp2_with fail
      refine K1.out.mono ?_
      rintro e w1 ⟨rfl, hb1⟩
      go_wp2_with fail
      refine (K2.out w1 hb1).mono ?_
      rintro e w2 ⟨rfl, hb2⟩
      have hB := hb1.trans (hb2.mono hb1.size)
      go_wp2
      go_ret2
      exact ⟨[], 1, _, Hsp.out, rfl, IsInts.nil, hB⟩
    · have K1 := Lib.hid k1
      rw [hrb] at k2
      have K2 := Lib.hid k2
      have Hoka := Lib.hid (rightB_ok hra); have Hokb := Lib.hid (rightB_ok hrb)
      have hla := rightB_len hra
      have hlb := rightB_len hrb
      have hspec : ∀ r k, (if b.length = 0 ∧ 0 < a.length then r = [] ∧ k = 7 else NearL a b a.length r ∧ k = 0) → NearSpec a b r k := fun r k h => by rw [NearSpec, if_pos (by rw [hra, hrb]; rfl)]; exact h
      have Hspec := Lib.hid hspec
      clear k1 k2 hra hrb hspec
      by_cases hz : b.length = 0 ∧ 0 < a.length
      · have Hsp := Lib.hid (Hspec.out [] 7 (by rw [if_pos hz]; exact ⟨rfl, rfl⟩))
        have HZ := Lib.hid hz
        clear hz
        go_enter Try.func25, Try.ntmps25
        go_wp2_with fail
        refine K1.out.mono ?_
        rintro e w1 ⟨rfl, hb1⟩
        go_wp2_with fail
        refine (K2.out w1 hb1).mono ?_
        rintro e w2 ⟨rfl, hb2⟩
        have hB := hb1.trans (hb2.mono hb1.size)
        obtain ⟨hz1, hz2⟩ := HZ.out
        go_wp2
        go_ret2
        exact ⟨[], 7, _, Hsp.out, rfl, IsInts.nil, hB⟩
      · have Hsp := Lib.hid (fun r h => Hspec.out r 0 (by rw [if_neg hz]; exact ⟨h, rfl⟩))
        have hzc : (¬ b = []) ∨ (b = [] ∧ ¬ 0 < (a.length : Int)) := by
          by_cases h : b = []
          · exact .inr ⟨h, by rw [h] at hz; simp at hz; simp [hz]⟩
          · exact .inl h
        clear hz
        have HZC := Lib.hid hzc
        clear hzc
        · go_enter Try.func25, Try.ntmps25
          go_wp2_with fail
          refine K1.out.mono ?_
          rintro e w1 ⟨rfl, hb1⟩
          go_wp2_with fail
          refine (K2.out w1 hb1).mono ?_
          rintro e w2 ⟨rfl, hb2⟩
          have hB := hb1.trans (hb2.mono hb1.size)
          replace ha := ha.below hB
          replace hb := hb.below hB
          rcases HZC.out with hz1 | ⟨hz1, hz2⟩
          all_goals go_wp2
          · go_loopw [6, 34] (fun o i wr => ∃ (k : Nat) (R : List Nat), i = .int .i64 k ∧ k ≤ a.length ∧ Hid (NearL a b k R) ∧ OwnsIx wr w2.heap.size o R ∧ Below w2.heap.size w2 wr) (fun _ i _ => a.length - (intOf i).toNat)
            case atStart => exact ⟨0, [], rfl, Nat.zero_le _, nearL_zero _ _, own_nilI _ _ _, Below.refl _ _⟩
            case round =>
              obtain ⟨k, R, rfl, hk, HN, hown, hbw⟩ := hrel
              obtain ⟨wo, rfl⟩ : ∃ wo : World, wo = wr := ⟨_, rfl⟩
              by_cases hlt : k < a.length
              · obtain ⟨g1, o1, rfl, hg1⟩ := ha.addr (by omega)
                have d0 := (ha.below hbw).c0 k hlt
                have d1 := (ha.below hbw).c1 k hlt
                obtain ⟨p1, p2, p3⟩ := ok_of_all Hoka.out hlt
                have Hstep := Lib.hid (fun (n : Nat) h => nearL_step (k := n) HN.out h)
                have Hsp0 : Hid (sp a k = (fr a k, tt a k)) := rfl
                have hRl := HN.out.len
                generalize fr a k = s0 at *
                generalize tt a k = s1 at *
                have hown1 : OwnsIx (wo.alloc (.cells #[.int .i64 s0, .int .i64 s1] 31)) w2.heap.size _ R := hown.alloc (.cells #[.int .i64 s0, .int .i64 s1] 31)
                have hbw1 := hbw.alloc hbw.size (.cells #[.int .i64 s0, .int .i64 s1] 31)
                have x0 : (wo.alloc (.cells #[.int .i64 s0, .int .i64 s1] 31)).cell? ⟨wo.heap.size, 0, none⟩ = some (.int .i64 s0) := by simp
                have x1 : (wo.alloc (.cells #[.int .i64 s0, .int .i64 s1] 31)).cell? ⟨wo.heap.size, 1, none⟩ = some (.int .i64 s1) := by simp
                have hxs : wo.heap.size < (wo.alloc (.cells #[.int .i64 s0, .int .i64 s1] 31)).heap.size := by simp
                generalize hw3 : wo.alloc (.cells #[.int .i64 s0, .int .i64 s1] 31) = w3 at *
                go_wp2
                clear hw3 hown
                go_loopw [9, 10, 40] (fun be le i wr => ∃ (m nb : Nat) (L : Int), i = .int .i64 m ∧ be = .int .i64 nb ∧ le = .int .i64 L ∧ m ≤ b.length ∧ Hid (NearSt (s0, s1) b m nb L) ∧ Below w3.heap.size w3 wr) (fun _ _ i _ => b.length - (intOf i).toNat)
                case atStart => exact ⟨0, 0, 0, rfl, rfl, rfl, Nat.zero_le _, .inl ⟨rfl, rfl, rfl⟩, Below.refl _ _⟩
                case round =>
                  obtain ⟨m, nb, L, rfl, rfl, rfl, hm, HS, hbi⟩ := hrel
                  by_cases hlm : m < b.length
                  · obtain ⟨g2, o2, rfl, hg2⟩ := hb.addr (by omega)
                    have hbx := hbw1.trans (hbi.mono hbw1.size)
                    have e0 := (hb.below hbx).c0 m hlm
                    have e1 := (hb.below hbx).c1 m hlm
                    have y0 := (hbi.cell (p := ⟨wo.heap.size, 0, none⟩) hxs).trans x0
                    have y1 := (hbi.cell (p := ⟨wo.heap.size, 1, none⟩) hxs).trans x1
                    obtain ⟨r1, r2, r3⟩ := ok_of_all Hokb.out hlm
                    have hD : distI (s0, s1) (sp b m) = max (max 0 (fr b m - s1)) (s0 - tt b m) := rfl
                    have hnew : (((m : Int) == 0) = true ∧ Hid (NearSt (s0, s1) b (m + 1) m (distI (s0, s1) (sp b m)))) ∨ (((m : Int) == 0) = false ∧ distI (s0, s1) (sp b m) < L ∧ Hid (NearSt (s0, s1) b (m + 1) m (distI (s0, s1) (sp b m)))) ∨ (((m : Int) == 0) = false ∧ ¬ distI (s0, s1) (sp b m) < L ∧ Hid (NearSt (s0, s1) b (m + 1) nb L)) := by
                      rcases HS.out with ⟨h1, h2, h3⟩ | ⟨h1, h2⟩
                      · subst h1; exact .inl ⟨by simp, .inr ⟨near_zero _ _, rfl⟩⟩
                      · have := h1.lt
                        by_cases hd : distI (s0, s1) (sp b m) < distI (s0, s1) (sp b nb)
                        · exact .inr (.inl ⟨by rw [beq_eq_false_iff_ne]; omega, by rw [h2]; exact hd, .inr ⟨near_take h1 hd, rfl⟩⟩)
                        · exact .inr (.inr ⟨by rw [beq_eq_false_iff_ne]; omega, by rw [h2]; exact hd, .inr ⟨near_keep h1 hd, h2⟩⟩)
                    rw [hD] at hnew
                    generalize fr b m = t0 at *
                    generalize tt b m = t1 at *
                    clear hD HS
                    have z3 : w3.heap.size ≤ wr.heap.size := hbi.size
                    have hal := hbi.alloc z3 (.cells #[.int .i64 t0, .int .i64 t1] 31)
                    have b0 : (wr.alloc (.cells #[.int .i64 t0, .int .i64 t1] 31)).cell? ⟨wr.heap.size, 0, none⟩ = some (.int .i64 t0) := by simp
                    have b1 : (wr.alloc (.cells #[.int .i64 t0, .int .i64 t1] 31)).cell? ⟨wr.heap.size, 1, none⟩ = some (.int .i64 t1) := by simp
                    have y0' := (hal.cell (p := ⟨wo.heap.size, 0, none⟩) hxs).trans x0
                    have y1' := (hal.cell (p := ⟨wo.heap.size, 1, none⟩) hxs).trans x1
                    generalize hw4 : wr.alloc (.cells #[.int .i64 t0, .int .i64 t1] 31) = w4 at *
                    clear y0 y1
                    rcases hnew with ⟨h1, hs⟩ | ⟨h1, h2, hs⟩ | ⟨h1, h2, hs⟩
                    · go_wp2
                      go_roundw
                      case rel => exact ⟨m + 1, m, _, by go_num, rfl, rfl, hlm, by rw [max_ifs]; exact hs, hal⟩
                      case measure => simp [intOf]; omega
                    · go_wp2
                      go_roundw
                      case rel => exact ⟨m + 1, m, _, by go_num, rfl, rfl, hlm, by rw [max_ifs]; exact hs, hal⟩
                      case measure => simp [intOf]; omega
                    · go_wp2
                      go_roundw
                      case rel => exact ⟨m + 1, nb, L, by go_num, rfl, rfl, hlm, hs, hal⟩
                      case measure => simp [intOf]; omega
                  · obtain rfl : m = b.length := by omega
                    have hnt : NearTo (s0, s1) b b.length nb := by
                      rcases HS.out with ⟨h1, _⟩ | ⟨h1, _⟩
                      · exact absurd (List.length_eq_zero_iff.1 h1) hz1
                      · exact h1
                    have hN2 := Hstep.out nb (by rw [Hsp0.out]; exact hnt)
                    have HN2 := Lib.hid hN2
                    clear hnt hN2 HS
                    have hown2 : OwnsIx wr w2.heap.size _ R := own_below hown1 hbi (Nat.le_refl _)
                    have hbw2 := hbw1.trans (hbi.mono hbw1.size)
                    go_wp2_with (at_builtin; refine append_ix tInts tIntInfo (by rfl) (.tmp 66) (.tmp 68) (by rfl) w2.heap.size _ R nb (by rfl) hown2 (by rfl) (by omega) hbw2.size ?_; intro v5 w5 hown5 hb5; have hbw5 := hbw2.trans hb5)
                    go_roundw
                    case rel => exact ⟨k + 1, R ++ [nb], by go_num, hlt, HN2, hown5, hbw5⟩
                    case measure => simp [intOf]; omega
              · obtain rfl : k = a.length := by omega
                have Hn := Lib.hid (Hsp.out R HN.out)
                have hfin := hB.trans (hbw.mono hB.size)
                clear HN
                go_wp2
                go_ret2
                exact ⟨R, 0, _, Hn.out, rfl, OwnsIx.ints hown, hfin⟩
          · go_loopw [6, 34] (fun o i wr => ∃ (k : Nat) (R : List Nat), i = .int .i64 k ∧ k ≤ a.length ∧ Hid (NearL a b k R) ∧ OwnsIx wr w2.heap.size o R ∧ Below w2.heap.size w2 wr) (fun _ i _ => a.length - (intOf i).toNat)
            case atStart => exact ⟨0, [], rfl, Nat.zero_le _, nearL_zero _ _, own_nilI _ _ _, Below.refl _ _⟩
            case round =>
              obtain ⟨k, R, rfl, hk, HN, hown, hbw⟩ := hrel
              obtain ⟨wo, rfl⟩ : ∃ wo : World, wo = wr := ⟨_, rfl⟩
              by_cases hlt : k < a.length
              · omega
              · obtain rfl : k = a.length := by omega
                have Hn := Lib.hid (Hsp.out R HN.out)
                have hfin := hB.trans (hbw.mono hB.size)
                clear HN
                go_wp2
                go_ret2
                exact ⟨R, 0, _, Hn.out, rfl, OwnsIx.ints hown, hfin⟩

theorem distI_1 {a b c d : Int} (h1 : a < b) (h2 : c < d) (h3 : b < c) : distI (a, b) (c, d) = c - b := by simp only [distI]; omega
theorem distI_2 {a b c d : Int} (h1 : a < b) (h2 : c < d) (h3 : d < a) : distI (a, b) (c, d) = a - d := by simp only [distI]; omega
theorem distI_3 {a b c d : Int} (h1 : ¬ b < c) (h2 : ¬ d < a) : distI (a, b) (c, d) = 0 := by simp only [distI]; omega
theorem r44Distance_c (a b c d : Int) (w : World) (h1 : -4398046511104 ≤ a) (h2 : a < b) (h3 : b ≤ 4398046511104) (k1 : -4398046511104 ≤ c) (k2 : c < d) (k3 : d ≤ 4398046511104) :
    Calls Try.prog 59 #[.agg #[.int .i64 a, .int .i64 b], .agg #[.int .i64 c, .int .i64 d]] w (Ret w (.int .i64 (distI (a, b) (c, d)))) := by
  by_cases e1 : b < c
  · rw [distI_1 h2 k2 e1]
    go_enter Try.func59, Try.ntmps59
    go_wp2
    go_ret
    exact ⟨rfl, by go_grown⟩
  · by_cases e2 : d < a
    · rw [distI_2 h2 k2 e2]
      go_enter Try.func59, Try.ntmps59
      go_wp2
      go_ret
      exact ⟨rfl, by go_grown⟩
    · rw [distI_3 e1 e2]
      go_enter Try.func59, Try.ntmps59
      go_wp2
      go_ret
      exact ⟨rfl, by go_grown⟩

set_option maxRecDepth 100000 in
set_option maxHeartbeats 4000000 in
theorem r44Nearest_c (va vb : Value) (a b : List Sp) (w : World) (ha : IsSpans w va a) (hb : IsSpans w vb b) (hoa : a.all okSpan = true) (hob : b.all okSpan = true) (hla : a.length ≤ 100000) (hlb : b.length ≤ 100000) (hb0 : 0 < b.length) :
    Calls Try.prog 26 #[va, vb] w (IdxRet w (NearL a b a.length)) := by
  obtain ⟨A, ca, rfl, hna, hca⟩ := ha.form
  obtain ⟨B, cb, rfl, hnb, hcb⟩ := hb.form
  have Hoka := Lib.hid hoa; have Hokb := Lib.hid hob
  clear hoa hob
  go_enter Try.func26, Try.ntmps26
  go_wp2
  go_loopw [5, 6] (fun o i wr => ∃ (k : Nat) (R : List Nat), i = .int .i64 k ∧ k ≤ a.length ∧ Hid (NearL a b k R) ∧ OwnsIx wr w.heap.size o R ∧ Below w.heap.size w wr) (fun _ i _ => a.length - (intOf i).toNat)
  case atStart => exact ⟨0, [], rfl, Nat.zero_le _, nearL_zero _ _, own_nilI _ _ _, Below.refl _ _⟩
  case round =>
    obtain ⟨k, R, rfl, hk, HN, hown, hbw⟩ := hrel
    obtain ⟨wo, rfl⟩ : ∃ wo : World, wo = wr := ⟨_, rfl⟩
    by_cases hlt : k < a.length
    · obtain ⟨g1, o1, rfl, hg1⟩ := ha.addr (by omega)
      obtain ⟨g2, o2, rfl, hg2⟩ := hb.addr (by omega)
      have d0 := (ha.below hbw).c0 k hlt
      have d1 := (ha.below hbw).c1 k hlt
      obtain ⟨p1, p2, p3⟩ := ok_of_all Hoka.out hlt
      have Hstep := Lib.hid (fun (n : Nat) h => nearL_step (k := n) HN.out h)
      have Hsp0 : Hid (sp a k = (fr a k, tt a k)) := rfl
      have hRl := HN.out.len
      have z1 : g1 < wo.heap.size := Nat.lt_of_lt_of_le hg1 hbw.size
      generalize fr a k = s0 at *
      generalize tt a k = s1 at *
      go_wp2
      go_loopw [7, 8] (fun be i wr => ∃ (m nb : Nat), i = .int .i64 m ∧ be = .int .i64 nb ∧ m ≤ b.length ∧ nb < b.length ∧ Hid (NearTo (s0, s1) b m nb) ∧ Below wo.heap.size wo wr) (fun _ i _ => b.length - (intOf i).toNat)
      case atStart => exact ⟨1, 0, by go_num, rfl, hb0, hb0, near_zero _ _, Below.refl _ _⟩
      case round =>
        obtain ⟨m, nb, rfl, rfl, hm, hnbl, HS, hbi⟩ := hrel
        by_cases hlm : m < b.length
        · have hbx := hbw.trans (hbi.mono hbw.size)
          have zz1 : g1 < wr.heap.size := Nat.lt_of_lt_of_le z1 hbi.size
          have zz2 : g2 < wr.heap.size := Nat.lt_of_lt_of_le hg2 hbx.size
          have f0 := fun X : BW wr => bw_cell X ((hb.below hbx).c0 m hlm) zz2
          have f1 := fun X : BW wr => bw_cell X ((hb.below hbx).c1 m hlm) zz2
          have f2 := fun X : BW wr => bw_cell X ((hb.below hbx).c0 nb hnbl) zz2
          have f3 := fun X : BW wr => bw_cell X ((hb.below hbx).c1 nb hnbl) zz2
          have f4 := fun X : BW wr => bw_cell X ((hbi.cell (p := ⟨g1, o1 + k * 2, none⟩) z1).trans d0) zz1
          have f5 := fun X : BW wr => bw_cell X ((hbi.cell (p := ⟨g1, o1 + k * 2 + 1, none⟩) z1).trans d1) zz1
          obtain ⟨r1, r2, r3⟩ := ok_of_all Hokb.out hlm
          obtain ⟨q1, q2, q3⟩ := ok_of_all Hokb.out hnbl
          have K1 := Lib.hid (fun W => r44Distance_c s0 s1 (fr b m) (tt b m) W p1 p2 p3 r1 r2 r3)
          have K2 := Lib.hid (fun W => r44Distance_c s0 s1 (fr b nb) (tt b nb) W p1 p2 p3 q1 q2 q3)
          have hnew : (decide (distI (s0, s1) (fr b m, tt b m) < distI (s0, s1) (fr b nb, tt b nb)) = true ∧ Hid (NearTo (s0, s1) b (m + 1) m)) ∨ (decide (distI (s0, s1) (fr b m, tt b m) < distI (s0, s1) (fr b nb, tt b nb)) = false ∧ Hid (NearTo (s0, s1) b (m + 1) nb)) := by
            by_cases h : distI (s0, s1) (sp b m) < distI (s0, s1) (sp b nb)
            · exact .inl ⟨decide_eq_true h, near_take HS.out h⟩
            · exact .inr ⟨decide_eq_false h, near_keep HS.out h⟩
          generalize distI (s0, s1) (fr b m, tt b m) = D1 at *
          generalize distI (s0, s1) (fr b nb, tt b nb) = D2 at *
          generalize fr b m = t0 at *
          generalize tt b m = t1 at *
          generalize fr b nb = u0 at *
          generalize tt b nb = u1 at *
          clear d0 d1
          rcases hnew with ⟨h2, hs⟩ | ⟨h2, hs⟩
          all_goals
            go_wp2_with fail
            refine wp_region_below (by kernel_rfl) (by kernel_rfl) ?_
            repeat (go_big_quiet_step ((go_at_call 59; first | (with_reducible exact calls_bw _ (K1.out _)) | (with_reducible exact calls_bw _ (K2.out _)))))
            refine wpQuiet_nil ?_
            rintro w5 ⟨⟨_, hb5⟩, rfl⟩
            have hb6 := hbi.trans (hb5.mono hbi.size)
            clear f0 f1 f2 f3 f4 f5
            go_wp2
            go_roundw
            case rel => first | exact ⟨m + 1, m, by go_num, rfl, hlm, hlm, hs, hb6⟩ | exact ⟨m + 1, nb, by go_num, rfl, hlm, hnbl, hs, hb6⟩
            case measure => simp [intOf]; omega
        · obtain rfl : m = b.length := by omega
          have hN2 := Hstep.out nb (by rw [Hsp0.out]; exact HS.out)
          have HN2 := Lib.hid hN2
          clear hN2 HS
          have hown2 : OwnsIx wr w.heap.size _ R := own_below hown hbi (Nat.le_refl _)
          have hbw2 := hbw.trans (hbi.mono hbw.size)
          go_wp2_with (at_builtin; refine append_ix tInts tIntInfo (by rfl) (.tmp 41) (.tmp 43) (by rfl) w.heap.size _ R nb (by rfl) hown2 (by rfl) (by omega) hbw2.size ?_; intro v5 w5 hown5 hb5; have hbw5 := hbw2.trans hb5)
          go_roundw
          case rel => exact ⟨k + 1, R ++ [nb], by go_num, hlt, HN2, hown5, hbw5⟩
          case measure => simp [intOf]; omega
    · obtain rfl : k = a.length := by omega
      have Hn := Lib.hid HN.out
      clear HN
      go_wp2
      go_ret
      exact ⟨R, _, Hn.out, rfl, OwnsIx.ints hown, hbw⟩
end Go.Proofs.Ytahpcepnagpbdaa
