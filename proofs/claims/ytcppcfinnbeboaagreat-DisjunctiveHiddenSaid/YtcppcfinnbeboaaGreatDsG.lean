/- Law 47: when a matrix is closed, as the code asks; a bound more; a span more. -/
import Derived.Test.YtcppcfinnbeboaaGreatDsF
namespace Go.Proofs.YtcppcfinnbeboaaGreat
open Go.RowKit Go.Shelf

def badB (x : Int) : Bool := (x != 4398046511104) && (decide (x < -68719476736) || decide (68719476736 < x))
theorem bdclosed1_c (x : Int) (w : World) : Calls Tryz.prog 116 #[.int .i64 x] w (Ret w (.bool (badB x))) := by
  unfold badB
  cases h0 : (x == 4398046511104)
  · have h0' : (x != 4398046511104) = true := by rw [bne, h0]; rfl
    cases h1 : decide (x < -68719476736) <;> cases h2 : decide (68719476736 < x)
    all_goals
      go_enter Tryz.func116, Tryz.ntmps116
      go_wp2_with fail
      go_ret
      exact ⟨by rw [h0']; rfl, Below.refl _ _⟩
  · have h0' : (x != 4398046511104) = false := by rw [bne, h0]; rfl
    go_enter Tryz.func116, Tryz.ntmps116
    go_wp2_with fail
    go_ret
    exact ⟨by rw [h0']; rfl, Below.refl _ _⟩
theorem ent_bdclosed1 : ∀ (args : Array Value) (w : World), Sem.run Tryz.prog (callFunc 116 args) w = .ok (.enter 116 args) w := fun _ _ => by kernel_rfl
def IdxBad (l : List Int) (r : Int) : Prop := (r = -1 ∧ l.any badB = false) ∨ ∃ i : Nat, r = i ∧ l.any badB = true
def IdxBadRet (l : List Int) (w : World) (e : Ending) (w' : World) : Prop := ∃ r, IdxBad l r ∧ e = .returned (.int .i64 r) ∧ Below w.heap.size w w'
set_option maxRecDepth 100000 in
theorem slIndexBad_c (v : Value) (l : List Int) (w : World) (hs : IsInts w v l) : Calls Tryz.prog 38 #[v, .func (.func 116) #[] #[]] w (IdxBadRet l w) := by
  obtain ⟨A, c, rfl, hnc, hc⟩ := hs.form
  go_enter Tryz.func38, Tryz.ntmps38
  go_wp2
  go_loopw [8] (fun i wr => ∃ k : Nat, i = .int .i64 k ∧ k ≤ l.length ∧ Hid (∀ j, j < k → badB (iv l j) = false) ∧ Below w.heap.size w wr) (fun i _ => l.length - (intOf i).toNat)
  case atStart => exact ⟨0, rfl, Nat.zero_le _, Lib.hid (fun j hj => absurd hj (by omega)), Below.refl _ _⟩
  case round =>
    obtain ⟨k, rfl, hk, HA, hb⟩ := hrel
    by_cases hlt : k < l.length
    · obtain ⟨b, off, rfl, hbk⟩ := hs.addr (by omega)
      have c0 := (hs.below hb).c0 k hlt
      have hcall := bdclosed1_c (iv l k) wr
      have hfd : badB (iv l k) = true → IdxBad l (k : Int) := fun h => .inr ⟨k, rfl, any_yes47 (fun i h => iv_at47 h) hlt h⟩
      have hst : badB (iv l k) = false → ∀ j, j < k + 1 → badB (iv l j) = false := fun h j hj => by
        rcases Nat.eq_or_lt_of_le (show j ≤ k by omega) with e | e
        · rw [e]; exact h
        · exact HA.out j e
      generalize badB (iv l k) = z at hcall hfd hst
      cases z
      · have Hcall := Lib.hid hcall
        have Hst := Lib.hid (hst rfl)
        clear hcall hst hfd
        go_wp2_with fail
        refine Hcall.out.mono ?_
        rintro e w2 ⟨rfl, hb2⟩
        have hb3 := hb.trans (hb2.mono hb.size)
        go_wp2
        go_roundw
        case rel => exact ⟨k + 1, by go_num, by omega, Hst, hb3⟩
        case measure => simp [intOf]; omega
      · have Hcall := Lib.hid hcall
        have Hfd := Lib.hid (hfd rfl)
        clear hcall hst hfd
        go_wp2_with fail
        refine Hcall.out.mono ?_
        rintro e w2 ⟨rfl, hb2⟩
        have hb3 := hb.trans (hb2.mono hb.size)
        go_wp2
        go_ret
        exact ⟨_, Hfd.out, rfl, hb3⟩
    · obtain rfl : k = l.length := by omega
      have Hr : Hid (IdxBad l (-1)) := .inl ⟨rfl, any_no47 (fun i h => iv_at47 h) HA.out⟩
      clear HA
      go_wp2
      go_ret
      exact ⟨_, Hr.out, rfl, hb⟩
theorem slContainsBad_c (v : Value) (l : List Int) (w : World) (hs : IsInts w v l) : Calls Tryz.prog 21 #[v, .func (.func 116) #[] #[]] w (Ret w (.bool (l.any badB))) := by
  have K := Lib.hid (slIndexBad_c v l w hs)
  clear hs
  cases q : l.any badB
  all_goals
    have Q := Lib.hid q; clear q
    go_enter Tryz.func21, Tryz.ntmps21
    go_wp2_with fail
    refine K.out.mono ?_
    rintro e w1 ⟨r, hr, rfl, hb⟩
    rcases hr with ⟨rfl, h⟩ | ⟨i, rfl, h⟩
    all_goals first
      | exact absurd (h.symm.trans Q.out) (by decide)
      | (have i0 : decide ((0 : Int) ≤ (i : Int)) = true := decide_eq_true (by omega)
         clear h
         go_wp2_with fail
         go_ret
         exact ⟨rfl, hb⟩)
      | (clear h
         go_wp2_with fail
         go_ret
         exact ⟨rfl, hb⟩)

theorem eql_nilG (a : Option Addr) (n c : Nat) (w : World) : (binOp .eql 25 (.slice a n c) (.slice none 0 0)).run Tryz.prog w = .ok (.bool a.isNone) w := by
  simp only [binOp]
  simp [run_equal_slice_nil (P := Tryz.prog) w 25 3 a n c tInts]
section
attribute [local go_sem ↓] eql_nilG
def RowOut (n : Nat) (f : Nat → Int) (w : World) (e : Ending) (w' : World) : Prop := ∃ g c, e = .returned (.slice (some ⟨g, 0, none⟩) n c) ∧ RowAt w' g n f ∧ w.heap.size ≤ g ∧ n ≤ c ∧ c ≤ 9223372036854775807 ∧ Below w.heap.size w w'
set_option maxRecDepth 100000 in
theorem slCloneRow_c (g n c : Nat) (l : List Int) (w : World) (hs : IsInts w (.slice (some ⟨g, 0, none⟩) n c) l) (hl : l.length = n) (h1 : 1 ≤ n) (hn : n ≤ 1000) : Calls Tryz.prog 30 #[.slice (some ⟨g, 0, none⟩) n c] w (RowOut n (iv l) w) := by
  subst hl
  go_enter Tryz.func30, Tryz.ntmps30
  go_wp2_with (at_builtin; refine append_ints tInts tIntInfo (by rfl) (.tmp 5) (.tmp 6) (by rfl) w.heap.size _ _ 0 [] l (by rfl) (World.ownsRow_made w #[] 0 (Nat.le_refl _) (by unfold maxLen; omega) rfl) rfl (by rfl) (hs.alloc _) (by omega) (by simp) ?_; intro v3 w1 hown1 hb1)
  go_ret
  rw [List.nil_append] at hown1
  rcases hown1.2 with ⟨_, h0⟩ | ⟨gg, cap, cur, rfl, hg, hh, h4, h5, h6, h7⟩
  · omega
  · refine ⟨gg, cap, rfl, ⟨cur, hh, by omega, fun j hj => ?_⟩, hg, h4, by unfold maxLen at h5; exact h5, ((Below.refl w.heap.size w).alloc (Nat.le_refl _) _).trans hb1⟩
    have e := flatI_get l j hj
    rw [← h7, List.getElem?_take_of_lt (by omega), Array.getElem?_toList] at e
    exact e
end
set_option maxRecDepth 100000 in
set_option maxHeartbeats 8000000 in
theorem bdclosed_c (v : Value) (N : Nat) (M : Mat) (w : World) (hm : MatR w v N M) (hN1 : 1 ≤ N) (hN : N ≤ 24) (hc : Clo N M) (hnr : Near N 26843545600 M) : Calls Tryz.prog 100 #[v] w (Ret w (.bool true)) := by
  have hm0 := hm
  obtain ⟨b, c, G, C, rfl, h1, h2, h3, h4⟩ := hm
  have g0 : decide ((N : Int) < 1) = false := decide_eq_false (by omega)
  have g1 : decide ((24 : Int) < (N : Int)) = false := decide_eq_false (by omega)
  have g00 : decide (N < 1) = false := decide_eq_false (by omega)
  have g01 : ¬ N = 0 := by omega
  have g11 : decide (24 < N) = false := decide_eq_false (by omega)
  have HN := Lib.hid hN; have HN1 := Lib.hid hN1
  have HM : Hid (∀ X, Below w.heap.size w X → ∀ i, i < N → X.cell? ⟨b, i, none⟩ = some (.slice (some ⟨G i, 0, none⟩) N (C i)) ∧ IsInts X (.slice (some ⟨G i, 0, none⟩) N (C i)) (rowL M N i) ∧ ∀ j, j < N → X.cell? ⟨G i, j, none⟩ = some (.int .i64 (M i j))) := Lib.hid fun X hX i hi => by
    obtain ⟨k1, k2, k3, k4, k5⟩ := h4 i hi
    have hcell : ∀ j, j < N → X.cell? ⟨G i, j, none⟩ = some (.int .i64 (M i j)) := fun j hj => (hX.cell (p := ⟨G i, j, none⟩) k2).trans (k5 j hj)
    exact ⟨(hX.cell (p := ⟨b, i, none⟩) h3).trans k1, cells_ints (Nat.lt_of_lt_of_le k2 hX.size) (rowL_len M N i) k3 k4 (fun j hj => by rw [rowL_iv M N i hj]; exact hcell j hj), hcell⟩
  have KB : Hid (∀ X, Below w.heap.size w X → ∀ i, i < N → Calls Tryz.prog 21 #[.slice (some ⟨G i, 0, none⟩) N (C i), .func (.func 116) #[] #[]] X (Ret X (.bool false))) := Lib.hid fun X hX i hi => by
    have h := slContainsBad_c _ _ X (HM.out X hX i hi).2.1
    have e : (rowL M N i).any badB = false := any_no47 (fun k hk => iv_at47 hk) fun k hk => by
      rw [rowL_len] at hk
      rw [rowL_iv M N i hk]
      have := hnr i k hi hk
      unfold badB
      rcases Int.lt_or_le (M i k) noneD with h5 | h5
      · have := this.2 h5
        rw [decide_eq_false (by omega), decide_eq_false (by omega)]
        simp
      · have e : M i k = 4398046511104 := by unfold noneD at *; omega
        rw [e]
        rfl
    rw [e] at h
    exact h
  have HD : Hid (∀ i, i < N → M i i = 0) := Lib.hid hc.dia
  have HI : Hid (∀ i j, i < N → j < N → -9223372036854775808 ≤ M i j ∧ M i j ≤ 9223372036854775807) := Lib.hid fun i j hi hj => by
    have := hnr i j hi hj
    rcases Int.lt_or_le (M i j) noneD with h5 | h5
    · have := this.2 h5; omega
    · unfold noneD at *; omega
  have HT : Hid (∀ i j k, i < N → j < N → k < N → M i k ≤ plusC (M i j) (M j k)) := Lib.hid fun i j k hi hj hk => by
    have a1 := hnr i j hi hj
    have a2 := hnr j k hj hk
    have a3 := hnr i k hi hk
    by_cases e1 : M i j < noneD
    · by_cases e2 : M j k < noneD
      · have t := hc.tri i k j hi hk hj e1 e2
        have b1 := a1.2 e1
        have b2 := a2.2 e2
        rw [plusC_fin (by omega) (by omega)]
        exact t.2
      · rw [plusC_none (.inr (by omega))]
        exact a3.1
    · rw [plusC_none (.inl (by omega))]
      exact a3.1
  clear hm0 h1 h2 h3 h4 hN hN1 hc hnr
  go_enter Tryz.func100, Tryz.ntmps100
  go_wp2_with fail
  clear g0 g1 g00 g01 g11
  go_loopw [19] (fun i wr => ∃ k : Nat, i = .int .i64 (k : Int) ∧ k ≤ N ∧ Below w.heap.size w wr) (fun i _ => N - (intOf i).toNat)
  case atStart => exact ⟨0, rfl, Nat.zero_le _, Below.refl _ _⟩
  case round =>
    obtain ⟨k, rfl, hk, hb⟩ := hrel
    rcases Nat.lt_or_ge k N with hlt | hge
    · have k0 : decide ((k : Int) < (N : Int)) = true := decide_eq_true (by omega)
      have k00 : decide (k < N) = true := decide_eq_true (by omega)
      have k1 : IntKind.i64.wrap ((k : Int) + 1) = (k : Int) + 1 := by rw [IntKind.wrap_i64]; have := HN.out; omega
      have k2 : (0 : Int) ≤ (k : Int) := by omega
      have k3 : (k : Int) < (N : Int) := by omega
      have n0 : ((N : Int) != (N : Int)) = false := by simp
      obtain ⟨d0, _, d2⟩ := HM.out _ hb k hlt
      have d3 := d2 k hlt
      rw [HD.out k hlt] at d3
      have K1 := Lib.hid (KB.out _ hb k hlt)
      have Hlt := Lib.hid hlt; have Hb := Lib.hid hb
      clear hb hlt hk d2
      go_wp2_with fail
      refine K1.out.mono ?_
      rintro e w2 ⟨rfl, hb2⟩
      have Hb2 := Lib.hid (Hb.out.trans (hb2.mono Hb.out.size))
      clear hb2
      go_wp2_with fail
      go_roundw
      case rel => exact ⟨k + 1, by go_num, Hlt.out, Hb2.out⟩
      case measure => have := Hlt.out; simp [intOf]; omega
    obtain rfl : N = k := by omega
    have k0 : decide ((N : Int) < (N : Int)) = false := decide_eq_false (by omega)
    have Hb := Lib.hid hb
    clear hb hge hk
    go_wp2_with fail
    clear k0
    go_loopw [41] (fun i wr => ∃ k : Nat, i = .int .i64 (k : Int) ∧ k ≤ N ∧ Below w.heap.size w wr) (fun i _ => N - (intOf i).toNat)
    case atStart => exact ⟨0, rfl, Nat.zero_le _, Hb.out⟩
    case round =>
      obtain ⟨i, rfl, hi, hb⟩ := hrel
      rcases Nat.lt_or_ge i N with hil | hil
      rotate_left
      · obtain rfl : N = i := by omega
        have k0 : decide ((N : Int) < (N : Int)) = false := decide_eq_false (by omega)
        have Hb := Lib.hid hb
        clear hb hil hi
        go_wp2_with fail
        go_ret
        exact ⟨rfl, Hb.out⟩
      have i0 : decide ((i : Int) < (N : Int)) = true := decide_eq_true (by omega)
      have i00 : decide (i < N) = true := decide_eq_true (by omega)
      have i1 : IntKind.i64.wrap ((i : Int) + 1) = (i : Int) + 1 := by rw [IntKind.wrap_i64]; have := HN.out; omega
      have i2 : (0 : Int) ≤ (i : Int) := by omega
      have i3 : (i : Int) < (N : Int) := by omega
      have Hil := Lib.hid hil; have Hb := Lib.hid hb
      clear hb hil hi
      go_wp2_with fail
      go_loopw [45] (fun q wr => ∃ k : Nat, q = .int .i64 (k : Int) ∧ k ≤ N ∧ Below w.heap.size w wr) (fun q _ => N - (intOf q).toNat)
      case atStart => exact ⟨0, rfl, Nat.zero_le _, Hb.out⟩
      case round =>
        obtain ⟨j, rfl, hj, hb⟩ := hrel
        rcases Nat.lt_or_ge j N with hjl | hjl
        rotate_left
        · obtain rfl : N = j := by omega
          have k0 : decide ((N : Int) < (N : Int)) = false := decide_eq_false (by omega)
          have Hb := Lib.hid hb
          clear hb hjl hj
          go_wp2_with fail
          go_roundw
          case rel => exact ⟨i + 1, by go_num, Hil.out, Hb.out⟩
          case measure => have := Hil.out; simp [intOf]; omega
        have j0 : decide ((j : Int) < (N : Int)) = true := decide_eq_true (by omega)
        have j00 : decide (j < N) = true := decide_eq_true (by omega)
        have j1 : IntKind.i64.wrap ((j : Int) + 1) = (j : Int) + 1 := by rw [IntKind.wrap_i64]; have := HN.out; omega
        have j2 : (0 : Int) ≤ (j : Int) := by omega
        have j3 : (j : Int) < (N : Int) := by omega
        have Hjl := Lib.hid hjl; have Hb := Lib.hid hb
        clear hb hjl hj
        go_wp2_with fail
        go_loopw [49] (fun q wr => ∃ k : Nat, q = .int .i64 (k : Int) ∧ k ≤ N ∧ Below w.heap.size w wr) (fun q _ => N - (intOf q).toNat)
        case atStart => exact ⟨0, rfl, Nat.zero_le _, Hb.out⟩
        case round =>
          obtain ⟨k, rfl, hk, hb⟩ := hrel
          rcases Nat.lt_or_ge k N with hkl | hkl
          rotate_left
          · obtain rfl : N = k := by omega
            have k0 : decide ((N : Int) < (N : Int)) = false := decide_eq_false (by omega)
            have Hb := Lib.hid hb
            clear hb hkl hk
            go_wp2_with fail
            go_roundw
            case rel => exact ⟨j + 1, by go_num, Hjl.out, Hb.out⟩
            case measure => have := Hjl.out; simp [intOf]; omega
          have k0 : decide ((k : Int) < (N : Int)) = true := decide_eq_true (by omega)
          have k00 : decide (k < N) = true := decide_eq_true (by omega)
          have k1 : IntKind.i64.wrap ((k : Int) + 1) = (k : Int) + 1 := by rw [IntKind.wrap_i64]; have := HN.out; omega
          have k2 : (0 : Int) ≤ (k : Int) := by omega
          have k3 : (k : Int) < (N : Int) := by omega
          have hbd := hb.drew
          obtain ⟨d0, _, d1⟩ := HM.out _ hbd i Hil.out
          obtain ⟨e0, _, e1⟩ := HM.out _ hbd j Hjl.out
          have x0 := d1 k hkl
          have x1 := d1 j Hjl.out
          have x2 := e1 k hkl
          have KP : Hid (∀ W, Calls Tryz.prog 79 #[.int .i64 (M i j), .int .i64 (M j k)] W fun e w' => e = .returned (.int .i64 (plusC (M i j) (M j k))) ∧ w' = W) := Lib.hid fun W => bdplus_c _ _ W (HI.out i j Hil.out Hjl.out) (HI.out j k Hjl.out hkl)
          have q0 : decide (plusC (M i j) (M j k) < M i k) = false := decide_eq_false (by have := HT.out i j k Hil.out Hjl.out hkl; omega)
          generalize plusC (M i j) (M j k) = pl at *
          have Hkl := Lib.hid hkl; have Hb := Lib.hid hbd
          clear hb hkl hk d1 e1 hbd
          go_wp2_with fail
          refine wp_region_still_lit (by kernel_rfl) (by kernel_rfl) ?_
          repeat (first | still_step | still_call (KP.out _))
          refine wpStill_nil ?_
          have hrec : ({ heap := wr.heap, tape := wr.tape, drawn := wr.drawn + 1, os := wr.os, output := wr.output } : World) = wr.drew := rfl
          rw [hrec]
          clear hrec d0 e0 x0 x1 x2
          generalize wr.drew = w5 at Hb ⊢
          go_wp2_with fail
          go_roundw
          case rel => exact ⟨k + 1, by go_num, Hkl.out, Hb.out⟩
          case measure => have := Hkl.out; simp [intOf]; omega
end Go.Proofs.YtcppcfinnbeboaaGreat
