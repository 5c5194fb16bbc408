/- Law 47: disjunctive.Count. -/
import Derived.Test.YtcppcfinnbeboaaDkO
import Derived.Test.YtcppcfinnbeboaaDkL
import Derived.Test.YtcppcfinnbeboaaDkC
namespace Go.Proofs.Ytcppcfinnbeboaa
open Go.RowKit Go.Shelf

/-- A span or a budget that Count refuses. -/
def rangeB (f t most : Int) : Bool := decide (t ≤ f) || !nearB f || !nearB t || decide (most < 1) || decide (1000000 < most)
def CountIs (x c : Int) (w : World) (e : Ending) (w' : World) : Prop := e = .returned (.tuple #[.int .i64 x, .int .i64 c]) ∧ Below w.heap.size w w'
theorem row_ints {w : World} {g n : Nat} {f : Nat → Int} {l : List Int} (h : RowAt w g n f) (hl : l.length = n) (hf : ∀ i, i < n → iv l i = f i) (hn : n ≤ 1000000) : IsInts w (.slice (some ⟨g, 0, none⟩) n n) l := by
  refine ⟨some ⟨g, 0, none⟩, n, by rw [hl], by omega, by omega, fun _ => ⟨g, 0, rfl, h.lt, fun i j hi hj => ?_⟩⟩
  obtain rfl : j = 0 := by omega
  rw [hl] at hi
  have := h.cell i hi
  unfold intCell
  rw [hf i hi]
  simpa using this
theorem djCount_bad (n : Int) (v : Value) (l : List Cho) (f t most : Int) (w : World) (hs : IsChos w v l) (hv : netB n l = false) : Calls Try.prog 18 #[.int .i64 n, v, .agg #[.int .i64 f, .int .i64 t], .int .i64 most] w (CountIs 0 1 w) := by
  have hbA := (Below.refl w.heap.size w).alloc (Nat.le_refl _) (.cells #[.int .i64 f, .int .i64 t] 38)
  have KV := djValid_c n v l _ (hs.below hbA)
  rw [hv] at KV
  have KV2 := Lib.hid KV; have HbA := Lib.hid hbA
  clear hs hv KV hbA
  go_enter Try.func18, Try.ntmps18
  go_wp2_with fail
  refine KV2.out.mono ?_
  rintro e w1 ⟨rfl, hb⟩
  have HF := Lib.hid (HbA.out.trans (hb.mono HbA.out.size))
  clear hb
  go_wp2_with fail
  go_ret2
  exact ⟨rfl, HF.out⟩
set_option maxHeartbeats 4000000 in
theorem djCount_range (n : Int) (v : Value) (l : List Cho) (f t most : Int) (w : World) (hs : IsChos w v l) (hv : netB n l = true) (hr : rangeB f t most = true) : Calls Try.prog 18 #[.int .i64 n, v, .agg #[.int .i64 f, .int .i64 t], .int .i64 most] w (CountIs 0 2 w) := by
  have hbA := (Below.refl w.heap.size w).alloc (Nat.le_refl _) (.cells #[.int .i64 f, .int .i64 t] 38)
  have hT := heap_alloc_new w (.cells #[.int .i64 f, .int .i64 t] 38)
  have FC : Hid (∀ X, Below (w.alloc (.cells #[.int .i64 f, .int .i64 t] 38)).heap.size (w.alloc (.cells #[.int .i64 f, .int .i64 t] 38)) X → X.cell? ⟨w.heap.size, 0, none⟩ = some (.int .i64 f) ∧ X.cell? ⟨w.heap.size, 1, none⟩ = some (.int .i64 t)) := Lib.hid fun X h => by
    have f1 := (h.block _ (blk_lt hT)).trans hT
    exact ⟨blk_get f1 0, blk_get f1 1⟩
  have KV := djValid_c n v l _ (hs.below hbA)
  rw [hv] at KV
  have KV2 := Lib.hid KV; have HbA := Lib.hid hbA
  have KF : Hid (∀ X, Calls Try.prog 42 #[.int .i64 f] X (Ret X (.bool (nearB f)))) := Lib.hid fun X => djnear_c f X
  have KT : Hid (∀ X, Calls Try.prog 42 #[.int .i64 t] X (Ret X (.bool (nearB t)))) := Lib.hid fun X => djnear_c t X
  unfold rangeB at hr
  clear hs hv KV hbA hT
  generalize nearB f = nf at *
  generalize nearB t = nt at *
  go_enter Try.func18, Try.ntmps18
  go_wp2_with fail
  refine KV2.out.mono ?_
  rintro e w1 ⟨rfl, hb⟩
  obtain ⟨c0, c1⟩ := FC.out _ hb
  have hB := HbA.out.trans (hb.mono HbA.out.size)
  cases g0 : decide (t ≤ f)
  rotate_left
  · clear hr KF KT hb FC
    go_wp2_with fail
    go_ret2
    exact ⟨rfl, hB⟩
  cases nf
  · clear hr KT
    go_wp2_with fail
    refine (KF.out _).mono ?_
    rintro e w2 ⟨rfl, hb2⟩
    have HF := Lib.hid (hB.trans (hb2.mono hB.size))
    clear hb2
    go_wp2_with fail
    go_ret2
    exact ⟨rfl, HF.out⟩
  cases nt
  · clear hr
    go_wp2_with fail
    refine (KF.out _).mono ?_
    rintro e w2 ⟨rfl, hb2⟩
    obtain ⟨c2, c3⟩ := FC.out _ (hb.trans (hb2.mono hb.size))
    have hB2 := hB.trans (hb2.mono hB.size)
    clear hb2 hB
    go_wp2_with fail
    refine (KT.out _).mono ?_
    rintro e w3 ⟨rfl, hb3⟩
    have HF := Lib.hid (hB2.trans (hb3.mono hB2.size))
    clear hb3
    go_wp2_with fail
    go_ret2
    exact ⟨rfl, HF.out⟩
  cases g1 : decide (most < 1) <;> cases g2 : decide (1000000 < most)
  · rw [g0, g1, g2] at hr
    cases hr
  all_goals
    clear hr
    go_wp2_with fail
    refine (KF.out _).mono ?_
    rintro e w2 ⟨rfl, hb2⟩
    obtain ⟨c2, c3⟩ := FC.out _ (hb.trans (hb2.mono hb.size))
    have hB2 := hB.trans (hb2.mono hB.size)
    clear hb2 hB
    go_wp2_with fail
    refine (KT.out _).mono ?_
    rintro e w3 ⟨rfl, hb3⟩
    have HF := Lib.hid (hB2.trans (hb3.mono hB2.size))
    clear hb3
    go_wp2_with fail
    go_ret2
    exact ⟨rfl, HF.out⟩
/-- What Count answers otherwise. -/
def countX (l : List Cho) (n : Nat) (f t most : Int) : Int × Int :=
  if most.toNat < growN (t - f).toNat most.toNat (n - 1) then (0, 5)
  else if decide (f ≤ 0) && decide (0 < t) then (((cntK l f (t - f).toNat n ((t - f).toNat ^ (n - 1)) : Nat) : Int), 0) else (0, 0)
set_option maxRecDepth 100000 in
set_option maxHeartbeats 16000000 in
theorem djCount_c (N : Nat) (v : Value) (l : List Cho) (f t most : Int) (w : World) (hs : IsChos w v l) (hv : netB (N : Int) l = true) (hr : rangeB f t most = false) : Calls Try.prog 18 #[.int .i64 (N : Int), v, .agg #[.int .i64 f, .int .i64 t], .int .i64 most] w (CountIs (countX l N f t most).1 (countX l N f t most).2 w) := by
  have hbA := (Below.refl w.heap.size w).alloc (Nat.le_refl _) (.cells #[.int .i64 f, .int .i64 t] 38)
  have hT := heap_alloc_new w (.cells #[.int .i64 f, .int .i64 t] 38)
  obtain ⟨W, hW⟩ : ∃ y, y = w.alloc (.cells #[.int .i64 f, .int .i64 t] 38) := ⟨_, rfl⟩
  obtain ⟨b6, hb6⟩ : ∃ y, y = w.heap.size := ⟨_, rfl⟩
  rw [← hW] at hbA hT
  rw [← hb6] at hT
  have FC : Hid (∀ X, Below W.heap.size W X → X.cell? ⟨b6, 0, none⟩ = some (.int .i64 f) ∧ X.cell? ⟨b6, 1, none⟩ = some (.int .i64 t)) := Lib.hid fun X h => by
    have f1 := (h.block _ (blk_lt hT)).trans hT
    exact ⟨blk_get f1 0, blk_get f1 1⟩
  have KV := djValid_c N v l _ (hs.below hbA)
  rw [hv] at KV
  have hn : 1 ≤ N ∧ N ≤ 24 ∧ StOk N l := by
    unfold netB at hv
    simp only [Bool.and_eq_true, decide_eq_true_eq] at hv
    exact ⟨by omega, by omega, hv.1.2, fun i hi => choB_N (List.all_eq_true.1 hv.2 _ (cho_mem hi))⟩
  obtain ⟨n1, n24, hst⟩ := hn
  have hrr : f < t ∧ (-1073741824 ≤ f ∧ f ≤ 1073741824) ∧ (-1073741824 ≤ t ∧ t ≤ 1073741824) ∧ 1 ≤ most ∧ most ≤ 1000000 := by
    unfold rangeB nearB at hr
    simp only [Bool.or_eq_false_iff, Bool.not_eq_false', Bool.and_eq_true, decide_eq_true_eq, decide_eq_false_iff_not] at hr
    omega
  have hnf : nearB f = true := by unfold nearB; simp only [Bool.and_eq_true, decide_eq_true_eq]; omega
  have hnt : nearB t = true := by unfold nearB; simp only [Bool.and_eq_true, decide_eq_true_eq]; omega
  have KF : Hid (∀ X, Calls Try.prog 42 #[.int .i64 f] X (Ret X (.bool true))) := Lib.hid fun X => by have := djnear_c f X; rwa [hnf] at this
  have KT : Hid (∀ X, Calls Try.prog 42 #[.int .i64 t] X (Ret X (.bool true))) := Lib.hid fun X => by have := djnear_c t X; rwa [hnt] at this
  have KH : Hid (∀ X, Calls Try.prog 44 #[.agg #[.int .i64 f, .int .i64 t], .int .i64 0] X (Ret X (.bool (decide (f ≤ 0) && decide (0 < t))))) := Lib.hid fun X => ivHas47_c f t 0 X (by rw [okSpan_iff]; unfold OkSp; simp only; omega)
  have KS : Hid (∀ X u ts, Below W.heap.size W X → IsInts X u ts → ts.length = N → (∀ i, i < N → -1073741824 ≤ iv ts i ∧ iv ts i ≤ 1073741824) → Calls Try.prog 40 #[v, u] X (Ret X (.bool (l.all (satB ts))))) := Lib.hid fun X u ts h h1 h2 h3 => djsatisfies_c v u l ts X ((hs.below hbA).below h) h1 hst.1 (by rw [h2]; exact hst.2) (fun i hi => by have := h3 i (by omega); omega)
  obtain ⟨L, hL⟩ : ∃ L : Nat, L = (t - f).toNat := ⟨_, rfl⟩
  obtain ⟨m, rfl⟩ : ∃ m : Nat, most = (m : Int) := ⟨most.toNat, by omega⟩
  have hX : ∀ x, growN L m (N - 1) = x → countX l N f t (m : Int) = if m < x then (0, 5) else if decide (f ≤ 0) && decide (0 < t) then (((cntK l f L N (L ^ (N - 1)) : Nat) : Int), 0) else (0, 0) := fun x hx => by
    unfold countX
    rw [← hL, Int.toNat_natCast, hx]
  have z1 : IntKind.i64.wrap (t - f) = (L : Int) := by rw [IntKind.wrap_i64]; omega
  have z2 : IntKind.i64.wrap ((N : Int) - 1) = ((N - 1 : Nat) : Int) := by rw [IntKind.wrap_i64]; omega
  have g0 : decide (t ≤ f) = false := decide_eq_false (by omega)
  have g1 : decide ((m : Int) < 1) = false := decide_eq_false (by omega)
  have g2 : decide ((1000000 : Int) < (m : Int)) = false := decide_eq_false (by omega)
  have HL : Hid (1 ≤ L ∧ L ≤ 2147483648 ∧ f + L = t) := Lib.hid (by omega)
  have Hft : Hid (-1073741824 ≤ f ∧ t ≤ 1073741824) := Lib.hid (by omega)
  have Hm : Hid (1 ≤ m ∧ m ≤ 1000000) := Lib.hid (by omega)
  have HN : Hid (1 ≤ N ∧ N ≤ 24) := Lib.hid ⟨n1, n24⟩
  have HX := Lib.hid hX; have KV2 := Lib.hid KV; have HbA := Lib.hid hbA; have HW := Lib.hid hW; have Hb6 := Lib.hid hb6
  have hmi := fun X => made_intN X N (by omega)
  clear hs hv hr KV hbA hT hW hb6 hX hnf hnt hrr hst n1 n24 hL
  go_enter Try.func18, Try.ntmps18
  go_wp2_with fail
  rw [← HW.out, ← Hb6.out]
  refine KV2.out.mono ?_
  rintro e w1 ⟨rfl, hb1⟩
  obtain ⟨c0, c1⟩ := FC.out _ hb1
  go_wp2_with fail
  refine (KF.out _).mono ?_
  rintro e w2 ⟨rfl, hb2⟩
  have hb2 := hb1.trans (hb2.mono hb1.size)
  obtain ⟨c0, c1⟩ := FC.out _ hb2
  clear hb1
  go_wp2_with fail
  refine (KT.out _).mono ?_
  rintro e w3 ⟨rfl, hb3⟩
  have hb3 := hb2.trans (hb3.mono hb2.size)
  obtain ⟨c0, c1⟩ := FC.out _ hb3
  have Hb3 := Lib.hid hb3
  clear hb2 hb3
  go_wp2_with fail
  clear c0 c1 g0 g1 g2 z1 z2
  go_loopw [11, 56] (fun al i wr => ∃ j : Nat, i = .int .i64 (j : Int) ∧ j ≤ N - 1 ∧ al = .int .i64 (growN L m j : Nat) ∧ Hid (growN L m j ≤ m) ∧ Below W.heap.size W wr) (fun _ i _ => N - (intOf i).toNat)
  case atStart => exact ⟨0, rfl, Nat.zero_le _, rfl, Lib.hid (by have := Hm.out; show 1 ≤ m; omega), Hb3.out⟩
  case round =>
    obtain ⟨j, rfl, hj, rfl, HG, hb⟩ := hrel
    rcases Nat.lt_or_ge j (N - 1) with hjl | hjl
    · have j0 : decide ((j : Int) < ((N - 1 : Nat) : Int)) = true := decide_eq_true (by omega)
      have j1 : IntKind.i64.wrap ((j : Int) + 1) = (j : Int) + 1 := by rw [IntKind.wrap_i64]; have := HN.out; omega
      have hle : growN L m j * L ≤ 1000000 * 2147483648 := Nat.mul_le_mul (by have := HG.out; have := Hm.out; omega) HL.out.2.1
      have KM := Lib.hid (fun X => inMul_c (growN L m j) L (by have := HG.out; have := Hm.out; omega) (by have := HL.out; omega) (by omega) X)
      have hgs : growN L m (j + 1) = growN L m j * L := by rw [growN, if_pos HG.out]
      have hmore : m < growN L m j * L → countX l N f t (m : Int) = (0, 5) := fun h => by
        rw [HX.out _ rfl, if_pos]
        rw [← hgs] at h
        have h2 := growN_stay h (N - 1 - (j + 1))
        rw [show j + 1 + (N - 1 - (j + 1)) = N - 1 from by omega] at h2
        omega
      generalize growN L m j * L = x at *
      have Hgs := Lib.hid hgs; have Hmore := Lib.hid hmore; have Hjl := Lib.hid hjl; have Hb := Lib.hid hb
      clear hgs hmore hle hjl hj hb
      cases q0 : decide ((m : Int) < ((x : Nat) : Int))
      · have q1 : decide (m < x) = false := decide_eq_false (by have := of_decide_eq_false q0; omega)
        have HG2 : Hid (growN L m (j + 1) ≤ m) := Lib.hid (by rw [Hgs.out]; have := of_decide_eq_false q0; omega)
        go_wp2_with fail
        refine (KM.out _).mono ?_
        rintro e w4 ⟨rfl, rfl⟩
        go_wp2_with fail
        go_roundw
        case rel => exact ⟨j + 1, by go_num, Hjl.out, by rw [Hgs.out], HG2, Hb.out⟩
        case measure => have := Hjl.out; simp [intOf]; omega
      · have q1 : decide (m < x) = true := decide_eq_true (by have := of_decide_eq_true q0; omega)
        have HR := Lib.hid (Hmore.out (by have := of_decide_eq_true q0; omega))
        go_wp2_with fail
        refine (KM.out _).mono ?_
        rintro e w4 ⟨rfl, rfl⟩
        go_wp2_with fail
        go_ret2
        rw [HR.out]
        exact ⟨rfl, HbA.out.trans (Hb.out.mono HbA.out.size)⟩
    · obtain rfl : j = N - 1 := by omega
      have j0 : decide (((N - 1 : Nat) : Int) < ((N - 1 : Nat) : Int)) = false := decide_eq_false (by omega)
      have hX := HX.out _ rfl
      rw [if_neg (by have := HG.out; omega)] at hX
      have hpw := growN_pow (N - 1) HG.out
      have hpm := HG.out
      rw [hpw] at hpm ⊢
      generalize L ^ (N - 1) = P at *
      obtain ⟨c0, c1⟩ := FC.out _ hb
      have Hpm := Lib.hid (show P ≤ 1000000 by have := Hm.out; omega)
      have Hb := Lib.hid hb
      clear HX HG hpw hpm hb hj hjl
      cases hz : (decide (f ≤ 0) && decide (0 < t))
      · rw [hz] at hX KH
        have HR := Lib.hid hX
        clear hX hz
        go_wp2_with fail
        refine (KH.out _).mono ?_
        rintro e w5 ⟨rfl, hb5⟩
        have HF := Lib.hid (HbA.out.trans ((Hb.out.trans (hb5.mono Hb.out.size)).mono HbA.out.size))
        clear hb5
        go_wp2_with fail
        go_ret2
        rw [HR.out]
        exact ⟨rfl, HF.out⟩
      rw [hz] at hX KH
      have HR := Lib.hid hX
      clear hX hz
      go_wp2_with fail
      refine (KH.out _).mono ?_
      rintro e w5 ⟨rfl, hb5⟩
      have hb5 := Hb.out.trans (hb5.mono Hb.out.size)
      obtain ⟨g, hg⟩ : ∃ y, y = w5.heap.size := ⟨_, rfl⟩
      obtain ⟨X1, hX1⟩ : ∃ y, y = w5.alloc (.cells (Array.replicate N (.int .i64 0)) 3) := ⟨_, rfl⟩
      have hb6 : Below W.heap.size W X1 := by rw [hX1]; exact hb5.alloc hb5.size _
      have hrow : RowAt X1 g N (fun _ => 0) := ⟨Array.replicate N (.int .i64 0), by rw [hX1, hg]; exact heap_alloc_new w5 _, by simp, fun i hi => by simp [hi]⟩
      have Hwg := Lib.hid (show W.heap.size ≤ g by rw [hg]; exact hb5.size)
      have HX1 := Lib.hid hX1; have Hg := Lib.hid hg; have Hb6 := Lib.hid hb6; have Hrow := Lib.hid hrow
      clear hX1 hg hb6 hrow hb5 c0 c1 j0
      go_wp2_with fail
      rw [← HX1.out, ← Hg.out]
      clear hmi
      go_loopw [15, 79] (fun s i wq => ∃ (k : Nat) (fn : Nat → Int), i = .int .i64 (k : Int) ∧ k ≤ P ∧ s = .int .i64 (cntK l f L N k : Nat) ∧ RowAt wq g N fn ∧ fn 0 = 0 ∧ Below W.heap.size W wq) (fun _ i _ => P - (intOf i).toNat)
      case atStart => exact ⟨0, _, rfl, Nat.zero_le _, rfl, Hrow.out, rfl, Hb6.out⟩
      case round =>
        obtain ⟨k, fn, rfl, hk, rfl, hrow, hf0, hb⟩ := hrel
        rcases Nat.lt_or_ge k P with hkl | hkl
        rotate_left
        · obtain rfl : k = P := by omega
          have k0 : decide ((k : Int) < (k : Int)) = false := decide_eq_false (by omega)
          have HF := Lib.hid (HbA.out.trans (hb.mono HbA.out.size))
          clear hrow hb hf0 hk hkl
          go_wp2_with fail
          go_ret2
          rw [HR.out]
          exact ⟨rfl, HF.out⟩
        have k0 : decide ((k : Int) < (P : Int)) = true := decide_eq_true (by omega)
        have k00 : decide (k < P) = true := decide_eq_true hkl
        have k1 : IntKind.i64.wrap ((k : Int) + 1) = (k : Int) + 1 := by rw [IntKind.wrap_i64]; have := Hpm.out; omega
        have Hkl := Lib.hid hkl; have Hf0 := Lib.hid hf0; have Hb := Lib.hid hb; have Hrow := Lib.hid hrow
        clear hkl hf0 hb hrow hk
        go_wp2_with fail
        go_loopw [16, 17] (fun q i wq => ∃ (j : Nat), 1 ≤ j ∧ j ≤ N ∧ i = .int .i64 (j : Int) ∧ q = .int .i64 ((k / L ^ (j - 1) : Nat) : Int) ∧ RowAt wq g N (fun i => if i < j then rowN f L k i else fn i) ∧ Below W.heap.size W wq) (fun _ i _ => N - (intOf i).toNat)
        case atStart => exact ⟨1, Nat.le_refl _, HN.out.1, rfl, by rw [Nat.sub_self, Nat.pow_zero, Nat.div_one], Hrow.out.congr (fun i hi => by
          by_cases e : i < 1
          · obtain rfl : i = 0 := by omega
            rw [if_pos e, Hf0.out]; rfl
          · rw [if_neg e]), Hb.out⟩
        case round =>
          obtain ⟨j, hj1, hj, rfl, rfl, hrow, hb⟩ := hrel
          rcases Nat.lt_or_ge j N with hjl | hjl
          · have j0 : decide ((j : Int) < (N : Int)) = true := decide_eq_true (by omega)
            have j1 : IntKind.i64.wrap ((j : Int) + 1) = (j : Int) + 1 := by rw [IntKind.wrap_i64]; have := HN.out; omega
            have j2 : (0 : Int) ≤ (j : Int) := by omega
            have j3 : (j : Int) < (N : Int) := by omega
            have l0 : ((L : Int) == 0) = false := by rw [beq_eq_false_iff_ne]; have := HL.out; omega
            have l1 : ¬ (L : Int) = 0 := by have := HL.out; omega
            have l2 : ¬ L = 0 := by have := HL.out; omega
            have hdl := digN_lt (L := L) (k := k) (j := j - 1) (by have := HL.out; omega)
            have hpd := pow_div k L (j - 1)
            rw [show j - 1 + 1 = j from by omega] at hpd
            have e1 : Int.tmod ((k / L ^ (j - 1) : Nat) : Int) (L : Int) = ((digN L k (j - 1) : Nat) : Int) := by unfold digN; exact (Int.ofNat_tmod _ _).symm
            have e2 : Int.tdiv ((k / L ^ (j - 1) : Nat) : Int) (L : Int) = ((k / L ^ j : Nat) : Int) := by rw [hpd]; exact (Int.ofNat_tdiv _ _).symm
            have hkj : k / L ^ j ≤ k := Nat.div_le_self _ _
            have hrn : rowN f L k j = f + (digN L k (j - 1) : Int) := by unfold rowN; rw [if_neg (by omega)]
            have e3 : IntKind.i64.wrap (f + (digN L k (j - 1) : Int)) = f + (digN L k (j - 1) : Int) := by rw [IntKind.wrap_i64]; have := HL.out; have := Hft.out; omega
            have e4 : ∀ q : Nat, q ≤ k → IntKind.i64.wrap ((q : Nat) : Int) = ((q : Nat) : Int) := fun q hq => by rw [IntKind.wrap_i64]; have := Hkl.out; have := Hpm.out; omega
            have e4 := e4 _ hkj
            have e5 : k / L ^ (j - 1) % L = digN L k (j - 1) := rfl
            have e6 : k / L ^ (j - 1) / L = k / L ^ j := hpd.symm
            obtain ⟨q, hq⟩ : ∃ q, q = k / L ^ j := ⟨_, rfl⟩
            rw [← hq] at e2 e4 e6
            have Hq := Lib.hid hq
            clear hq
            have hbd := hb.drew
            obtain ⟨c0, c1⟩ := FC.out _ hbd
            have hrd : RowAt wr.drew g N (fun i => if i < j then rowN f L k i else fn i) := hrow.block rfl
            have a0 := hrd.cell j hjl
            have a1 := hrd.soft j
            have hset := (hrd.set j hjl (f + (digN L k (j - 1) : Int))).congr (f' := fun i => if i < j + 1 then rowN f L k i else fn i) (fun i hi => by
              by_cases e : i = j
              · subst e; rw [if_pos rfl, if_pos (by omega), hrn]
              · rw [if_neg e]
                by_cases e5 : i < j
                · rw [if_pos e5, if_pos (by omega)]
                · rw [if_neg e5, if_neg (by omega)])
            have hbs := hbd.setCell (p := ⟨g, j, none⟩) Hwg.out (.int .i64 (f + (digN L k (j - 1) : Int)))
            have Hset := Lib.hid hset; have Hbs := Lib.hid hbs; have Hjl := Lib.hid hjl
            generalize digN L k (j - 1) = d at *
            generalize k / L ^ (j - 1) = kk at *
            generalize (if j < j then rowN f L k j else fn j) = old at a0
            clear hset hbs hrd hbd hb hrow hjl hj hdl hpd hkj hrn hj1
            go_wp2_with fail
            go_still_tail 9, (by kernel_rfl)
            change wpList _ _ _ _ _ wr.drew
            generalize wr.drew = w8 at c0 c1 a0 a1 Hset Hbs ⊢
            go_wp2_with fail
            go_roundw
            case rel => exact ⟨j + 1, by omega, Hjl.out, by go_num, by rw [Hq.out, Nat.add_sub_cancel], Hset.out, Hbs.out⟩
            case measure => have := Hjl.out; simp [intOf]; omega
          · obtain rfl : N = j := by omega
            have j0 : decide ((N : Int) < (N : Int)) = false := decide_eq_false (by omega)
            have hints : IsInts wr (.slice (some ⟨g, 0, none⟩) N N) (schN f L N k) := row_ints (hrow.congr (f' := rowN f L k) fun i hi => by rw [if_pos hi]) (schN_len _ _ _ _) (fun i hi => schN_iv f L N k hi) (by have := HN.out; omega)
            have KS2 := KS.out wr _ _ hb hints (schN_len _ _ _ _) (fun i hi => by rw [schN_iv f L N k hi]; exact rowN_near (by have := Hft.out; omega) (by have := HL.out; have := Hft.out; omega) (by have := HL.out; omega))
            have hst : cntK l f L N (k + 1) = cntK l f L N k + (if l.all (satB (schN f L N k)) = true then 1 else 0) := rfl
            have hcl := cntK_le l f L N k
            have Hrow2 := Lib.hid (show RowAt wr g N (fun i => if i < N then rowN f L k i else fn i) from hrow)
            have Hb2 := Lib.hid hb; have Hst := Lib.hid hst
            have Hnew0 : Hid ((fun i => if i < N then rowN f L k i else fn i) 0 = 0) := Lib.hid (by show (if 0 < N then rowN f L k 0 else fn 0) = 0; rw [if_pos (by omega)]; rfl)
            have z3 : IntKind.i64.wrap (((cntK l f L N k : Nat) : Int) + 1) = ((cntK l f L N k + 1 : Nat) : Int) := by rw [IntKind.wrap_i64]; have := Hkl.out; have := Hpm.out; omega
            cases hsat : l.all (satB (schN f L N k))
            · rw [hsat] at KS2
              have HS : Hid (cntK l f L N (k + 1) = cntK l f L N k) := Lib.hid (by rw [hst, hsat]; rfl)
              have KS3 := Lib.hid KS2
              clear KS2 hints hrow hb hj hjl hst hsat hcl
              go_wp2_with fail
              refine KS3.out.mono ?_
              rintro e w9 ⟨rfl, hb9⟩
              have Hr9 := Lib.hid (Hrow2.out.below hb9); have Hb9 := Lib.hid (Hb2.out.trans (hb9.mono Hb2.out.size))
              clear hb9
              go_wp2_with fail
              go_roundw
              case rel => exact ⟨k + 1, _, by go_num, Hkl.out, by rw [HS.out], Hr9.out, Hnew0.out, Hb9.out⟩
              case measure => have := Hkl.out; simp [intOf]; omega
            · rw [hsat] at KS2
              have HS : Hid (cntK l f L N (k + 1) = cntK l f L N k + 1) := Lib.hid (by rw [hst, hsat]; rfl)
              have KS3 := Lib.hid KS2
              clear KS2 hints hrow hb hj hjl hst hsat hcl
              go_wp2_with fail
              refine KS3.out.mono ?_
              rintro e w9 ⟨rfl, hb9⟩
              have Hr9 := Lib.hid (Hrow2.out.below hb9); have Hb9 := Lib.hid (Hb2.out.trans (hb9.mono Hb2.out.size))
              clear hb9
              go_wp2_with fail
              go_roundw
              case rel => exact ⟨k + 1, _, by go_num, Hkl.out, by rw [HS.out]; rfl, Hr9.out, Hnew0.out, Hb9.out⟩
              case measure => have := Hkl.out; simp [intOf]; omega
end Go.Proofs.Ytcppcfinnbeboaa
