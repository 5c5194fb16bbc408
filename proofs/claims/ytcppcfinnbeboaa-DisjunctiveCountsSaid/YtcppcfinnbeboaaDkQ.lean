/- Law 47: the reference's Count. -/
import Derived.Test.YtcppcfinnbeboaaDkP
import Derived.Test.YtcppcfinnbeboaaDkH
namespace Go.Proofs.Ytcppcfinnbeboaa
open Go.RowKit Go.Shelf

def CntRet (x : Int) (w : World) (e : Ending) (w' : World) : Prop := e = .returned (.int .i64 x) ∧ Below w.heap.size w w'
theorem r47Count_zero (n : Int) (v : Value) (f t : Int) (w : World) (hz : (decide (f ≤ 0) && decide (0 < t)) = false) : Calls Try.prog 19 #[.int .i64 n, v, .agg #[.int .i64 f, .int .i64 t]] w (CntRet 0 w) := by
  have hbA := (Below.refl w.heap.size w).alloc (Nat.le_refl _) (.cells #[.int .i64 f, .int .i64 t] 38)
  have HbA := Lib.hid hbA
  clear hbA
  cases g0 : decide (0 < f)
  · have g1 : decide (t ≤ 0) = true := by
      rw [decide_eq_true_iff]
      have := of_decide_eq_false g0
      rw [decide_eq_true (by omega), Bool.true_and, decide_eq_false_iff_not] at hz
      omega
    clear hz
    go_enter Try.func19, Try.ntmps19
    go_wp2_with fail
    go_ret
    exact ⟨rfl, HbA.out⟩
  · clear hz
    go_enter Try.func19, Try.ntmps19
    go_wp2_with fail
    go_ret
    exact ⟨rfl, HbA.out⟩
def CSt (l : List Cho) (f : Int) (L N P g : Nat) (W0 : World) (r : Nat) (s : Value) (W : World) : Prop := ∃ m, m + r = P ∧ 1 ≤ r ∧ s = .int .i64 (cntK l f L N m : Nat) ∧ RowAt W g N (rowN f L m) ∧ Below W0.heap.size W0 W
set_option maxRecDepth 100000 in
set_option maxHeartbeats 16000000 in
theorem r47Count_c (N : Nat) (v : Value) (l : List Cho) (f t : Int) (L P : Nat) (w : World) (hs : IsChos w v l) (hv : netB (N : Int) l = true) (hf : -1073741824 ≤ f) (ht : t ≤ 1073741824) (hL : L = (t - f).toNat) (hft : f < t) (hP : P = L ^ (N - 1)) (hP2 : P ≤ 1000000) (hz : (decide (f ≤ 0) && decide (0 < t)) = true) : Calls Try.prog 19 #[.int .i64 (N : Int), v, .agg #[.int .i64 f, .int .i64 t]] w (CntRet (cntK l f L N P : Nat) w) := by
  have hz2 : f ≤ 0 ∧ 0 < t := by simpa using hz
  have hbA := (Below.refl w.heap.size w).alloc (Nat.le_refl _) (.cells #[.int .i64 f, .int .i64 t] 38)
  have hT := heap_alloc_new w (.cells #[.int .i64 f, .int .i64 t] 38)
  obtain ⟨W, hW⟩ : ∃ y, y = w.alloc (.cells #[.int .i64 f, .int .i64 t] 38) := ⟨_, rfl⟩
  obtain ⟨b6, hb6⟩ : ∃ y, y = w.heap.size := ⟨_, rfl⟩
  rw [← hW] at hbA hT
  rw [← hb6] at hT
  have FC : Hid (∀ X, Below W.heap.size W X → X.cell? ⟨b6, 0, none⟩ = some (.int .i64 f) ∧ X.cell? ⟨b6, 1, none⟩ = some (.int .i64 t)) := Lib.hid fun X h => by
    have f1 := (h.block _ (blk_lt hT)).trans hT
    exact ⟨blk_get f1 0, blk_get f1 1⟩
  have hn : 1 ≤ N ∧ N ≤ 24 := by
    unfold netB at hv
    simp only [Bool.and_eq_true, decide_eq_true_eq] at hv
    omega
  have hLL : 1 ≤ L ∧ L ≤ 2147483648 ∧ f + L = t := by omega
  have KH : Hid (∀ X u m, Below W.heap.size W X → IsInts X u (schN f L N m) → Calls Try.prog 14 #[v, u] X (Ret X (.bool (l.all (satB (schN f L N m)))))) := Lib.hid fun X u m h h1 => by
    have h2 := r47Holds_c v u l (schN f L N m) X ((hs.below hbA).below h) h1
    have h3 : holdsB l (schN f L N m) = l.all (satB (schN f L N m)) := by
      rw [holds_net (by rw [schN_len]; exact hv), schN_len, schN_iv f L N m (by omega), decide_eq_true hn.1]
      have h4 : (schN f L N m).any farB = false := any_no47 (fun i h => iv_at47 h) fun i hi => by
        rw [schN_len] at hi
        rw [schN_iv f L N m hi]
        have := rowN_near (k := m) (i := i) hf (by omega : f + L ≤ 1073741824) hLL.1
        unfold farB
        rw [decide_eq_false (by omega), decide_eq_false (by omega)]
        rfl
      rw [h4]
      simp [rowN]
    rw [h3] at h2
    exact h2
  have g0 : decide (0 < f) = false := decide_eq_false (by omega)
  have g1 : decide (t ≤ 0) = false := decide_eq_false (by omega)
  have z1 : IntKind.i64.wrap (t - 1) = t - 1 := by rw [IntKind.wrap_i64]; omega
  have hmi := fun X => made_intN X N (by omega)
  obtain ⟨c0, c1⟩ := FC.out W (Below.refl _ _)
  obtain ⟨g, hg⟩ : ∃ y, y = W.heap.size := ⟨_, rfl⟩
  obtain ⟨X1, hX1⟩ : ∃ y, y = W.alloc (.cells (Array.replicate N (.int .i64 0)) 3) := ⟨_, rfl⟩
  have hb7 : Below W.heap.size W X1 := by rw [hX1]; exact (Below.refl _ _).alloc (Nat.le_refl _) _
  have hrow : RowAt X1 g N (fun i => if i < 1 then rowN f L 0 i else 0) := ⟨Array.replicate N (.int .i64 0), by rw [hX1, hg]; exact heap_alloc_new W _, by simp, fun i hi => by
    by_cases e : i < 1
    · obtain rfl : i = 0 := by omega
      simp [hi, rowN]
    · simp [hi, e]⟩
  have Hwg := Lib.hid (show W.heap.size ≤ g by omega)
  have Eg := Lib.hid (show g = b6 + 1 by rw [hg, hW, hb6, World.size_alloc])
  have HX1 := Lib.hid hX1; have Hb7 := Lib.hid hb7; have Hrow := Lib.hid hrow
  have HL := Lib.hid hLL; have HN := Lib.hid hn; have HP := Lib.hid hP; have HP2 := Lib.hid hP2; have Hf := Lib.hid hf; have Ht := Lib.hid ht
  have HbA := Lib.hid hbA; have HW := Lib.hid hW; have Hb6 := Lib.hid hb6
  have HPp : Hid (1 ≤ P) := Lib.hid (by rw [hP]; exact Nat.pow_pos (by omega))
  rw [hW] at c0 c1
  rw [hb6] at c0 c1
  clear hs hv hf ht hL hft hP hP2 hz hz2 hbA hT hW hb6 hn hLL hg hX1 hb7 hrow
  go_enter Try.func19, Try.ntmps19
  go_wp2_with fail
  rw [← HW.out, ← Hb6.out, ← Eg.out, ← HX1.out]
  clear c0 c1 g0 g1 hmi
  go_loopw [8] (fun i wq => ∃ j : Nat, i = .int .i64 (j : Int) ∧ 1 ≤ j ∧ j ≤ N ∧ RowAt wq g N (fun i => if i < j then rowN f L 0 i else 0) ∧ Below W.heap.size W wq) (fun i _ => N - (intOf i).toNat)
  case atStart => exact ⟨1, rfl, Nat.le_refl _, HN.out.1, Hrow.out, Hb7.out⟩
  case round =>
    obtain ⟨j, rfl, hj1, hj, hrow, hb⟩ := hrel
    rcases Nat.lt_or_ge j N with hjl | hjl
    · have j0 : decide ((j : Int) < (N : Int)) = true := decide_eq_true (by omega)
      have j1 : IntKind.i64.wrap ((j : Int) + 1) = (j : Int) + 1 := by rw [IntKind.wrap_i64]; have := HN.out; omega
      have j2 : (0 : Int) ≤ (j : Int) := by omega
      have j3 : (j : Int) < (N : Int) := by omega
      obtain ⟨c0, c1⟩ := FC.out _ hb
      have a0 := hrow.cell j hjl
      have a1 := hrow.soft j
      have hset := (hrow.set j hjl f).congr (f' := fun i => if i < j + 1 then rowN f L 0 i else 0) (fun i hi => by
        by_cases e : i = j
        · subst e
          rw [if_pos rfl, if_pos (by omega)]
          unfold rowN
          rw [if_neg (by omega), digN_zero]
          simp
        · rw [if_neg e]
          by_cases e5 : i < j
          · rw [if_pos e5, if_pos (by omega)]
          · rw [if_neg e5, if_neg (by omega)])
      have hbs := hb.setCell (p := ⟨g, j, none⟩) Hwg.out (.int .i64 f)
      have Hset := Lib.hid hset; have Hbs := Lib.hid hbs; have Hjl := Lib.hid hjl; have Hj1 := Lib.hid hj1
      simp only [Nat.lt_irrefl, if_false] at a0
      clear hset hbs hrow hb hj1 hj hjl
      go_wp2_with fail
      go_roundw
      case rel => exact ⟨j + 1, by go_num, by omega, Hjl.out, Hset.out, Hbs.out⟩
      case measure => have := Hjl.out; simp [intOf]; omega
    obtain rfl : N = j := by omega
    have j0 : decide ((N : Int) < (N : Int)) = false := decide_eq_false (by omega)
    have Hst : Hid (CSt l f L N P g W P (.int .i64 0) wr) := Lib.hid ⟨0, by omega, HPp.out, rfl, hrow.congr fun i hi => by rw [if_pos hi], hb⟩
    clear hrow hb hj1 hj hjl
    go_wp2_with fail
    clear j0
    go_loopw [9] (fun s wq => ∃ r, CSt l f L N P g W r s wq) (fun s wq => leastK fun r => CSt l f L N P g W r s wq)
    case atStart => exact ⟨_, Hst.out⟩
    case round =>
      obtain ⟨r0, hst⟩ := hrel
      obtain ⟨s, hs⟩ : ∃ y, y = u9 := ⟨_, rfl⟩
      rw [← hs] at hst
      subst hs
      have hst : CSt l f L N P g W (leastK fun r => CSt l f L N P g W r s wr) s wr := (leastK_spec (p := fun r => CSt l f L N P g W r s wr) hst).1
      obtain ⟨k0, hk0⟩ : ∃ y, y = leastK fun r => CSt l f L N P g W r s wr := ⟨_, rfl⟩
      rw [← hk0] at hst
      obtain ⟨m, hm, hr1, rfl, hrow, hb⟩ := hst
      have Hk0 := Lib.hid hk0
      have Hm : Hid (m + k0 = P) := Lib.hid hm
      have Hr1 := Lib.hid hr1
      have hints : IsInts wr (.slice (some ⟨g, 0, none⟩) N N) (schN f L N m) := row_ints hrow (schN_len _ _ _ _) (fun i hi => schN_iv f L N m hi) (by have := HN.out; omega)
      have KH2 := KH.out wr _ m hb hints
      have hst : cntK l f L N (m + 1) = cntK l f L N m + (if l.all (satB (schN f L N m)) = true then 1 else 0) := rfl
      have hcl := cntK_le l f L N m
      have z3 : IntKind.i64.wrap (((cntK l f L N m : Nat) : Int) + 1) = ((cntK l f L N m + 1 : Nat) : Int) := by rw [IntKind.wrap_i64]; have := HP2.out; omega
      have Hrow := Lib.hid hrow; have Hb := Lib.hid hb
      cases hsat : l.all (satB (schN f L N m))
      · rw [hsat] at KH2 hst
        have HS : Hid (cntK l f L N (m + 1) = cntK l f L N m) := Lib.hid hst
        have KH3 := Lib.hid KH2
        clear KH2 hints hrow hb hst hcl hsat hm hr1 hk0
        go_wp2_with fail
        refine KH3.out.mono ?_
        rintro e w9 ⟨rfl, hb9⟩
        have Hr9 := Lib.hid (Hrow.out.below hb9); have Hb9 := Lib.hid (Hb.out.trans (hb9.mono Hb.out.size))
        clear hb9
        go_wp2_with fail
        go_loopw [10] (fun i wq => ∃ j : Nat, i = .int .i64 (j : Int) ∧ 1 ≤ j ∧ j ≤ N ∧ Hid (carryN L m (j - 1)) ∧ RowAt wq g N (fun i => if i = 0 then 0 else if i < j then f else rowN f L m i) ∧ Below W.heap.size W wq) (fun i _ => N - (intOf i).toNat)
        case atStart => exact ⟨1, rfl, Nat.le_refl _, HN.out.1, Lib.hid (fun h hh => absurd hh (by omega)), Hr9.out.congr (fun i hi => by
          by_cases e : i = 0
          · subst e; rfl
          · rw [if_neg e, if_neg (by omega)]), Hb9.out⟩
        case round =>
          obtain ⟨j, rfl, hj1, hj, HC, hrow, hb⟩ := hrel
          rcases Nat.lt_or_ge j N with hjl | hjl
          · have j0 : decide ((j : Int) < (N : Int)) = true := decide_eq_true (by omega)
            have j00 : decide ((N : Int) ≤ (j : Int)) = false := decide_eq_false (by omega)
            have j1 : IntKind.i64.wrap ((j : Int) + 1) = (j : Int) + 1 := by rw [IntKind.wrap_i64]; have := HN.out; omega
            have j2 : (0 : Int) ≤ (j : Int) := by omega
            have j3 : (j : Int) < (N : Int) := by omega
            have hdl := digN_lt (L := L) (k := m) (j := j - 1) (by have := HL.out; omega)
            have hcell : (if j = 0 then (0 : Int) else if j < j then f else rowN f L m j) = f + (digN L m (j - 1) : Int) := by
              rw [if_neg (by omega), if_neg (by omega)]
              unfold rowN
              rw [if_neg (by omega)]
            obtain ⟨c0, c1⟩ := FC.out _ hb
            have a0 := hrow.cell j hjl
            rw [hcell] at a0
            cases hq : ((f + (digN L m (j - 1) : Int)) == t - 1)
            · have hne : digN L m (j - 1) ≠ L - 1 := fun e => by
                have : f + (digN L m (j - 1) : Int) = t - 1 := by have := HL.out; omega
                rw [this] at hq
                simp at hq
              have hL0 : 0 < L := by have := HL.out; omega
              have hnew : ∀ i, i < N → (if i = j then f + (digN L m (j - 1) : Int) + 1 else (fun i => if i = 0 then 0 else if i < j then f else rowN f L m i) i) = rowN f L (m + 1) i := fun i hi => by
                by_cases e : i = j
                · subst e
                  rw [if_pos rfl]
                  unfold rowN
                  rw [if_neg (by omega), carry_at hL0 HC.out hne]
                  simp only [Int.natCast_add, Int.natCast_one]
                  omega
                · rw [if_neg e]
                  show (if i = 0 then (0 : Int) else if i < j then f else rowN f L m i) = _
                  by_cases e0 : i = 0
                  · subst e0; rfl
                  · rw [if_neg e0]
                    by_cases e1 : i < j
                    · rw [if_pos e1]
                      unfold rowN
                      rw [if_neg e0, carry_low hL0 HC.out (show i - 1 < j - 1 by omega)]
                      simp
                    · rw [if_neg e1]
                      unfold rowN
                      rw [if_neg e0, if_neg e0, carry_high hL0 HC.out hne (show j - 1 < i - 1 by omega)]
              have hmP : m + 1 < P := by
                rcases Nat.lt_or_ge (m + 1) P with h | h
                · exact h
                · exfalso
                  have h1 : m + 1 = P := by have := Hm.out; have := Hr1.out; omega
                  have h2 := carry_at hL0 HC.out hne
                  unfold digN at h2
                  rw [h1, HP.out, show N - 1 = (j - 1) + (N - j) from by omega, Nat.pow_add, Nat.mul_div_cancel_left _ (Nat.pow_pos hL0)] at h2
                  rw [show N - j = (N - j - 1) + 1 from by omega, Nat.pow_succ, Nat.mul_mod_left] at h2
                  omega
              have FN : Hid (∀ q, (wr.drewN q).cell? ⟨g, j, none⟩ = some (.int .i64 (f + (digN L m (j - 1) : Int))) ∧ (wr.drewN q).frozen? ⟨g, j, none⟩ = false ∧ CSt l f L N P g W (k0 - 1) (.int .i64 (cntK l f L N (m + 1) : Nat)) ((wr.drewN q).setCell ⟨g, j, none⟩ (.int .i64 (f + (digN L m (j - 1) : Int) + 1)))) := Lib.hid fun q => by
                have hrd : RowAt (wr.drewN q) g N (fun i => if i = 0 then 0 else if i < j then f else rowN f L m i) := hrow.block rfl
                have d0 := hrd.cell j hjl
                rw [hcell] at d0
                exact ⟨d0, hrd.soft j, m + 1, by have := Hm.out; omega, by have := Hm.out; omega, rfl, (hrd.set j hjl (f + (digN L m (j - 1) : Int) + 1)).congr (f' := rowN f L (m + 1)) hnew, (below_dnL hb q).setCell (p := ⟨g, j, none⟩) Hwg.out _⟩
              have z4 : IntKind.i64.wrap (f + (digN L m (j - 1) : Int) + 1) = f + (digN L m (j - 1) : Int) + 1 := by rw [IntKind.wrap_i64]; have := HL.out; have := Hf.out; have := Ht.out; omega
              generalize digN L m (j - 1) = d at *
              clear hrow hb hj1 hj hjl hdl hcell hne hnew hmP
              go_wp2_with fail
              go_quiet (fail)
              generalize hw8 : World.drewN wr _ = w8
              obtain ⟨d0, d1, hnx⟩ := FN.out _
              rw [hw8] at d0 d1 hnx
              have Hnx := Lib.hid hnx
              clear hnx FN hw8 a0 c0 c1
              go_wp2_with fail
              rw [HS.out] at Hnx
              go_roundw
              case rel => exact ⟨k0 - 1, Hnx.out⟩
              case measure =>
                have h1 := (leastK_spec (p := fun r => CSt l f L N P g W r (.int .i64 (((cntK l f L N m : Nat) : Int))) (w8.setCell ⟨g, j, none⟩ (.int .i64 (f + (d : Int) + 1)))) Hnx.out).2
                have h2 := Hk0.out
                have h3 := Hr1.out
                omega
            · have hL0 : 0 < L := by have := HL.out; omega
              have hde : digN L m (j - 1) = L - 1 := by
                rw [beq_iff_eq] at hq
                have := HL.out
                omega
              have HC2 : Hid (carryN L m (j + 1 - 1)) := Lib.hid fun h hh => by
                rcases Nat.lt_or_ge h (j - 1) with e | e
                · exact HC.out h e
                · obtain rfl : h = j - 1 := by omega
                  exact hde
              have FN : Hid (∀ q, ((wr.drewN q).cell? ⟨g, j, none⟩ = some (.int .i64 (f + (digN L m (j - 1) : Int))) ∧ (wr.drewN q).frozen? ⟨g, j, none⟩ = false ∧ (wr.drewN q).cell? ⟨b6, 0, none⟩ = some (.int .i64 f)) ∧ RowAt ((wr.drewN q).setCell ⟨g, j, none⟩ (.int .i64 f)) g N (fun i => if i = 0 then 0 else if i < j + 1 then f else rowN f L m i) ∧ Below W.heap.size W ((wr.drewN q).setCell ⟨g, j, none⟩ (.int .i64 f))) := Lib.hid fun q => by
                have hrd : RowAt (wr.drewN q) g N (fun i => if i = 0 then 0 else if i < j then f else rowN f L m i) := hrow.block rfl
                have d0 := hrd.cell j hjl
                rw [hcell] at d0
                refine ⟨⟨d0, hrd.soft j, (FC.out _ (below_dnL hb q)).1⟩, (hrd.set j hjl f).congr (fun i hi => ?_), (below_dnL hb q).setCell (p := ⟨g, j, none⟩) Hwg.out _⟩
                by_cases e : i = j
                · subst e
                  rw [if_pos rfl, if_neg (by omega), if_pos (by omega)]
                · rw [if_neg e]
                  by_cases e0 : i = 0
                  · rw [if_pos e0, if_pos e0]
                  · rw [if_neg e0, if_neg e0]
                    by_cases e1 : i < j
                    · rw [if_pos e1, if_pos (by omega)]
                    · rw [if_neg e1, if_neg (by omega)]
              have Hjl := Lib.hid hjl; have Hj1 := Lib.hid hj1
              generalize digN L m (j - 1) = d at *
              clear hrow hb hj1 hj hjl hdl hcell
              go_wp2_with fail
              go_quiet (fail)
              generalize hw8 : World.drewN wr _ = w8
              obtain ⟨⟨d0, d1, d2⟩, hset, hbs⟩ := FN.out _
              rw [hw8] at d0 d1 d2 hset hbs
              have Hset := Lib.hid hset; have Hbs := Lib.hid hbs
              clear hset hbs FN hw8 a0 c0 c1
              go_wp2_with fail
              go_roundw
              case rel => exact ⟨j + 1, by go_num, by omega, Hjl.out, HC2, Hset.out, Hbs.out⟩
              case measure => have := Hjl.out; simp [intOf]; omega
          · obtain rfl : N = j := by omega
            have j0 : decide ((N : Int) < (N : Int)) = false := decide_eq_false (by omega)
            have j00 : decide ((N : Int) ≤ (N : Int)) = true := decide_eq_true (by omega)
            have HE : Hid (m + 1 = P) := Lib.hid (by rw [HP.out]; exact carry_end (by have := HL.out; omega) (by rw [← HP.out]; have := Hm.out; have := Hr1.out; omega) HC.out)
            have HF := Lib.hid (HbA.out.trans (hb.mono HbA.out.size))
            clear hrow hb hj1 hj hjl
            go_wp2_with fail
            go_quiet (fail)
            go_wp2_with fail
            go_ret
            refine ⟨?_, below_dnL HF.out _⟩
            rw [← HE.out, HS.out]
            rfl
      · rw [hsat] at KH2 hst
        have HS : Hid (cntK l f L N (m + 1) = cntK l f L N m + 1) := Lib.hid hst
        have KH3 := Lib.hid KH2
        clear KH2 hints hrow hb hst hcl hsat hm hr1 hk0
        go_wp2_with fail
        refine KH3.out.mono ?_
        rintro e w9 ⟨rfl, hb9⟩
        have Hr9 := Lib.hid (Hrow.out.below hb9); have Hb9 := Lib.hid (Hb.out.trans (hb9.mono Hb.out.size))
        clear hb9
        go_wp2_with fail
        go_loopw [10] (fun i wq => ∃ j : Nat, i = .int .i64 (j : Int) ∧ 1 ≤ j ∧ j ≤ N ∧ Hid (carryN L m (j - 1)) ∧ RowAt wq g N (fun i => if i = 0 then 0 else if i < j then f else rowN f L m i) ∧ Below W.heap.size W wq) (fun i _ => N - (intOf i).toNat)
        case atStart => exact ⟨1, rfl, Nat.le_refl _, HN.out.1, Lib.hid (fun h hh => absurd hh (by omega)), Hr9.out.congr (fun i hi => by
          by_cases e : i = 0
          · subst e; rfl
          · rw [if_neg e, if_neg (by omega)]), Hb9.out⟩
        case round =>
          obtain ⟨j, rfl, hj1, hj, HC, hrow, hb⟩ := hrel
          rcases Nat.lt_or_ge j N with hjl | hjl
          · have j0 : decide ((j : Int) < (N : Int)) = true := decide_eq_true (by omega)
            have j00 : decide ((N : Int) ≤ (j : Int)) = false := decide_eq_false (by omega)
            have j1 : IntKind.i64.wrap ((j : Int) + 1) = (j : Int) + 1 := by rw [IntKind.wrap_i64]; have := HN.out; omega
            have j2 : (0 : Int) ≤ (j : Int) := by omega
            have j3 : (j : Int) < (N : Int) := by omega
            have hdl := digN_lt (L := L) (k := m) (j := j - 1) (by have := HL.out; omega)
            have hcell : (if j = 0 then (0 : Int) else if j < j then f else rowN f L m j) = f + (digN L m (j - 1) : Int) := by
              rw [if_neg (by omega), if_neg (by omega)]
              unfold rowN
              rw [if_neg (by omega)]
            obtain ⟨c0, c1⟩ := FC.out _ hb
            have a0 := hrow.cell j hjl
            rw [hcell] at a0
            cases hq : ((f + (digN L m (j - 1) : Int)) == t - 1)
            · have hne : digN L m (j - 1) ≠ L - 1 := fun e => by
                have : f + (digN L m (j - 1) : Int) = t - 1 := by have := HL.out; omega
                rw [this] at hq
                simp at hq
              have hL0 : 0 < L := by have := HL.out; omega
              have hnew : ∀ i, i < N → (if i = j then f + (digN L m (j - 1) : Int) + 1 else (fun i => if i = 0 then 0 else if i < j then f else rowN f L m i) i) = rowN f L (m + 1) i := fun i hi => by
                by_cases e : i = j
                · subst e
                  rw [if_pos rfl]
                  unfold rowN
                  rw [if_neg (by omega), carry_at hL0 HC.out hne]
                  simp only [Int.natCast_add, Int.natCast_one]
                  omega
                · rw [if_neg e]
                  show (if i = 0 then (0 : Int) else if i < j then f else rowN f L m i) = _
                  by_cases e0 : i = 0
                  · subst e0; rfl
                  · rw [if_neg e0]
                    by_cases e1 : i < j
                    · rw [if_pos e1]
                      unfold rowN
                      rw [if_neg e0, carry_low hL0 HC.out (show i - 1 < j - 1 by omega)]
                      simp
                    · rw [if_neg e1]
                      unfold rowN
                      rw [if_neg e0, if_neg e0, carry_high hL0 HC.out hne (show j - 1 < i - 1 by omega)]
              have hmP : m + 1 < P := by
                rcases Nat.lt_or_ge (m + 1) P with h | h
                · exact h
                · exfalso
                  have h1 : m + 1 = P := by have := Hm.out; have := Hr1.out; omega
                  have h2 := carry_at hL0 HC.out hne
                  unfold digN at h2
                  rw [h1, HP.out, show N - 1 = (j - 1) + (N - j) from by omega, Nat.pow_add, Nat.mul_div_cancel_left _ (Nat.pow_pos hL0)] at h2
                  rw [show N - j = (N - j - 1) + 1 from by omega, Nat.pow_succ, Nat.mul_mod_left] at h2
                  omega
              have FN : Hid (∀ q, (wr.drewN q).cell? ⟨g, j, none⟩ = some (.int .i64 (f + (digN L m (j - 1) : Int))) ∧ (wr.drewN q).frozen? ⟨g, j, none⟩ = false ∧ CSt l f L N P g W (k0 - 1) (.int .i64 (cntK l f L N (m + 1) : Nat)) ((wr.drewN q).setCell ⟨g, j, none⟩ (.int .i64 (f + (digN L m (j - 1) : Int) + 1)))) := Lib.hid fun q => by
                have hrd : RowAt (wr.drewN q) g N (fun i => if i = 0 then 0 else if i < j then f else rowN f L m i) := hrow.block rfl
                have d0 := hrd.cell j hjl
                rw [hcell] at d0
                exact ⟨d0, hrd.soft j, m + 1, by have := Hm.out; omega, by have := Hm.out; omega, rfl, (hrd.set j hjl (f + (digN L m (j - 1) : Int) + 1)).congr (f' := rowN f L (m + 1)) hnew, (below_dnL hb q).setCell (p := ⟨g, j, none⟩) Hwg.out _⟩
              have z4 : IntKind.i64.wrap (f + (digN L m (j - 1) : Int) + 1) = f + (digN L m (j - 1) : Int) + 1 := by rw [IntKind.wrap_i64]; have := HL.out; have := Hf.out; have := Ht.out; omega
              generalize digN L m (j - 1) = d at *
              clear hrow hb hj1 hj hjl hdl hcell hne hnew hmP
              go_wp2_with fail
              go_quiet (fail)
              generalize hw8 : World.drewN wr _ = w8
              obtain ⟨d0, d1, hnx⟩ := FN.out _
              rw [hw8] at d0 d1 hnx
              have Hnx := Lib.hid hnx
              clear hnx FN hw8 a0 c0 c1
              go_wp2_with fail
              rw [HS.out] at Hnx
              go_roundw
              case rel => exact ⟨k0 - 1, Hnx.out⟩
              case measure =>
                have h1 := (leastK_spec (p := fun r => CSt l f L N P g W r (.int .i64 (((cntK l f L N m : Nat) : Int) + 1)) (w8.setCell ⟨g, j, none⟩ (.int .i64 (f + (d : Int) + 1)))) Hnx.out).2
                have h2 := Hk0.out
                have h3 := Hr1.out
                omega
            · have hL0 : 0 < L := by have := HL.out; omega
              have hde : digN L m (j - 1) = L - 1 := by
                rw [beq_iff_eq] at hq
                have := HL.out
                omega
              have HC2 : Hid (carryN L m (j + 1 - 1)) := Lib.hid fun h hh => by
                rcases Nat.lt_or_ge h (j - 1) with e | e
                · exact HC.out h e
                · obtain rfl : h = j - 1 := by omega
                  exact hde
              have FN : Hid (∀ q, ((wr.drewN q).cell? ⟨g, j, none⟩ = some (.int .i64 (f + (digN L m (j - 1) : Int))) ∧ (wr.drewN q).frozen? ⟨g, j, none⟩ = false ∧ (wr.drewN q).cell? ⟨b6, 0, none⟩ = some (.int .i64 f)) ∧ RowAt ((wr.drewN q).setCell ⟨g, j, none⟩ (.int .i64 f)) g N (fun i => if i = 0 then 0 else if i < j + 1 then f else rowN f L m i) ∧ Below W.heap.size W ((wr.drewN q).setCell ⟨g, j, none⟩ (.int .i64 f))) := Lib.hid fun q => by
                have hrd : RowAt (wr.drewN q) g N (fun i => if i = 0 then 0 else if i < j then f else rowN f L m i) := hrow.block rfl
                have d0 := hrd.cell j hjl
                rw [hcell] at d0
                refine ⟨⟨d0, hrd.soft j, (FC.out _ (below_dnL hb q)).1⟩, (hrd.set j hjl f).congr (fun i hi => ?_), (below_dnL hb q).setCell (p := ⟨g, j, none⟩) Hwg.out _⟩
                by_cases e : i = j
                · subst e
                  rw [if_pos rfl, if_neg (by omega), if_pos (by omega)]
                · rw [if_neg e]
                  by_cases e0 : i = 0
                  · rw [if_pos e0, if_pos e0]
                  · rw [if_neg e0, if_neg e0]
                    by_cases e1 : i < j
                    · rw [if_pos e1, if_pos (by omega)]
                    · rw [if_neg e1, if_neg (by omega)]
              have Hjl := Lib.hid hjl; have Hj1 := Lib.hid hj1
              generalize digN L m (j - 1) = d at *
              clear hrow hb hj1 hj hjl hdl hcell
              go_wp2_with fail
              go_quiet (fail)
              generalize hw8 : World.drewN wr _ = w8
              obtain ⟨⟨d0, d1, d2⟩, hset, hbs⟩ := FN.out _
              rw [hw8] at d0 d1 d2 hset hbs
              have Hset := Lib.hid hset; have Hbs := Lib.hid hbs
              clear hset hbs FN hw8 a0 c0 c1
              go_wp2_with fail
              go_roundw
              case rel => exact ⟨j + 1, by go_num, by omega, Hjl.out, HC2, Hset.out, Hbs.out⟩
              case measure => have := Hjl.out; simp [intOf]; omega
          · obtain rfl : N = j := by omega
            have j0 : decide ((N : Int) < (N : Int)) = false := decide_eq_false (by omega)
            have j00 : decide ((N : Int) ≤ (N : Int)) = true := decide_eq_true (by omega)
            have HE : Hid (m + 1 = P) := Lib.hid (by rw [HP.out]; exact carry_end (by have := HL.out; omega) (by rw [← HP.out]; have := Hm.out; have := Hr1.out; omega) HC.out)
            have HF := Lib.hid (HbA.out.trans (hb.mono HbA.out.size))
            clear hrow hb hj1 hj hjl
            go_wp2_with fail
            go_quiet (fail)
            go_wp2_with fail
            go_ret
            refine ⟨?_, below_dnL HF.out _⟩
            rw [← HE.out, HS.out]
            rfl
end Go.Proofs.Ytcppcfinnbeboaa
