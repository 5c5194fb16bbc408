/- Law 47: the reference's matrices: matrix, bind, tight. -/
import Derived.Test.YtcppcfinnbeboaaGreatDjT
import Derived.Test.YtcppcfinnbeboaaGreatDkB
namespace Go.Proofs.YtcppcfinnbeboaaGreat
open Go.RowKit Go.Shelf

/-! ### matrix -/
def rowM (k j : Nat) : Mat := fun a b => if a = k then (if b < j ∧ b ≠ k then noneD else 0) else openM a b
def MatRet (n : Nat) (M : Mat) (w : World) (e : Ending) (w' : World) : Prop := ∃ b G C, e = .returned (.slice (some ⟨b, 0, none⟩) n n) ∧ MatAt w' w.heap.size b n n G C M ∧ Below w.heap.size w w'
set_option maxRecDepth 100000 in
set_option maxHeartbeats 8000000 in
theorem r47matrix_c (N : Nat) (w : World) (hN : N ≤ 24) : Calls Tryz.prog 48 #[.int .i64 (N : Int)] w (MatRet N openM w) := by
  obtain ⟨W1, hW1⟩ : ∃ y, y = w.alloc (.cells (Array.replicate N (.slice none 0 0)) 25) := ⟨_, rfl⟩
  obtain ⟨b, hb⟩ : ∃ y, y = w.heap.size := ⟨_, rfl⟩
  have hb1 : Below w.heap.size w W1 := by rw [hW1]; exact (Below.refl _ _).alloc (Nat.le_refl _) _
  have hm1 : MatAt W1 w.heap.size b 0 N (fun _ => 0) (fun _ => 0) openM := ⟨⟨_, by rw [hW1, hb]; exact heap_alloc_new w _, by simp, fun i hi => absurd hi (by omega)⟩, fun i hi => absurd hi (by omega), fun i j hi => absurd hi (by omega), fun i hi => absurd hi (by omega), by omega, fun i hi => absurd hi (by omega), fun i hi => absurd hi (by omega)⟩
  have hmk := fun X => made_rowN X N (by omega)
  have hmi := fun X => made_intN X N (by omega)
  have HW1 := Lib.hid hW1; have Hb := Lib.hid hb; have Hb1 := Lib.hid hb1; have Hm1 := Lib.hid hm1; have HN := Lib.hid hN
  clear hW1 hb hb1 hm1 hN
  go_enter Tryz.func48, Tryz.ntmps48
  go_wp2_with fail
  rw [← HW1.out, ← Hb.out]
  clear hmk
  go_loopw [4] (fun i wr => ∃ k : Nat, i = .int .i64 (k : Int) ∧ k ≤ N ∧ (∃ G C, MatAt wr w.heap.size b k N G C openM) ∧ Below w.heap.size w wr) (fun i _ => N - (intOf i).toNat)
  case atStart => exact ⟨0, rfl, Nat.zero_le _, ⟨_, _, Hm1.out⟩, Hb1.out⟩
  case round =>
    obtain ⟨k, rfl, hk, ⟨G, C, hm⟩, hbr⟩ := hrel
    rcases Nat.lt_or_ge k N with hlt | hge
    rotate_left
    · obtain rfl : N = k := by omega
      have k0 : decide ((N : Int) < (N : Int)) = false := decide_eq_false (by omega)
      have HmA := Lib.hid hm; have HbA := Lib.hid hbr
      clear hm hbr hk hge
      go_wp2_with fail
      go_ret
      exact ⟨b, G, C, rfl, HmA.out, HbA.out⟩
    have k0 : decide ((k : Int) < (N : Int)) = true := decide_eq_true (by omega)
    have k1 : IntKind.i64.wrap ((k : Int) + 1) = ((k + 1 : Nat) : Int) := by rw [IntKind.wrap_i64]; have := HN.out; omega
    have k2 : (0 : Int) ≤ (k : Int) := by omega
    have k3 : (k : Int) < (N : Int) := by omega
    obtain ⟨g, hg⟩ : ∃ y, y = wr.heap.size := ⟨_, rfl⟩
    obtain ⟨W, hW⟩ : ∃ y, y = wr.alloc (.cells (Array.replicate N (.int .i64 0)) 3) := ⟨_, rfl⟩
    have hbW0 : Below wr.heap.size wr W := by rw [hW]; exact (Below.refl _ _).alloc (Nat.le_refl _) _
    have hr : RowAt W g N (fun _ => 0) := ⟨Array.replicate N (.int .i64 0), by rw [hW, hg]; exact heap_alloc_new wr _, by simp, fun j hj => by simp [hj]⟩
    have hmW := hm.below hbW0
    have hgb : g ≠ b := by have := hm.lt; omega
    have hgG : ∀ i, i < k → g ≠ G i := fun i hi => by have := (hm.rows i hi).lt; omega
    obtain ⟨u, hu⟩ := hmW.spot k hlt
    have hfz := hmW.softb k
    have hbW : Below w.heap.size w W := hbr.trans (hbW0.mono hbr.size)
    have hwg : w.heap.size ≤ g := by have := hbr.size; omega
    have hnew := (hmW.add hlt hr hgb hgG hwg (Nat.le_refl _) (by have := HN.out; omega)).congr (M' := rowM k 0) (fun i j hi hj => by
      show (if i = k then (fun _ => (0 : Int)) else openM i) j = rowM k 0 i j
      unfold rowM
      by_cases e : i = k
      · rw [if_pos e, if_pos e, if_neg (by omega)]
      · rw [if_neg e, if_neg e])
    have hbN : Below w.heap.size w (W.setCell ⟨b, k, none⟩ (.slice (some ⟨g, 0, none⟩) N N)) := hbW.setCell (p := ⟨b, k, none⟩) (by simp only; rw [Hb.out]; exact Nat.le_refl _) _
    rw [hW] at hu hfz
    have Hnew := Lib.hid hnew; have HbN := Lib.hid hbN; have HW := Lib.hid hW; have Hg := Lib.hid hg; have Hlt := Lib.hid hlt
    clear hnew hbN hW hg hlt hk hm hbr hbW0 hr hmW hgb hgG hbW hwg
    go_wp2_with fail
    rw [← HW.out, ← Hg.out]
    clear hu hfz
    go_loopw [5] (fun i wq => ∃ j : Nat, i = .int .i64 (j : Int) ∧ j ≤ N ∧ (MatAt wq w.heap.size b (k + 1) N (fun i => if i = k then g else G i) (fun i => if i = k then N else C i) (rowM k j)) ∧ Below w.heap.size w wq) (fun i _ => N - (intOf i).toNat)
    case atStart => exact ⟨0, rfl, Nat.zero_le _, Hnew.out, HbN.out⟩
    case round =>
      obtain ⟨j, rfl, hj, hm, hbr⟩ := hrel
      rcases Nat.lt_or_ge j N with hjl | hjl
      rotate_left
      · obtain rfl : N = j := by omega
        have j0 : decide ((N : Int) < (N : Int)) = false := decide_eq_false (by omega)
        have HmA := Lib.hid (hm.congr (M' := openM) fun a b ha hb => by
          unfold rowM openM
          by_cases e : a = k
          · subst e
            rw [if_pos rfl]
            by_cases e2 : b = a
            · rw [if_neg (by omega), if_pos e2.symm]
            · rw [if_pos ⟨hb, e2⟩, if_neg (fun h => e2 h.symm)]
          · rw [if_neg e])
        have HbA := Lib.hid hbr
        clear hm hbr hj hjl
        go_wp2_with fail
        go_roundw
        case rel => exact ⟨k + 1, by go_num, Hlt.out, ⟨_, _, HmA.out⟩, HbA.out⟩
        case measure => have := Hlt.out; simp [intOf]; omega
      have j0 : decide ((j : Int) < (N : Int)) = true := decide_eq_true (by omega)
      have j1 : IntKind.i64.wrap ((j : Int) + 1) = ((j + 1 : Nat) : Int) := by rw [IntKind.wrap_i64]; have := HN.out; omega
      have j2 : (0 : Int) ≤ (j : Int) := by omega
      have j3 : (j : Int) < (N : Int) := by omega
      cases hkj : ((k : Int) != (j : Int))
      · have e : k = j := by simp at hkj; omega
        have HmA := Lib.hid (hm.congr (M' := rowM k (j + 1)) fun a b ha hb => by
          unfold rowM
          by_cases e2 : a = k
          · rw [if_pos e2, if_pos e2]
            by_cases e3 : b < j ∧ b ≠ k
            · rw [if_pos e3, if_pos ⟨by omega, e3.2⟩]
            · rw [if_neg e3, if_neg (by omega)]
          · rw [if_neg e2, if_neg e2])
        have HbA := Lib.hid hbr; have Hjl := Lib.hid hjl
        clear hm hbr hj hjl e
        go_wp2_with fail
        go_roundw
        case rel => exact ⟨j + 1, by go_num, Hjl.out, HmA.out, HbA.out⟩
        case measure => have := Hjl.out; simp [intOf]; omega
      · have e : k ≠ j := fun e => by rw [e] at hkj; simp at hkj
        have hset := (hm.set k j (by omega) hjl noneD).congr (M' := rowM k (j + 1)) fun a b ha hb => by
          unfold upd rowM
          by_cases e2 : a = k
          · by_cases e3 : b = j
            · rw [if_pos ⟨e2, e3⟩, if_pos e2, if_pos (by omega)]
            · rw [if_neg (fun h => e3 h.2), if_pos e2, if_pos e2]
              by_cases e4 : b < j ∧ b ≠ k
              · rw [if_pos e4, if_pos ⟨by omega, e4.2⟩]
              · rw [if_neg e4, if_neg (by omega)]
          · rw [if_neg (fun h => e2 h.1), if_neg e2, if_neg e2]
        simp only [if_true] at hset
        have d0 := hm.head k (by omega)
        simp only [if_true] at d0
        obtain ⟨cs, hcs1, hcs2, hcs3⟩ := hm.rows k (by omega)
        simp only [if_true] at hcs1
        have d1 : wr.cell? ⟨g, j, none⟩ = some (.int .i64 (rowM k j k j)) := by rw [blk_get hcs1]; exact hcs3 j hjl
        have d2 : wr.frozen? ⟨g, j, none⟩ = false := blk_soft hcs1 j
        have hbs : Below w.heap.size w (wr.setCell ⟨g, j, none⟩ (.int .i64 noneD)) := hbr.setCell (p := ⟨g, j, none⟩) (by have := hm.log k (by omega); simpa using this) _
        have Hset := Lib.hid hset; have Hbs := Lib.hid hbs; have Hjl := Lib.hid hjl
        clear hset hbs hm hbr hj hjl e hcs1 hcs2 hcs3
        unfold noneD at Hset Hbs
        go_wp2_with fail
        go_roundw
        case rel => exact ⟨j + 1, by go_num, Hjl.out, Hset.out, Hbs.out⟩
        case measure => have := Hjl.out; simp [intOf]; omega
/-! ### bind -/
def bind2 (M : Mat) (p q : Nat) (lo hi : Int) : Mat := upd (upd M p q (min (M p q) hi)) q p (min (upd M p q (min (M p q) hi) q p) (-lo))
def MatChg (base b n : Nat) (G C : Nat → Nat) (v : Value) (M : Mat) (w : World) (e : Ending) (w' : World) : Prop := e = .returned v ∧ MatAt w' base b n n G C M ∧ Below base w w'
set_option maxRecDepth 100000 in
set_option maxHeartbeats 8000000 in
theorem r47bind_c (base b N : Nat) (G C : Nat → Nat) (M : Mat) (p q : Nat) (lo hi : Int) (w : World) (hm : MatAt w base b N N G C M) (hp : p < N) (hq : q < N) (_ : N ≤ 24) (hlo : -9223372036854775807 ≤ lo ∧ lo ≤ 9223372036854775807) : Calls Tryz.prog 49 #[.slice (some ⟨b, 0, none⟩) N N, .int .i64 (p : Int), .int .i64 (q : Int), .int .i64 lo, .int .i64 hi] w (MatChg base b N G C (.tuple #[]) (bind2 M p q lo hi) w) := by
  have hm0 := hm.drew
  have hm1 := hm0.set p q hp hq (min (M p q) hi)
  have hb1 : Below base w (w.drew.setCell ⟨G p, q, none⟩ (.int .i64 (min (M p q) hi))) := ((below_drew base w)).setCell (p := ⟨G p, q, none⟩) (hm.log p hp) _
  have hm1d := hm1.drew
  have hm2 := hm1d.set q p hq hp (min (upd M p q (min (M p q) hi) q p) (-lo))
  have hb2 := (hb1.drew).setCell (p := ⟨G q, p, none⟩) (hm.log q hq) (.int .i64 (min (upd M p q (min (M p q) hi) q p) (-lo)))
  have p0 : (p : Int) < (N : Int) := by omega
  have p1 : (0 : Int) ≤ (p : Int) := by omega
  have q0 : (q : Int) < (N : Int) := by omega
  have q1 : (0 : Int) ≤ (q : Int) := by omega
  have z1 : IntKind.i64.wrap (-lo) = -lo := by rw [IntKind.wrap_i64]; omega
  have a0 := hm0.head p hp
  have a1 := hm0.cell p q hp hq
  have a2 := hm0.soft p q hp
  obtain ⟨w1, hw1⟩ : ∃ y, y = w.drew.setCell ⟨G p, q, none⟩ (.int .i64 (min (M p q) hi)) := ⟨_, rfl⟩
  rw [← hw1] at hm1d hm2 hb2
  obtain ⟨M1, hM1⟩ : ∃ y, y = upd M p q (min (M p q) hi) := ⟨_, rfl⟩
  rw [← hM1] at hm1d hm2 hb2
  have c0 := hm1d.head q hq
  have c1 := hm1d.cell q p hq hp
  have c2 := hm1d.soft q p hq
  have Hm2 := Lib.hid hm2; have Hb2 := Lib.hid hb2; have Hw1 := Lib.hid hw1; have HM1 := Lib.hid hM1
  clear hm hm0 hm1 hb1 hm1d hm2 hb2 hw1 hM1 hlo
  go_enter Tryz.func49, Tryz.ntmps49
  go_wp2_with fail
  go_still_tail 15, (by kernel_rfl)
  change wpList _ _ _ _ _ w.drew
  generalize w.drew = w5 at a0 a1 a2 Hw1 ⊢
  go_wp2_with fail
  rw [← Hw1.out]
  clear a0 a1 a2
  go_still_tail 16, (by kernel_rfl)
  change wpList _ _ _ _ _ w1.drew
  generalize w1.drew = w6 at c0 c1 c2 Hm2 Hb2 ⊢
  go_wp2_with fail
  go_end0
  refine ⟨rfl, ?_, Hb2.out⟩
  unfold bind2
  rw [← HM1.out]
  exact Hm2.out
/-! ### tight -/
def TightChg (base b n : Nat) (G C : Nat → Nat) (o : Option Mat) (w : World) (e : Ending) (w' : World) : Prop :=
  e = .returned (.bool o.isSome) ∧ (∃ M, MatAt w' base b n n G C M ∧ ∀ M', o = some M' → M = M') ∧ Below base w w'
theorem fwX_stop {M : Mat} {n k : Nat} (h : fwX M n k = none) : ∀ m, k ≤ m → fwX M n m = none
  | 0, hm => by
    obtain rfl : k = 0 := by omega
    cases h
  | m + 1, hm => by
    rcases Nat.lt_or_ge m k with h1 | h1
    · obtain rfl : k = m + 1 := by omega
      exact h
    · rw [fwX_succ, fwX_stop h m h1]
theorem negF_succ (M : Mat) (i : Nat) : negF M (i + 1) = (negF M i || decide (M i i < 0)) := any_range_succ _ i
/-- No element is below a bound. -/
def Low (n : Nat) (c : Int) (M : Mat) : Prop := ∀ i j, i < n → j < n → -c ≤ M i j
def DLow (n k : Nat) (c : Int) (M : Mat) : Prop := ∀ i j, i < n → j < n → -(6 * c) ≤ M i j ∧ (i = k ∨ j = k → -(3 * c) ≤ M i j) ∧ (i = k ∧ j = k → -(2 * c) ≤ M i j)
theorem Low.d {n k : Nat} {c : Int} {M : Mat} (h : Low n c M) (hc : 0 ≤ c) : DLow n k c M := fun i j hi hj => by
  have := h i j hi hj
  exact ⟨by omega, fun _ => by omega, fun _ => by omega⟩
theorem rowX_un (M : Mat) (k i a b : Nat) : ∀ m, (a ≠ i ∨ m ≤ b) → rowX M k i m a b = M a b
  | 0, _ => rfl
  | m + 1, h => by
    rw [rowX]
    have ih := rowX_un M k i a b m (by omega)
    unfold cellX
    split
    · unfold upd
      rw [if_neg (by omega), ih]
    · exact ih
theorem stageX_un (M : Mat) (k n a b : Nat) : ∀ m, m ≤ a → stageX M k n m a b = M a b
  | 0, _ => rfl
  | m + 1, h => by rw [stageX, rowX_un _ _ _ _ _ _ (.inl (by omega)), stageX_un M k n a b m (by omega)]
theorem cellX_low {n k i j : Nat} {c : Int} {P : Mat} (hc : 0 ≤ c) (hP : DLow n k c P) (hk : k < n) (hi : i < n) (hj : j < n) (h0 : -c ≤ P i j) : DLow n k c (cellX P k i j) := by
  unfold cellX
  split
  · intro a b ha hb
    unfold upd
    by_cases e : a = i ∧ b = j
    · rw [if_pos e]
      obtain ⟨rfl, rfl⟩ := e
      have h1 := hP a k ha hk
      have h2 := hP k b hk hb
      have h3 := h1.2.1 (.inr rfl)
      have h4 := h2.2.1 (.inl rfl)
      refine ⟨by omega, fun e => ?_, fun e => ?_⟩
      · rcases e with rfl | rfl
        · have := h1.2.2 ⟨rfl, rfl⟩; omega
        · have := h2.2.2 ⟨rfl, rfl⟩; omega
      · obtain ⟨rfl, rfl⟩ := e
        omega
    · rw [if_neg e]
      exact hP a b ha hb
  · exact hP
theorem rowX_low {n k i : Nat} {c : Int} {P : Mat} (hc : 0 ≤ c) (hP : DLow n k c P) (hk : k < n) (hi : i < n) (h0 : ∀ j, j < n → -c ≤ P i j) : ∀ m, m ≤ n → DLow n k c (rowX P k i m)
  | 0, _ => hP
  | m + 1, hm => cellX_low hc (rowX_low hc hP hk hi h0 m (by omega)) hk hi (by omega) (by rw [rowX_un _ _ _ _ _ _ (.inr (Nat.le_refl _))]; exact h0 m (by omega))
theorem stageX_low {n k : Nat} {c : Int} {M : Mat} (hc : 0 ≤ c) (hM : Low n c M) (hk : k < n) : ∀ m, m ≤ n → DLow n k c (stageX M k n m)
  | 0, _ => hM.d hc
  | m + 1, hm => rowX_low hc (stageX_low hc hM hk m (by omega)) hk (by omega) (fun j hj => by rw [stageX_un _ _ _ _ _ _ (Nat.le_refl _)]; exact hM m j (by omega) hj) n (Nat.le_refl _)
theorem fwX_low {n : Nat} {W : Mat} (hW : Mod n W) (hn : n ≤ 24) (hd : ∀ i, i < n → W i i ≤ 0) {k : Nat} {M : Mat} (hk : k ≤ n) (h : fwX W n k = some M) : Low n 26843545600 M := fun i j hi hj => by
  rcases fwX_inv hW hn hd k M hk h with ⟨rfl, rfl⟩ | h2
  · have := hW i j hi hj
    unfold noneD at this
    omega
  · have h3 := h2.near hW hk hn i j hi hj
    rcases Int.lt_or_le (M i j) noneD with e | e
    · have := h3.2 e; omega
    · unfold noneD at e; omega
set_option maxRecDepth 100000 in
set_option maxHeartbeats 8000000 in
theorem r47tight_c (base b N : Nat) (G C : Nat → Nat) (M0 : Mat) (w : World) (hm : MatAt w base b N N G C M0) (hN : N ≤ 24) (hM : Mod N M0) (hd : ∀ i, i < N → M0 i i ≤ 0) : Calls Tryz.prog 50 #[.slice (some ⟨b, 0, none⟩) N N] w (TightChg base b N G C (fwX M0 N N) w) := by
  have Hm := Lib.hid hm; have HN := Lib.hid hN
  have HL : Hid (∀ k M, k ≤ N → fwX M0 N k = some M → Low N 26843545600 M) := Lib.hid fun k M hk h => fwX_low hM hN hd hk h
  clear hm hN hM hd
  go_enter Tryz.func50, Tryz.ntmps50
  go_wp2_with fail
  go_loopw [4] (fun i wx => ∃ (κ : Nat) (M : Mat), i = .int .i64 (κ : Int) ∧ κ ≤ N ∧ Hid (fwX M0 N κ = some M) ∧ MatAt wx base b N N G C M ∧ Below base w wx) (fun i _ => N - (intOf i).toNat)
  case atStart => exact ⟨0, M0, rfl, Nat.zero_le _, Lib.hid rfl, Hm.out, Below.refl _ _⟩
  case round =>
    obtain ⟨κ, M, rfl, hκ, HM, hm, hbr⟩ := hrel
    rcases Nat.lt_or_ge κ N with hκl | hκl
    rotate_left
    · obtain rfl : N = κ := by omega
      have κ0 : decide ((N : Int) < (N : Int)) = false := decide_eq_false (by omega)
      have HmC := Lib.hid hm; have HbC := Lib.hid hbr
      clear hm hbr hκ hκl
      go_wp2_with fail
      go_ret
      rw [HM.out]
      exact ⟨rfl, ⟨M, HmC.out, fun M' h => by cases h; rfl⟩, HbC.out⟩
    have κ0 : decide ((κ : Int) < (N : Int)) = true := decide_eq_true (by omega)
    have κ1 : IntKind.i64.wrap ((κ : Int) + 1) = ((κ + 1 : Nat) : Int) := by rw [IntKind.wrap_i64]; have := HN.out; omega
    have κ2 : (0 : Int) ≤ (κ : Int) := by omega
    have κ3 : (κ : Int) < (N : Int) := by omega
    have HLM := Lib.hid (HL.out κ M hκ HM.out)
    have HmC := Lib.hid hm; have HbC := Lib.hid hbr; have Hκl := Lib.hid hκl
    clear hm hbr hκ hκl
    go_wp2_with fail
    go_loopw [5] (fun i wy => ∃ i' : Nat, i = .int .i64 (i' : Int) ∧ i' ≤ N ∧ MatAt wy base b N N G C (stageX M κ N i') ∧ Below base w wy) (fun i _ => N - (intOf i).toNat)
    case atStart => exact ⟨0, rfl, Nat.zero_le _, HmC.out, HbC.out⟩
    case round =>
      obtain ⟨i', rfl, hi, hm, hbr⟩ := hrel
      rcases Nat.lt_or_ge i' N with hil | hil
      · have i0 : decide ((i' : Int) < (N : Int)) = true := decide_eq_true (by omega)
        have i1 : IntKind.i64.wrap ((i' : Int) + 1) = ((i' + 1 : Nat) : Int) := by rw [IntKind.wrap_i64]; have := HN.out; omega
        have i2 : (0 : Int) ≤ (i' : Int) := by omega
        have i3 : (i' : Int) < (N : Int) := by omega
        have hlow : ∀ j, j ≤ N → DLow N κ 26843545600 (rowX (stageX M κ N i') κ i' j) := fun j hj => rowX_low (by omega) (stageX_low (by omega) HLM.out Hκl.out i' hi) Hκl.out hil (fun j hj => by rw [stageX_un _ _ _ _ _ _ (Nat.le_refl _)]; exact HLM.out i' j hil hj) j hj
        obtain ⟨R, hR⟩ : ∃ R, R = stageX M κ N i' := ⟨_, rfl⟩
        have hnx : stageX M κ N (i' + 1) = rowX R κ i' N := by rw [hR]; rfl
        rw [← hR] at hm hlow
        have HmD := Lib.hid hm; have HlD := Lib.hid hlow; have HbD := Lib.hid hbr; have Hil := Lib.hid hil; have Hnx := Lib.hid hnx
        clear hm hlow hbr hi hil hR hnx
        go_wp2_with fail
        go_loopw [6] (fun i wz => ∃ j' : Nat, i = .int .i64 (j' : Int) ∧ j' ≤ N ∧ MatAt wz base b N N G C (rowX R κ i' j') ∧ Below base w wz) (fun i _ => N - (intOf i).toNat)
        case atStart => exact ⟨0, rfl, Nat.zero_le _, HmD.out, HbD.out⟩
        case round =>
          obtain ⟨j', rfl, hj, hm, hbr⟩ := hrel
          rcases Nat.lt_or_ge j' N with hjl | hjl
          · have j0 : decide ((j' : Int) < (N : Int)) = true := decide_eq_true (by omega)
            have j1 : IntKind.i64.wrap ((j' : Int) + 1) = ((j' + 1 : Nat) : Int) := by rw [IntKind.wrap_i64]; have := HN.out; omega
            have j2 : (0 : Int) ≤ (j' : Int) := by omega
            have j3 : (j' : Int) < (N : Int) := by omega
            have hlw := HlD.out j' hj
            obtain ⟨Q, hQ⟩ : ∃ Q, Q = rowX R κ i' j' := ⟨_, rfl⟩
            have hnq : rowX R κ i' (j' + 1) = cellX Q κ i' j' := by rw [hQ]; rfl
            rw [← hQ] at hm hlw
            have b1 := (hlw i' κ Hil.out Hκl.out).1
            have b2 := (hlw κ j' Hκl.out hjl).1
            have f0 := hm.head i' Hil.out
            have f1 := hm.head κ Hκl.out
            have f3 := hm.cell i' κ Hil.out Hκl.out
            have f4 := hm.cell κ j' Hκl.out hjl
            have Hjl := Lib.hid hjl
            have hskip : ¬ (Q i' κ < noneD ∧ Q κ j' < noneD) → MatAt wr base b N N G C (rowX R κ i' (j' + 1)) := fun h => by rw [hnq]; unfold cellX; rw [if_neg h]; exact hm
            cases g1 : decide (Q i' κ < 4398046511104)
            · have Hm2 := Lib.hid (hskip fun h => by rw [decide_eq_false_iff_not] at g1; exact g1 h.1); have Hb2 := Lib.hid hbr
              clear hm hbr hj hjl hQ hnq b1 b2 hlw hskip
              go_wp2_with fail
              go_roundw
              case rel => exact ⟨j' + 1, by go_num, Hjl.out, Hm2.out, Hb2.out⟩
              case measure => have := Hjl.out; simp [intOf]; omega
            cases g2 : decide (Q κ j' < 4398046511104)
            · have Hm2 := Lib.hid (hskip fun h => by rw [decide_eq_false_iff_not] at g2; exact g2 h.2); have Hb2 := Lib.hid hbr
              clear hm hbr hj hjl hQ hnq b1 b2 hlw hskip
              go_wp2_with fail
              go_roundw
              case rel => exact ⟨j' + 1, by go_num, Hjl.out, Hm2.out, Hb2.out⟩
              case measure => have := Hjl.out; simp [intOf]; omega
            have g3 : Q i' κ < noneD ∧ Q κ j' < noneD := ⟨of_decide_eq_true g1, of_decide_eq_true g2⟩
            have z1 : IntKind.i64.wrap (Q i' κ + Q κ j') = Q i' κ + Q κ j' := by rw [IntKind.wrap_i64]; unfold noneD at g3; omega
            have hmW := hm.drew
            have hnew := hmW.set i' j' Hil.out hjl (min (Q i' j') (Q i' κ + Q κ j'))
            rw [show upd Q i' j' (min (Q i' j') (Q i' κ + Q κ j')) = rowX R κ i' (j' + 1) from by rw [hnq]; unfold cellX; rw [if_pos g3]] at hnew
            have hbN := (hbr.drew).setCell (p := ⟨G i', j', none⟩) (hm.log i' Hil.out) (.int .i64 (min (Q i' j') (Q i' κ + Q κ j')))
            have d0 := hmW.head i' Hil.out
            have d1 := hmW.head κ Hκl.out
            have d2 := hmW.cell i' j' Hil.out hjl
            have d3 := hmW.cell i' κ Hil.out Hκl.out
            have d4 := hmW.cell κ j' Hκl.out hjl
            have d5 := hmW.soft i' j' Hil.out
            have Hnew := Lib.hid hnew; have HbN := Lib.hid hbN
            clear hmW hnew hbN hm hbr hj hjl hQ hnq b1 b2 hlw hskip g3
            go_wp2_with fail
            clear f0 f1 f3 f4
            go_still_tail 29, (by kernel_rfl)
            change wpList _ _ _ _ _ wr.drew
            generalize wr.drew = w5 at d0 d1 d2 d3 d4 d5 Hnew HbN ⊢
            go_wp2_with fail
            go_roundw
            case rel => exact ⟨j' + 1, by go_num, Hjl.out, Hnew.out, HbN.out⟩
            case measure => have := Hjl.out; simp [intOf]; omega
          · obtain rfl : N = j' := by omega
            have j0 : decide ((N : Int) < (N : Int)) = false := decide_eq_false (by omega)
            rw [← Hnx.out] at hm
            have Hm2 := Lib.hid hm; have Hb2 := Lib.hid hbr
            clear hm hbr hj hjl
            go_wp2_with fail
            go_roundw
            case rel => exact ⟨i' + 1, by go_num, Hil.out, Hm2.out, Hb2.out⟩
            case measure => have := Hil.out; simp [intOf]; omega
      · obtain rfl : N = i' := by omega
        have i0 : decide ((N : Int) < (N : Int)) = false := decide_eq_false (by omega)
        have hfw : ∀ v, negF (stageX M κ N N) N = v → fwX M0 N (κ + 1) = if v then none else some (stageX M κ N N) := fun v hv => by
          rw [fwX_succ, HM.out]
          simp only [hv]
        generalize stageX M κ N N = M2 at hm hfw
        have Hm2 := Lib.hid hm; have Hb2 := Lib.hid hbr; have Hfw := Lib.hid hfw
        clear hm hbr hi hil hfw
        go_wp2_with fail
        go_loopw [7] (fun i wy => ∃ i' : Nat, i = .int .i64 (i' : Int) ∧ i' ≤ N ∧ Hid (negF M2 i' = false) ∧ MatAt wy base b N N G C M2 ∧ Below base w wy) (fun i _ => N - (intOf i).toNat)
        case atStart => exact ⟨0, rfl, Nat.zero_le _, Lib.hid rfl, Hm2.out, Hb2.out⟩
        case round =>
          obtain ⟨i', rfl, hi, HA, hm, hbr⟩ := hrel
          rcases Nat.lt_or_ge i' N with hil | hil
          · have i0 : decide ((i' : Int) < (N : Int)) = true := decide_eq_true (by omega)
            have i1 : IntKind.i64.wrap ((i' : Int) + 1) = ((i' + 1 : Nat) : Int) := by rw [IntKind.wrap_i64]; have := HN.out; omega
            have i2 : (0 : Int) ≤ (i' : Int) := by omega
            have i3 : (i' : Int) < (N : Int) := by omega
            have d0 := hm.head i' hil
            have d1 := hm.cell i' i' hil hil
            have hs := negF_succ M2 i'
            rw [HA.out, Bool.false_or] at hs
            have hneg : decide (M2 i' i' < 0) = true → fwX M0 N N = none := fun h => by
              have h2 : negF M2 N = true := negF_true hil (of_decide_eq_true h)
              exact fwX_stop (by rw [Hfw.out true h2]; rfl) N Hκl.out
            have Hm3 := Lib.hid hm; have Hb3 := Lib.hid hbr; have Hil := Lib.hid hil; have Hs := Lib.hid hs; have Hneg := Lib.hid hneg
            clear hm hbr hi hil hs hneg
            cases hd : decide (M2 i' i' < 0)
            · have Hd := Lib.hid (Hs.out.trans hd)
              go_wp2_with fail
              go_roundw
              case rel => exact ⟨i' + 1, by go_num, Hil.out, Hd, Hm3.out, Hb3.out⟩
              case measure => have := Hil.out; simp [intOf]; omega
            · have Htn := Lib.hid (Hneg.out hd)
              go_wp2_with fail
              go_ret
              rw [Htn.out]
              exact ⟨rfl, ⟨M2, Hm3.out, fun M' h => by cases h⟩, Hb3.out⟩
          · obtain rfl : N = i' := by omega
            have i0 : decide ((N : Int) < (N : Int)) = false := decide_eq_false (by omega)
            have Htn := Lib.hid (show fwX M0 N (κ + 1) = some M2 from by rw [Hfw.out false HA.out]; rfl)
            have Hm3 := Lib.hid hm; have Hb3 := Lib.hid hbr
            clear hm hbr hi hil
            go_wp2_with fail
            go_roundw
            case rel => exact ⟨κ + 1, M2, by go_num, Hκl.out, Htn, Hm3.out, Hb3.out⟩
            case measure => have := Hκl.out; simp [intOf]; omega
end Go.Proofs.YtcppcfinnbeboaaGreat
