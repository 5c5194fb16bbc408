/- Law 47: bounds.Add. -/
import Derived.Test.YtcppcfinnbeboaaGreatDsG
namespace Go.Proofs.YtcppcfinnbeboaaGreat
open Go.RowKit Go.Shelf

def AddRet (N : Nat) (M : Mat) (b : Bnd) (w : World) (e : Ending) (w' : World) : Prop :=
  (plusC (M b.2.1.toNat b.1.toNat) b.2.2 < 0 ∧ e = .returned (.tuple #[.slice none 0 0, .int .i64 17]) ∧ Below w.heap.size w w') ∨ (¬ plusC (M b.2.1.toNat b.1.toNat) b.2.2 < 0 ∧ ∃ v, e = .returned (.tuple #[v, .int .i64 0]) ∧ MatP (w.heap.size ≤ ·) w' v N (addM M b) ∧ Below w.heap.size w w')
def addRow (M : Mat) (b : Bnd) (i j : Nat) : Mat := fun x y => if x = i then (if y < j then addM M b i y else M i y) else addM M b x y
theorem addRow_set (M : Mat) (b : Bnd) (i j : Nat) (x y : Nat) : upd (addRow M b i j) i j (addM M b i j) x y = addRow M b i (j + 1) x y := by
  unfold upd addRow
  by_cases e : x = i
  · by_cases e2 : y = j
    · rw [if_pos ⟨e, e2⟩, if_pos e, if_pos (by omega), e2]
    · rw [if_neg (fun h => e2 h.2), if_pos e, if_pos e]
      by_cases e3 : y < j
      · rw [if_pos e3, if_pos (by omega)]
      · rw [if_neg e3, if_neg (by omega)]
  · rw [if_neg (fun h => e h.1), if_neg e, if_neg e]
set_option maxRecDepth 100000 in
set_option maxHeartbeats 16000000 in
theorem bdAdd_c (v : Value) (N : Nat) (M : Mat) (I J c : Int) (w : World) (hm : MatR w v N M) (hN1 : 1 ≤ N) (hN : N ≤ 24) (hc : Clo N M) (hnr : Near N 26843545600 M) (hb : bndB (N : Int) (I, J, c) = true) : Calls Tryz.prog 74 #[v, .agg #[.int .i64 I, .int .i64 J, .int .i64 c]] w (AddRet N M (I, J, c) w) := by
  obtain ⟨b1, b2, b3, b4, b5, b6⟩ := bndB_iff.1 hb
  simp only at b1 b2 b3 b4 b5 b6
  obtain ⟨p, rfl⟩ : ∃ p : Nat, I = (p : Int) := ⟨I.toNat, by omega⟩
  obtain ⟨q, rfl⟩ : ∃ q : Nat, J = (q : Int) := ⟨J.toNat, by omega⟩
  have hp : p < N := by omega
  have hq : q < N := by omega
  obtain ⟨W, hW⟩ : ∃ y, y = w.alloc (.cells #[.int .i64 (p : Int), .int .i64 (q : Int), .int .i64 c] 90) := ⟨_, rfl⟩
  obtain ⟨bx, hbx⟩ : ∃ y, y = w.heap.size := ⟨_, rfl⟩
  have hbW : Below w.heap.size w W := by rw [hW]; exact (Below.refl _ _).alloc (Nat.le_refl _) _
  have hT : W.heap[bx]? = some (.cells #[.int .i64 (p : Int), .int .i64 (q : Int), .int .i64 c] 90 (0, 0)) := by rw [hW, hbx]; exact heap_alloc_new w _
  have hmW := hm.below hbW
  have KC : Hid (∀ X, Below W.heap.size W X → Calls Tryz.prog 100 #[v] X (Ret X (.bool true))) := Lib.hid fun X h => bdclosed_c v N M X (hmW.below h) hN1 hN hc hnr
  have KR : Hid (∀ X, Calls Tryz.prog 77 #[.int .i64 (N : Int), .agg #[.int .i64 (p : Int), .int .i64 (q : Int), .int .i64 c]] X (Ret X (.bool true))) := Lib.hid fun X => by have h := bdright_c (N : Int) (p : Int) (q : Int) c X; rw [hb] at h; exact h
  have HI : Hid (∀ i j, i < N → j < N → -9223372036854775808 ≤ M i j ∧ M i j ≤ 9223372036854775807) := Lib.hid fun i j hi hj => by
    have := hnr i j hi hj
    rcases Int.lt_or_le (M i j) noneD with h5 | h5
    · have := this.2 h5; omega
    · unfold noneD at *; omega
  have Hc : Hid (-1073741824 ≤ c ∧ c ≤ 1073741824) := Lib.hid ⟨b5, b6⟩
  have KP1 : Hid (∀ X, Calls Tryz.prog 79 #[.int .i64 (M q p), .int .i64 c] X fun e w' => e = .returned (.int .i64 (plusC (M q p) c)) ∧ w' = X) := Lib.hid fun X => bdplus_c _ _ X (HI.out q p hq hp) (by have := Hc.out; omega)
  have KP2 : Hid (∀ X i, i < N → Calls Tryz.prog 79 #[.int .i64 (M i p), .int .i64 c] X fun e w' => e = .returned (.int .i64 (plusC (M i p) c)) ∧ w' = X) := Lib.hid fun X i hi => bdplus_c _ _ X (HI.out i p hi hp) (by have := Hc.out; omega)
  have KP3 : Hid (∀ X i j, i < N → j < N → Calls Tryz.prog 79 #[.int .i64 (plusC (M i p) c), .int .i64 (M q j)] X fun e w' => e = .returned (.int .i64 (plusC (plusC (M i p) c) (M q j))) ∧ w' = X) := Lib.hid fun X i j hi hj => bdplus_c _ _ X (plusC_in _ _) (HI.out q j hq hj)
  obtain ⟨b, cc, G, C, rfl, h1, h2, h3, h4⟩ := hmW
  have FT : Hid (∀ X, Below W.heap.size W X → X.cell? ⟨bx, 0, none⟩ = some (.int .i64 (p : Int)) ∧ X.cell? ⟨bx, 1, none⟩ = some (.int .i64 (q : Int)) ∧ X.cell? ⟨bx, 2, none⟩ = some (.int .i64 c)) := Lib.hid fun X h => by
    have f := (h.block _ (blk_lt hT)).trans hT
    exact ⟨blk_get f 0, blk_get f 1, blk_get f 2⟩
  have HM : Hid (∀ X, Below W.heap.size W X → ∀ i, i < N → X.cell? ⟨b, i, none⟩ = some (.slice (some ⟨G i, 0, none⟩) N (C i)) ∧ IsInts X (.slice (some ⟨G i, 0, none⟩) N (C i)) (rowL M N i) ∧ ∀ j, j < N → X.cell? ⟨G i, j, none⟩ = some (.int .i64 (M i j))) := Lib.hid fun X hX i hi => by
    obtain ⟨k1, k2, k3, k4, k5⟩ := h4 i hi
    have hcell : ∀ j, j < N → X.cell? ⟨G i, j, none⟩ = some (.int .i64 (M i j)) := fun j hj => (hX.cell (p := ⟨G i, j, none⟩) k2).trans (k5 j hj)
    exact ⟨(hX.cell (p := ⟨b, i, none⟩) h3).trans k1, cells_ints (Nat.lt_of_lt_of_le k2 hX.size) (rowL_len M N i) k3 k4 (fun j hj => by rw [rowL_iv M N i hj]; exact hcell j hj), hcell⟩
  have KCl : Hid (∀ X, Below W.heap.size W X → ∀ i, i < N → Calls Tryz.prog 30 #[.slice (some ⟨G i, 0, none⟩) N (C i)] X (RowOut N (iv (rowL M N i)) X)) := Lib.hid fun X hX i hi => slCloneRow_c (G i) N (C i) (rowL M N i) X (HM.out X hX i hi).2.1 (rowL_len M N i) hN1 (by omega)
  have hmk := fun X => made_rowN X N (by omega)
  have Hp := Lib.hid hp; have Hq := Lib.hid hq; have HN := Lib.hid hN; have HN1 := Lib.hid hN1
  have HW := Lib.hid hW; have Hbx := Lib.hid hbx; have HbW := Lib.hid hbW
  have p0 : (p : Int) < (N : Int) := b2
  have q0 : (q : Int) < (N : Int) := b4
  have p1 : (0 : Int) ≤ (p : Int) := b1
  have q1 : (0 : Int) ≤ (q : Int) := b3
  clear hm hN1 hN hc hnr hb b1 b2 b3 b4 b5 b6 hp hq hW hbx hbW hT h1 h2 h3 h4
  go_enter Tryz.func74, Tryz.ntmps74
  go_wp2_with fail
  rw [← HW.out, ← Hbx.out]
  refine (KC.out _ (Below.refl _ _)).mono ?_
  rintro e w1 ⟨rfl, hb1⟩
  obtain ⟨t0, t1, t2⟩ := FT.out _ hb1
  go_wp2_with fail
  refine (KR.out _).mono ?_
  rintro e w2 ⟨rfl, hb2⟩
  have hb2 := hb1.trans (hb2.mono hb1.size)
  have hb2d := hb2.drew
  obtain ⟨t0, t1, t2⟩ := FT.out _ hb2d
  obtain ⟨r0, _, r1⟩ := HM.out _ hb2d q Hq.out
  have r2 := r1 p Hp.out
  have Hb2d := Lib.hid hb2d
  clear hb1 hb2 r1 hb2d
  have hcase : ∀ z, decide (plusC (M q p) c < 0) = z → (if z then plusC (M q p) c < 0 else ¬ plusC (M q p) c < 0) := fun z hz => by
    cases z
    · exact of_decide_eq_false hz
    · exact of_decide_eq_true hz
  have Hcase := Lib.hid hcase
  clear hcase
  have hgen : ∃ pl, pl = plusC (M q p) c := ⟨_, rfl⟩
  obtain ⟨pl, hpl⟩ := hgen
  rw [← hpl] at KP1 Hcase
  have Hpl := Lib.hid hpl
  clear hpl
  go_wp2_with fail
  refine wp_region_still_lit (by kernel_rfl) (by kernel_rfl) ?_
  repeat (first | still_step | still_call (KP1.out _))
  refine wpStill_nil ?_
  have hrec : ({ heap := w2.heap, tape := w2.tape, drawn := w2.drawn + 1, os := w2.os, output := w2.output } : World) = w2.drew := rfl
  rw [hrec]
  clear hrec t0 t1 t2 r0 r2
  generalize w2.drew = w3 at Hb2d ⊢
  cases hz : decide (pl < 0)
  rotate_left
  · have h7 := Hcase.out true hz
    have H7 : Hid (plusC (M q p) c < 0) := Lib.hid (by have := Hpl.out; simpa [this] using h7)
    clear h7
    go_wp2_with fail
    go_ret2
    exact .inl ⟨H7.out, rfl, HbW.out.trans (Hb2d.out.mono HbW.out.size)⟩
  have h7 := Hcase.out false hz
  have H7 : Hid (¬ plusC (M q p) c < 0) := Lib.hid (by have := Hpl.out; simpa [this] using h7)
  obtain ⟨W1, hW1⟩ : ∃ y, y = w3.alloc (.cells (Array.replicate N (.slice none 0 0)) 25) := ⟨_, rfl⟩
  obtain ⟨bo, hbo⟩ : ∃ y, y = w3.heap.size := ⟨_, rfl⟩
  have hb1 : Below W.heap.size W W1 := by rw [hW1]; exact Hb2d.out.alloc Hb2d.out.size _
  have hm1 : MatAt W1 W.heap.size bo 0 N (fun _ => 0) (fun _ => 0) (addM M ((p : Int), (q : Int), c)) := ⟨⟨_, by rw [hW1, hbo]; exact heap_alloc_new w3 _, by simp, fun i hi => absurd hi (by omega)⟩, fun i hi => absurd hi (by omega), fun i j hi => absurd hi (by omega), fun i hi => absurd hi (by omega), by rw [hbo]; exact Hb2d.out.size, fun i hi => absurd hi (by omega), fun i hi => absurd hi (by omega)⟩
  have Hbo : Hid (W.heap.size ≤ bo) := Lib.hid (by rw [hbo]; exact Hb2d.out.size)
  have HW1 := Lib.hid hW1; have Hboe := Lib.hid hbo; have Hb1 := Lib.hid hb1; have Hm1 := Lib.hid hm1
  clear h7 hz hW1 hbo hb1 hm1 Hcase Hpl KP1
  go_wp2_with fail
  rw [← HW1.out, ← Hboe.out]
  clear hmk
  go_loopw [38] (fun i wr => ∃ k : Nat, i = .int .i64 (k : Int) ∧ k ≤ N ∧ (∃ G' C', MatAt wr W.heap.size bo k N G' C' (addM M ((p : Int), (q : Int), c))) ∧ Below W.heap.size W wr) (fun i _ => N - (intOf i).toNat)
  case atStart => exact ⟨0, rfl, Nat.zero_le _, ⟨_, _, Hm1.out⟩, Hb1.out⟩
  case round =>
    obtain ⟨i, rfl, hi, ⟨G', C', hm⟩, hb⟩ := hrel
    rcases Nat.lt_or_ge i N with hil | hil
    rotate_left
    · obtain rfl : N = i := by omega
      have k0 : decide ((N : Int) < (N : Int)) = false := decide_eq_false (by omega)
      have HR := Lib.hid ((hm.readP (by have := HN.out; omega)).mono fun _ _ h => Nat.le_trans HbW.out.size h); have HB := Lib.hid (HbW.out.trans (hb.mono HbW.out.size))
      clear hm hb hil hi
      go_wp2_with fail
      go_ret2
      exact .inr ⟨Int.not_lt.2 H7.out, _, rfl, HR.out, HB.out⟩
    have i0 : decide ((i : Int) < (N : Int)) = true := decide_eq_true (by omega)
    have i00 : decide (i < N) = true := decide_eq_true (by omega)
    have i1 : IntKind.i64.wrap ((i : Int) + 1) = (i : Int) + 1 := by rw [IntKind.wrap_i64]; have := HN.out; omega
    have i2 : (0 : Int) ≤ (i : Int) := by omega
    have i3 : (i : Int) < (N : Int) := by omega
    obtain ⟨d0, _, _⟩ := HM.out _ hb i hil
    have K1 := Lib.hid (KCl.out _ hb i hil)
    have Hm := Lib.hid hm; have Hb := Lib.hid hb; have Hil := Lib.hid hil
    clear hm hb hil hi
    go_wp2_with fail
    refine K1.out.mono ?_
    rintro e Wc ⟨g, cg, rfl, hr, hgl, hcg1, hcg2, hbc⟩
    have hmW := Hm.out.below hbc
    have hgb : g ≠ bo := by have := Hm.out.lt; omega
    have hgG : ∀ x, x < i → g ≠ G' x := fun x hx => by have := (Hm.out.rows x hx).lt; omega
    obtain ⟨u, hu⟩ := hmW.spot i Hil.out
    have hfz := hmW.softb i
    have hbW2 : Below W.heap.size W Wc := Hb.out.trans (hbc.mono Hb.out.size)
    have hnew := (hmW.add Hil.out hr hgb hgG (Nat.le_trans Hb.out.size hgl) hcg1 hcg2).congr (M' := addRow M ((p : Int), (q : Int), c) i 0) (fun x y hx hy => by
      show (if x = i then iv (rowL M N i) else addM M ((p : Int), (q : Int), c) x) y = addRow M ((p : Int), (q : Int), c) i 0 x y
      unfold addRow
      by_cases e : x = i
      · rw [if_pos e, if_pos e, if_neg (by omega), rowL_iv M N i hy]
      · rw [if_neg e, if_neg e])
    have hbN := hbW2.setCell (p := ⟨bo, i, none⟩) Hbo.out (.slice (some ⟨g, 0, none⟩) N cg)
    have Hnew := Lib.hid hnew; have HbN := Lib.hid hbN
    clear hr hgl hcg1 hcg2 hbc hmW hgb hgG hbW2 hnew hbN
    go_wp2_with fail
    clear d0 hu hfz
    go_loopw [50] (fun y wq => ∃ j : Nat, y = .int .i64 (j : Int) ∧ j ≤ N ∧ MatAt wq W.heap.size bo (i + 1) N (fun x => if x = i then g else G' x) (fun x => if x = i then cg else C' x) (addRow M ((p : Int), (q : Int), c) i j) ∧ Below W.heap.size W wq) (fun y _ => N - (intOf y).toNat)
    case atStart => exact ⟨0, rfl, Nat.zero_le _, Hnew.out, HbN.out⟩
    case round =>
      obtain ⟨j, rfl, hj, hm, hb⟩ := hrel
      rcases Nat.lt_or_ge j N with hjl | hjl
      rotate_left
      · obtain rfl : N = j := by omega
        have j0 : decide ((N : Int) < (N : Int)) = false := decide_eq_false (by omega)
        have HmA := Lib.hid (hm.congr (M' := addM M ((p : Int), (q : Int), c)) fun x y hx hy => by
          unfold addRow
          by_cases e : x = i
          · rw [if_pos e, if_pos hy, e]
          · rw [if_neg e])
        have HbA := Lib.hid hb
        clear hm hb hj hjl
        go_wp2_with fail
        go_roundw
        case rel => exact ⟨i + 1, by go_num, Hil.out, ⟨_, _, HmA.out⟩, HbA.out⟩
        case measure => have := Hil.out; simp [intOf]; omega
      have j0 : decide ((j : Int) < (N : Int)) = true := decide_eq_true (by omega)
      have j00 : decide (j < N) = true := decide_eq_true (by omega)
      have j1 : IntKind.i64.wrap ((j : Int) + 1) = (j : Int) + 1 := by rw [IntKind.wrap_i64]; have := HN.out; omega
      have j2 : (0 : Int) ≤ (j : Int) := by omega
      have j3 : (j : Int) < (N : Int) := by omega
      have hbd := hb.drew
      have hmd := hm.drew
      obtain ⟨t0, t1, t2⟩ := FT.out _ hbd
      obtain ⟨d0, _, d1⟩ := HM.out _ hbd i Hil.out
      obtain ⟨e0, _, e1⟩ := HM.out _ hbd q Hq.out
      have x0 := d1 j hjl
      have x1 := d1 p Hp.out
      have x2 := e1 j hjl
      have y0 := hmd.head i (by omega)
      simp only [if_true] at y0
      have y1 := hmd.cell i j (by omega) hjl
      have y2 := hmd.soft i j (by omega)
      simp only [if_true] at y1 y2
      have K2 := Lib.hid (fun X => KP2.out X i Hil.out)
      have K3 := Lib.hid (fun X => KP3.out X i j Hil.out hjl)
      have hval : addM M ((p : Int), (q : Int), c) i j = min (M i j) (plusC (plusC (M i p) c) (M q j)) := by unfold addM; simp only [Int.toNat_natCast]
      have hset := (hmd.set i j (by omega) hjl (min (M i j) (plusC (plusC (M i p) c) (M q j)))).congr (M' := addRow M ((p : Int), (q : Int), c) i (j + 1)) fun x y _ _ => by rw [← hval]; exact addRow_set M _ i j x y
      simp only [if_true] at hset
      have hbs := hbd.setCell (p := ⟨g, j, none⟩) (by have := hm.log i (by omega); simpa using this) (.int .i64 (min (M i j) (plusC (plusC (M i p) c) (M q j))))
      have Hset := Lib.hid hset; have Hbs := Lib.hid hbs; have Hjl := Lib.hid hjl
      clear hm hb hbd hmd hjl hj d1 e1 hval hset hbs
      generalize plusC (M i p) c = z1 at *
      generalize plusC z1 (M q j) = z2 at *
      generalize addRow M ((p : Int), (q : Int), c) i j i j = old at y1
      go_wp2_with fail
      refine wp_region_still_tail 28 (by kernel_rfl) (by kernel_rfl) ?_
      simp only [List.take_succ_cons, List.take_zero, List.drop_succ_cons, List.drop_zero]
      repeat still_step
      still_call (K2.out _)
      repeat still_step
      still_call (K3.out _)
      repeat still_step
      refine wpStill_nil ?_
      change wpList _ _ _ _ _ wr.drew
      generalize wr.drew = w5 at t0 t1 t2 d0 e0 x0 x1 x2 y0 y1 y2 Hset Hbs ⊢
      go_wp2_with fail
      go_roundw
      case rel => exact ⟨j + 1, by go_num, Hjl.out, Hset.out, Hbs.out⟩
      case measure => have := Hjl.out; simp [intOf]; omega
end Go.Proofs.YtcppcfinnbeboaaGreat
