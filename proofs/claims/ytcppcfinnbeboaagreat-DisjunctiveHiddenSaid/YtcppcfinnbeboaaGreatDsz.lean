/- Texts joined: DsN, DsO, DsP, DsQ, DsR, DsS. -/
import Derived.Test.YtcppcfinnbeboaaGreatDsM
import Derived.Test.YtcppcfinnbeboaaGreatDkI

/- Law 47: a schedule of a closed matrix; a network's budget. -/
namespace Go.Proofs.YtcppcfinnbeboaaGreat
open Go.RowKit Go.Shelf

def budE (n : Int) (l : List Cho) (most : Int) : Int := if netB n l then (if decide (most < 1) || decide (100000 < most) then 2 else 0) else 1
theorem djbudget_c (n most : Int) (v : Value) (l : List Cho) (w : World) (hs : IsChos w v l) : Calls Tryz.prog 27 #[.int .i64 n, v, .int .i64 most] w (Ret w (.int .i64 (budE n l most))) := by
  have KV := Lib.hid (djValid_c n v l w hs)
  obtain ⟨R, hR⟩ : ∃ y, y = budE n l most := ⟨_, rfl⟩
  rw [← hR]
  unfold budE at hR
  generalize netB n l = b at KV hR
  have HR := Lib.hid hR
  clear hR
  obtain ⟨S, hs⟩ := hs
  obtain ⟨A0, c0, rfl, _, _⟩ := hs.form
  clear hs
  go_enter Tryz.func27, Tryz.ntmps27
  go_wp2_with fail
  refine KV.out.mono ?_
  rintro e w2 ⟨rfl, hb2⟩
  have Hb2 := Lib.hid hb2
  clear hb2
  cases b
  · go_wp2_with fail
    go_ret
    exact ⟨by rw [HR.out]; rfl, Hb2.out⟩
  · cases q1 : decide (most < 1)
    · cases q2 : decide (100000 < most)
      · have H1 : Hid (R = 0) := Lib.hid (by rw [HR.out, q1, q2]; rfl)
        clear HR
        go_wp2_with fail
        go_ret
        exact ⟨by rw [H1.out]; rfl, Hb2.out⟩
      · have H1 : Hid (R = 2) := Lib.hid (by rw [HR.out, q1, q2]; rfl)
        clear HR
        go_wp2_with fail
        go_ret
        exact ⟨by rw [H1.out]; rfl, Hb2.out⟩
    · have H1 : Hid (R = 2) := Lib.hid (by rw [HR.out, q1]; rfl)
      clear HR
      go_wp2_with fail
      go_ret
      exact ⟨by rw [H1.out]; rfl, Hb2.out⟩
/-! ### the schedule -/
def schF (P : Mat) (N : Nat) (j : Nat) : Int := schT P j N - schT P 0 N
def schS (P : Mat) (N j i x : Nat) : Int := if x < j then schT P x N else if x = j then schT P j i else 0
def schD (P : Mat) (N k x : Nat) : Int := if x < k then schF P N x else schT P x N
theorem schT_low {P : Mat} {N : Nat} (hn : Near N 26843545600 P) {a : Nat} (ha : a < N) (m : Nat) (hm : m ≤ N) : -26843545600 ≤ schT P a m ∧ schT P a m ≤ 0 := by
  refine ⟨?_, (schT_le P a m).1⟩
  rcases schT_cases P a m with e | ⟨v, h1, h2, h3⟩
  · omega
  · have := (hn v a (by omega) ha).2 (by unfold noneD; omega)
    omega
set_option maxRecDepth 100000 in
set_option maxHeartbeats 8000000 in
theorem djschedule_c (v : Value) (N : Nat) (P : Mat) (w : World) (hm : MatR w v N P) (hN1 : 1 ≤ N) (hN : N ≤ 24) (hn : Near N 26843545600 P) : Calls Tryz.prog 47 #[v] w (RowOut N (schF P N) w) := by
  obtain ⟨b, c, G, C, rfl, h1, h2, h3, h4⟩ := hm
  have FM : Hid (∀ X, Below w.heap.size w X → ∀ i, i < N → X.cell? ⟨b, i, none⟩ = some (.slice (some ⟨G i, 0, none⟩) N (C i)) ∧ ∀ j, j < N → X.cell? ⟨G i, j, none⟩ = some (.int .i64 (P i j))) := Lib.hid fun X hX i hi => by
    obtain ⟨k1, k2, _, _, k5⟩ := h4 i hi
    exact ⟨(hX.cell (p := ⟨b, i, none⟩) h3).trans k1, fun j hj => (hX.cell (p := ⟨G i, j, none⟩) k2).trans (k5 j hj)⟩
  have HL : Hid (∀ a m, a < N → m ≤ N → -26843545600 ≤ schT P a m ∧ schT P a m ≤ 0) := Lib.hid fun a m ha hm => schT_low hn ha m hm
  have hmk := fun X => made_intN X N (by omega)
  obtain ⟨W, hW⟩ : ∃ y, y = w.alloc (.cells (Array.replicate N (.int .i64 0)) 3) := ⟨_, rfl⟩
  obtain ⟨g, hg⟩ : ∃ y, y = w.heap.size := ⟨_, rfl⟩
  have hbW : Below g w W := by rw [hW, hg]; exact (Below.refl _ _).alloc (Nat.le_refl _) _
  have hr0 : RowAt W g N (schS P N 0 0) := ⟨_, by rw [hW, hg]; exact heap_alloc_new w _, by simp, fun j hj => by
    have e : schS P N 0 0 j = 0 := by unfold schS; split; · omega
                                      · split <;> rfl
    rw [e]; simp [hj]⟩
  have Hr0 := Lib.hid hr0; have HbW := Lib.hid hbW; have HW := Lib.hid hW; have Hg := Lib.hid hg
  have HN := Lib.hid hN; have HN1 := Lib.hid hN1
  rw [← hg] at FM
  clear h1 h2 h3 h4 hn hN hN1 hr0 hbW hW hg
  go_enter Tryz.func47, Tryz.ntmps47
  go_wp2_with fail
  rw [← HW.out, ← Hg.out]
  clear hmk
  go_loopw [13] (fun i wr => ∃ j : Nat, i = .int .i64 (j : Int) ∧ j ≤ N ∧ RowAt wr g N (schS P N j 0) ∧ Below g w wr) (fun i _ => N - (intOf i).toNat)
  case atStart => exact ⟨0, rfl, Nat.zero_le _, Hr0.out, HbW.out⟩
  case round =>
    obtain ⟨j, rfl, hj, hr, hb⟩ := hrel
    have Hr := Lib.hid hr; have Hb := Lib.hid hb
    clear hr hb
    rcases Nat.lt_or_ge j N with hlt | hge
    rotate_left
    · obtain rfl : N = j := by omega
      have k0 : decide ((N : Int) < (N : Int)) = false := decide_eq_false (by omega)
      have hrD : RowAt wr g N (schD P N 0) := Hr.out.congr fun x hx => by unfold schS schD; rw [if_pos hx, if_neg (by omega)]
      have c0 := hrD.cell 0 HN1.out
      have e0 : schD P N 0 0 = schT P 0 N := by unfold schD; rw [if_neg (by omega)]
      rw [e0] at c0
      have k1 : (0 : Int) < (N : Int) := by have := HN1.out; omega
      have k2 : 0 < N := HN1.out
      have HrD := Lib.hid hrD
      clear hge hj hrD e0
      go_wp2_with fail
      obtain ⟨fs, hfs⟩ : ∃ y, y = schT P 0 N := ⟨_, rfl⟩
      rw [← hfs]
      have Hfs := Lib.hid hfs
      have HbL := Lib.hid Hb.out
      clear hfs c0 Hb Hr Hr0
      go_loopw [43] (fun i wq => ∃ k : Nat, i = .int .i64 (k : Int) ∧ k ≤ N ∧ RowAt wq g N (schD P N k) ∧ Below g w wq) (fun i _ => N - (intOf i).toNat)
      case atStart => exact ⟨0, rfl, Nat.zero_le _, HrD.out, HbL.out⟩
      case round =>
        obtain ⟨k, rfl, hk, hr, hb⟩ := hrel
        rcases Nat.lt_or_ge k N with hil | hil
        rotate_left
        · obtain rfl : N = k := by omega
          have i0 : decide ((N : Int) < (N : Int)) = false := decide_eq_false (by omega)
          have HrN : Hid (RowAt wr g N (schF P N)) := Lib.hid (hr.congr fun x hx => by unfold schD; rw [if_pos hx])
          have HbN := Lib.hid hb
          clear hr hb hk hil
          go_wp2_with fail
          go_ret
          exact ⟨g, N, rfl, HrN.out, by rw [Hg.out]; exact Nat.le_refl _, Nat.le_refl _, by have := HN.out; omega, by rw [← Hg.out]; exact HbN.out⟩
        · have i0 : decide ((k : Int) < (N : Int)) = true := decide_eq_true (by omega)
          have i00 : decide (k < N) = true := decide_eq_true (by omega)
          have i1 : IntKind.i64.wrap ((k : Int) + 1) = (k : Int) + 1 := by rw [IntKind.wrap_i64]; have := HN.out; omega
          have i2 : (0 : Int) ≤ (k : Int) := by omega
          have i3 : (k : Int) < (N : Int) := by omega
          have y0 := hr.cell k hil
          have y1 := hr.soft k
          have e1 : schD P N k k = schT P k N := by unfold schD; rw [if_neg (by omega)]
          rw [e1] at y0
          have l1 := HL.out k N hil (Nat.le_refl _)
          have l2 := HL.out 0 N HN1.out (Nat.le_refl _)
          have i4 : IntKind.i64.wrap (schT P k N - fs) = schT P k N - fs := by rw [Hfs.out, IntKind.wrap_i64]; omega
          have HrN := Lib.hid ((hr.set k hil (schT P k N - fs)).congr (f' := schD P N (k + 1)) fun x hx => by
            unfold schD
            by_cases e : x = k
            · rw [if_pos e, if_pos (by omega), e, Hfs.out]; rfl
            · rw [if_neg e]
              by_cases e2 : x < k
              · rw [if_pos e2, if_pos (by omega)]
              · rw [if_neg e2, if_neg (by omega)])
          have HbN := Lib.hid (hb.setCell (p := ⟨g, k, none⟩) (show g ≤ g from Nat.le_refl _) (.int .i64 (schT P k N - fs)))
          have Hil := Lib.hid hil
          clear hr hb hk hil e1 l1 l2
          go_wp2_with fail
          go_roundw
          case rel => exact ⟨k + 1, by go_num, Hil.out, HrN.out, HbN.out⟩
          case measure => have := Hil.out; simp [intOf]; omega
    · have k0 : decide ((j : Int) < (N : Int)) = true := decide_eq_true (by omega)
      have k00 : decide (j < N) = true := decide_eq_true (by omega)
      have k1 : IntKind.i64.wrap ((j : Int) + 1) = (j : Int) + 1 := by rw [IntKind.wrap_i64]; have := HN.out; omega
      have k2 : (0 : Int) ≤ (j : Int) := by omega
      have k3 : (j : Int) < (N : Int) := by omega
      have Hlt := Lib.hid hlt
      clear hlt hj
      go_wp2_with fail
      go_loopw [18] (fun i wq => ∃ k : Nat, i = .int .i64 (k : Int) ∧ k ≤ N ∧ RowAt wq g N (schS P N j k) ∧ Below g w wq) (fun i _ => N - (intOf i).toNat)
      case atStart => exact ⟨0, rfl, Nat.zero_le _, Hr.out, Hb.out⟩
      case round =>
        obtain ⟨i, rfl, hi, hr, hb⟩ := hrel
        rcases Nat.lt_or_ge i N with hil | hil
        rotate_left
        · obtain rfl : N = i := by omega
          have i0 : decide ((N : Int) < (N : Int)) = false := decide_eq_false (by omega)
          have HrN : Hid (RowAt wr g N (schS P N (j + 1) 0)) := Lib.hid (hr.congr fun x hx => by
            unfold schS
            by_cases e : x < j
            · rw [if_pos e, if_pos (by omega)]
            · rw [if_neg e]
              by_cases e2 : x = j
              · rw [if_pos e2, if_pos (by omega), e2]
              · rw [if_neg e2, if_neg (by omega)]
                split <;> rfl)
          have HbN := Lib.hid hb
          clear hr hb hi hil
          go_wp2_with fail
          go_roundw
          case rel => exact ⟨j + 1, by go_num, Hlt.out, HrN.out, HbN.out⟩
          case measure => have := Hlt.out; simp [intOf]; omega
        · have i0 : decide ((i : Int) < (N : Int)) = true := decide_eq_true (by omega)
          have i00 : decide (i < N) = true := decide_eq_true (by omega)
          have i1 : IntKind.i64.wrap ((i : Int) + 1) = (i : Int) + 1 := by rw [IntKind.wrap_i64]; have := HN.out; omega
          have i2 : (0 : Int) ≤ (i : Int) := by omega
          have i3 : (i : Int) < (N : Int) := by omega
          have hrd : RowAt wr.drew g N (schS P N j i) := hr.block rfl
          have hbd := hb.drew
          obtain ⟨d0, d1⟩ := FM.out _ hbd i hil
          have x0 := d1 j Hlt.out
          have y0 := hrd.cell j Hlt.out
          have y1 := hrd.soft j
          have e1 : schS P N j i j = schT P j i := by unfold schS; rw [if_neg (by omega), if_pos rfl]
          rw [e1] at y0
          have HrN := Lib.hid ((hrd.set j Hlt.out (min (schT P j i) (P i j))).congr (f' := schS P N j (i + 1)) fun x hx => by
            unfold schS
            by_cases e : x = j
            · rw [if_pos e, if_neg (by omega), if_pos e]; rfl
            · rw [if_neg e, if_neg e]; simp only [if_neg e])
          have HbN := Lib.hid (hbd.setCell (p := ⟨g, j, none⟩) (show g ≤ g from Nat.le_refl _) (.int .i64 (min (schT P j i) (P i j))))
          have Hil := Lib.hid hil
          clear hr hb hi hil hrd hbd d1 e1
          go_wp2_with fail
          go_still_tail 15, (by kernel_rfl)
          change wpList _ _ _ _ _ wr.drew
          generalize wr.drew = w5 at d0 x0 y0 y1 HrN HbN ⊢
          go_wp2_with fail
          go_roundw
          case rel => exact ⟨i + 1, by go_num, Hil.out, HrN.out, HbN.out⟩
          case measure => have := Hil.out; simp [intOf]; omega
end Go.Proofs.YtcppcfinnbeboaaGreat

/- Law 47: disjunctive.Solve. -/
namespace Go.Proofs.YtcppcfinnbeboaaGreat
open Go.RowKit Go.Shelf

/-! ### solve's visitor -/
def solJ (B : Nat) (w : World) (vs : List Mat) (X : World) : Prop := vs = [] ∧ w.heap.size ≤ X.heap.size ∧ X.heap[B]? = some (.cells #[.slice none 0 0] 25 (0, 0))
def solD (B N : Nat) (vs : List Mat) (X : World) : Prop := ∃ P g c, vs = [P] ∧ X.heap[B]? = some (.cells #[.slice (some ⟨g, 0, none⟩) N c] 25 (0, 0)) ∧ RowAt X g N (schF P N) ∧ B < g ∧ N ≤ c ∧ c ≤ 9223372036854775807
theorem ent_djsolve1 : ∀ (args : Array Value) (w : World), Sem.run Tryz.prog (callFunc 46 args) w = .ok (.enter 46 args) w := fun _ _ => by kernel_rfl
set_option maxRecDepth 100000 in
theorem djsolve1_c (base zs B N : Nat) (w X : World) (vm : Value) (P : Mat) (vs : List Mat) (hN1 : 1 ≤ N) (hN : N ≤ 24) (hB : base ≤ B) (hBz : B < zs) (hJ : solJ B w vs X) (hz : zs ≤ X.heap.size) (hm : MatP (zs ≤ ·) X vm N P) (hn : Near N 26843545600 P) :
    Calls Tryz.prog 46 #[vm, .pointer (some ⟨B, 0, none⟩)] X (VisRet base zs (solJ B w) (solD B N) (vs ++ [P]) X) := by
  obtain ⟨rfl, hsz, hT⟩ := hJ
  have KS := Lib.hid (djschedule_c vm N P X hm.mat hN1 hN hn)
  obtain ⟨b, c, G, C, rfl, _⟩ := hm
  have HT := Lib.hid hT
  clear hT
  go_enter Tryz.func46, Tryz.ntmps46
  go_wp2_with fail
  refine KS.out.mono ?_
  rintro e w2 ⟨g, cg, rfl, hr, hg, hc1, hc2, hb⟩
  have hT2 := (hb.block _ (blk_lt HT.out)).trans HT.out
  have c0 := blk_get hT2 0
  have c1 := blk_soft hT2 0
  simp only [List.getElem?_toArray, List.getElem?_cons_zero] at c0
  have hne : g ≠ B := by omega
  have hr2 : RowAt (w2.setCell ⟨B, 0, none⟩ (.slice (some ⟨g, 0, none⟩) N cg)) g N (schF P N) := hr.block (blk_oth hne _ _)
  have hT3 : (w2.setCell ⟨B, 0, none⟩ (.slice (some ⟨g, 0, none⟩) N cg)).heap[B]? = some (.cells #[.slice (some ⟨g, 0, none⟩) N cg] 25 (0, 0)) := blk_set hT2 0 _
  have hK : Kz base zs X (w2.setCell ⟨B, 0, none⟩ (.slice (some ⟨g, 0, none⟩) N cg)) := ⟨(hb.mono (by omega)).setCell (p := ⟨B, 0, none⟩) hB _, fun k hk hl => (blk_oth (show k ≠ B by omega) _ _).trans (hb.block k hl)⟩
  have Hr2 := Lib.hid hr2; have HT3 := Lib.hid hT3; have HK := Lib.hid hK; have Hc := Lib.hid (And.intro hc1 hc2); have Hg := Lib.hid (show B < g by omega)
  clear hT2 hr hg hc1 hc2 hb hne hr2 hT3 hK
  go_wp2_with fail
  go_ret
  exact ⟨false, rfl, HK.out, P, g, cg, rfl, HT3.out, Hr2.out, Hg.out, Hc.out.1, Hc.out.2⟩
theorem solve_vis (base zs B N : Nat) (w : World) (hN1 : 1 ≤ N) (hN : N ≤ 24) (hB : base ≤ B) (hBz : B < zs) : Visitor base zs N 46 #[.pointer (some ⟨B, 0, none⟩)] (solJ B w) (solD B N) where
  ent := ent_djsolve1
  keep := fun _ _ _ h hb => ⟨h.1, Nat.le_trans h.2.1 hb.size, (hb.block B hBz).trans h.2.2⟩
  call := fun X vm P vs hJ hz hm _ hn => djsolve1_c base zs B N w X vm P vs hN1 hN hB hBz hJ hz hm hn
/-- What solve answers. -/
def SolveRet (N : Nat) (l : List Cho) (most : Nat) (w : World) (e : Ending) (w' : World) : Prop :=
  Below w.heap.size w w' ∧
    ((e = .returned (.tuple #[.slice none 0 0, .int .i64 18]) ∧ aboveB l most = true) ∨
     (e = .returned (.tuple #[.slice none 0 0, .int .i64 17]) ∧ ∀ x, ¬ SatN l x) ∨
     (∃ P g c, e = .returned (.tuple #[.slice (some ⟨g, 0, none⟩) N c, .int .i64 0]) ∧ SolOk N l P ∧ RowAt w' g N (schF P N) ∧ w.heap.size ≤ g ∧ N ≤ c ∧ c ≤ 9223372036854775807))
theorem eql_nilI (a : Option Addr) (n c : Nat) (w : World) : (binOp .eql 25 (.slice a n c) (.slice none 0 0)).run Tryz.prog w = .ok (.bool a.isNone) w := by
  simp only [binOp]
  simp [run_equal_slice_nil (P := Tryz.prog) w 25 3 a n c Tryz.underlying25]
attribute [local go_sem ↓] eql_nilI
set_option maxRecDepth 100000 in
theorem djsolve_c (N : Nat) (v : Value) (l : List Cho) (most : Nat) (w : World) (hs : IsChos w v l) (hN1 : 1 ≤ N) (hN : N ≤ 24) (hst : StOk N l) (hm1 : 1 ≤ most) (hm : most ≤ 100000) :
    Calls Tryz.prog 28 #[.int .i64 (N : Int), v, .int .i64 (most : Int)] w (SolveRet N l most w) := by
  obtain ⟨S0, hs⟩ := hs
  obtain ⟨A0, c0, rfl, _, _⟩ := hs.form
  obtain ⟨W, hW⟩ : ∃ y, y = w.alloc (.cells #[.slice none 0 0] 25) := ⟨_, rfl⟩
  obtain ⟨B, hB⟩ : ∃ y, y = w.heap.size := ⟨_, rfl⟩
  have hbW : Below w.heap.size w W := by rw [hW]; exact (Below.refl _ _).alloc (Nat.le_refl _) _
  have hzW : W.heap.size = B + 1 := by rw [hW, World.size_alloc, hB]
  have hTW : W.heap[B]? = some (.cells #[.slice none 0 0] 25 (0, 0)) := by rw [hW, hB]; exact heap_alloc_new w _
  have KS := Lib.hid (djsearch_c N (.slice A0 l.length c0) l S0 most 46 #[.pointer (some ⟨B, 0, none⟩)] (solJ B W) (solD B N) w W hs hbW hN1 hN hst hm1 hm (solve_vis _ _ B N W hN1 hN (by omega) (by omega)) ⟨rfl, Nat.le_refl _, hTW⟩)
  have HW := Lib.hid hW; have HB := Lib.hid hB; have HbW := Lib.hid hbW
  clear hs hN1 hN hst hm1 hm hW hB hbW hzW hTW
  go_enter Tryz.func28, Tryz.ntmps28
  go_wp2_with fail
  rw [← HW.out, ← HB.out]
  refine KS.out.mono ?_
  rintro e w2 ⟨b, vs, rfl, hb2, hvs, h⟩
  have Hb2 := Lib.hid (HbW.out.trans hb2)
  have Hvs := Lib.hid hvs
  clear hb2 hvs
  rcases h with ⟨rfl, h1, h2⟩ | ⟨rfl, h1, P, g, c, rfl, h3, h4, h5, h6, h7⟩ | ⟨rfl, ⟨rfl, _, h3⟩, h4⟩
  · have H1 := Lib.hid h1
    clear h1 h2
    go_wp2_with fail
    go_ret2
    exact ⟨Hb2.out, .inl ⟨rfl, H1.out⟩⟩
  · have c1 := blk_get h3 0
    simp only [List.getElem?_toArray, List.getElem?_cons_zero] at c1
    have H4 := Lib.hid h4; have H5 := Lib.hid h5; have H6 := Lib.hid (And.intro h6 h7)
    clear h1 h3 h4 h5 h6 h7
    go_wp2_with fail
    go_ret2
    exact ⟨Hb2.out, .inr (.inr ⟨P, g, c, rfl, Hvs.out P (List.mem_singleton.2 rfl), H4.out, by have := H5.out; have := HB.out; omega, H6.out.1, H6.out.2⟩)⟩
  · have c1 := blk_get h3 0
    simp only [List.getElem?_toArray, List.getElem?_cons_zero] at c1
    have H4 := Lib.hid h4
    clear h3 h4
    go_wp2_with fail
    go_ret2
    exact ⟨Hb2.out, .inr (.inl ⟨rfl, fun x hx => by obtain ⟨P, hP, _⟩ := H4.out x hx; cases hP⟩)⟩
end Go.Proofs.YtcppcfinnbeboaaGreat

/- Law 47: disjunctive.Earliest. -/
namespace Go.Proofs.YtcppcfinnbeboaaGreat
open Go.RowKit Go.Shelf

/-! ### the visitor: the least time -/
structure EBox (Be Bb Bs Bf e : Nat) (b : Int) (s f : Bool) (X : World) : Prop where
  ev : X.heap[Be]? = some (.cells #[.int .i64 (e : Int)] 3 (0, 0))
  be : X.heap[Bb]? = some (.cells #[.int .i64 b] 3 (0, 0))
  so : X.heap[Bs]? = some (.cells #[.bool s] 4 (0, 0))
  fr : X.heap[Bf]? = some (.cells #[.bool f] 4 (0, 0))
def earJ (Be Bb Bs Bf e : Nat) (vs : List Mat) (X : World) : Prop :=
  ∃ b, EBox Be Bb Bs Bf e b (!vs.isEmpty) false X ∧ (∀ P ∈ vs, P e 0 < noneD ∧ b ≤ -(P e 0)) ∧ (vs ≠ [] → ∃ P ∈ vs, b = -(P e 0))
def earD (Be Bb Bs Bf e : Nat) (vs : List Mat) (X : World) : Prop := (∃ b s, EBox Be Bb Bs Bf e b s true X) ∧ ∃ P ∈ vs, ¬ P e 0 < noneD
theorem ent_djEarliest1 : ∀ (args : Array Value) (w : World), Sem.run Tryz.prog (callFunc 34 args) w = .ok (.enter 34 args) w := fun _ _ => by kernel_rfl
set_option maxRecDepth 100000 in
theorem djEarliest1_c (base zs Be Bb Bs Bf e N : Nat) (X : World) (vm : Value) (P : Mat) (vs : List Mat) (he : e < N) (hB : base ≤ Be ∧ base ≤ Bb ∧ base ≤ Bs ∧ base ≤ Bf) (hBz : Be < zs ∧ Bb < zs ∧ Bs < zs ∧ Bf < zs) (hd : Bb ≠ Be ∧ Bs ≠ Be ∧ Bf ≠ Be ∧ Bb ≠ Bs ∧ Bb ≠ Bf ∧ Bs ≠ Bf) (hJ : earJ Be Bb Bs Bf e vs X) (hm : MatP (zs ≤ ·) X vm N P) (hn : Near N 26843545600 P) :
    Calls Tryz.prog 34 #[vm, .pointer (some ⟨Be, 0, none⟩), .pointer (some ⟨Bf, 0, none⟩), .pointer (some ⟨Bs, 0, none⟩), .pointer (some ⟨Bb, 0, none⟩)] X (VisRet base zs (earJ Be Bb Bs Bf e) (earD Be Bb Bs Bf e) (vs ++ [P]) X) := by
  obtain ⟨b, ⟨t1, t2, t3, t4⟩, hv1, hv2⟩ := hJ
  obtain ⟨g, c, G, C, rfl, h1, h2, h3, h4, _⟩ := hm
  obtain ⟨m0, _, _, _, m1⟩ := h4 e he
  have m2 := m1 0 (by omega)
  have a1 := blk_get t1 0
  have a2 := blk_get t2 0
  have a3 := blk_get t3 0
  have a4 := blk_get t4 0
  have f2 := blk_soft t2 0
  have f3 := blk_soft t3 0
  have f4 := blk_soft t4 0
  simp only [List.getElem?_toArray, List.getElem?_cons_zero] at a1 a2 a3 a4
  have hr := hn e 0 he (by omega)
  have e0 : (0 : Int) ≤ (e : Int) := by omega
  have e1 : (e : Int) < (N : Int) := by omega
  have e2 : 0 < N := by omega
  have e3 : (0 : Int) < (N : Int) := by omega
  obtain ⟨d, hdd⟩ : ∃ y, y = P e 0 := ⟨_, rfl⟩
  rw [← hdd] at m2 hr
  have z1 : IntKind.i64.wrap (-d) = -d := by rw [IntKind.wrap_i64]; unfold noneD at hr; omega
  have T := Lib.hid (And.intro t1 (And.intro t2 (And.intro t3 t4)))
  have HV1 := Lib.hid hv1; have HV2 := Lib.hid hv2; have Hdd := Lib.hid hdd; have Hd := Lib.hid hd; have HB := Lib.hid hB; have HBz := Lib.hid hBz
  have hKset : ∀ (Y : World) (k : Nat) (u : Value), Kz base zs X Y → base ≤ k → k < zs → Kz base zs X (Y.setCell ⟨k, 0, none⟩ u) := fun Y k u hK h1 h2 => ⟨hK.bel.setCell (p := ⟨k, 0, none⟩) h1 u, fun b hb hl => (blk_oth (show b ≠ k by omega) _ _).trans (hK.oth b hb hl)⟩
  have HKset := Lib.hid hKset
  obtain ⟨sm, hsm⟩ : ∃ y, y = !vs.isEmpty := ⟨_, rfl⟩
  rw [← hsm] at a3 T
  have Hsm := Lib.hid hsm
  clear t1 t2 t3 t4 hv1 hv2 hdd hd hB hBz h1 h2 h3 h4 m1 hKset hsm hn he
  have hsn : ∀ (Y : World) (k : Nat) (u : Value), k ≠ Bs → (Y.setCell ⟨Bs, 0, none⟩ u).heap[k]? = Y.heap[k]? := fun Y k u h => blk_oth h 0 u
  cases q0 : decide ((4398046511104 : Int) ≤ d)
  · have q1 := of_decide_eq_false q0
    have Hq : Hid (d < noneD) := Lib.hid (by unfold noneD; omega)
    clear q1
    have HTK : Hid ((sm = false ∨ -d < b) → earJ Be Bb Bs Bf e (vs ++ [P]) ((X.setCell ⟨Bb, 0, none⟩ (.int .i64 (-d))).setCell ⟨Bs, 0, none⟩ (.bool true)) ∧ Kz base zs X ((X.setCell ⟨Bb, 0, none⟩ (.int .i64 (-d))).setCell ⟨Bs, 0, none⟩ (.bool true))) := Lib.hid fun hc => by
      obtain ⟨t1, t2, t3, t4⟩ := T.out
      obtain ⟨d1, d2, d3, d4, d5, d6⟩ := Hd.out
      refine ⟨⟨-d, ⟨?_, ?_, ?_, ?_⟩, fun Q hQ => ?_, fun _ => ⟨P, List.mem_append_right _ (List.mem_singleton.2 rfl), by rw [Hdd.out]⟩⟩, HKset.out _ _ _ (HKset.out _ _ _ Kz.refl HB.out.2.1 HBz.out.2.1) HB.out.2.2.1 HBz.out.2.2.1⟩
      · rw [blk_oth (Ne.symm d2), blk_oth (Ne.symm d1)]; exact t1
      · rw [blk_oth d4]; exact blk_set t2 0 _
      · have e : (!(vs ++ [P]).isEmpty) = true := by cases vs <;> rfl
        rw [e]
        exact blk_set (W := X.setCell ⟨Bb, 0, none⟩ (.int .i64 (-d))) (by rw [blk_oth (Ne.symm d4)]; exact t3) 0 _
      · rw [blk_oth (Ne.symm d6), blk_oth (Ne.symm d5)]; exact t4
      · rcases List.mem_append.1 hQ with h | h
        · refine ⟨(HV1.out Q h).1, ?_⟩
          rcases hc with h1 | h1
          · rw [Hsm.out] at h1
            cases vs with
            | nil => cases h
            | cons a r => cases h1
          · have := (HV1.out Q h).2
            omega
        · rw [List.mem_singleton.1 h, ← Hdd.out]
          exact ⟨Hq.out, Int.le_refl _⟩
    have HNT : Hid (¬ (sm = false ∨ -d < b) → earJ Be Bb Bs Bf e (vs ++ [P]) (X.setCell ⟨Bs, 0, none⟩ (.bool true)) ∧ Kz base zs X (X.setCell ⟨Bs, 0, none⟩ (.bool true))) := Lib.hid fun hc => by
      obtain ⟨t1, t2, t3, t4⟩ := T.out
      obtain ⟨d1, d2, d3, d4, d5, d6⟩ := Hd.out
      have hne : vs ≠ [] := fun h => hc (.inl (by rw [Hsm.out, h]; rfl))
      refine ⟨⟨b, ⟨?_, ?_, ?_, ?_⟩, fun Q hQ => ?_, fun _ => ?_⟩, HKset.out _ _ _ Kz.refl HB.out.2.2.1 HBz.out.2.2.1⟩
      · rw [blk_oth (Ne.symm d2)]; exact t1
      · rw [blk_oth d4]; exact t2
      · have e : (!(vs ++ [P]).isEmpty) = true := by cases vs <;> rfl
        rw [e]
        exact blk_set t3 0 _
      · rw [blk_oth (Ne.symm d6)]; exact t4
      · rcases List.mem_append.1 hQ with h | h
        · exact HV1.out Q h
        · rw [List.mem_singleton.1 h, ← Hdd.out]
          exact ⟨Hq.out, by omega⟩
      · obtain ⟨Q, h1, h2⟩ := HV2.out hne
        exact ⟨Q, List.mem_append_left _ h1, h2⟩
    have b3 : (X.setCell ⟨Bb, 0, none⟩ (.int .i64 (-d))).cell? ⟨Bs, 0, none⟩ = some (.bool sm) := by
      have h := T.out.2.2.1
      have h2 := blk_get (w := X.setCell ⟨Bb, 0, none⟩ (.int .i64 (-d))) (by rw [blk_oth (Ne.symm Hd.out.2.2.2.1)]; exact h) 0
      simpa using h2
    have b3f : (X.setCell ⟨Bb, 0, none⟩ (.int .i64 (-d))).frozen? ⟨Bs, 0, none⟩ = false := blk_soft (w := X.setCell ⟨Bb, 0, none⟩ (.int .i64 (-d))) (by rw [blk_oth (Ne.symm Hd.out.2.2.2.1)]; exact T.out.2.2.1) 0
    have b4 : ((X.setCell ⟨Bb, 0, none⟩ (.int .i64 (-d))).setCell ⟨Bs, 0, none⟩ (.bool true)).cell? ⟨Bf, 0, none⟩ = some (.bool false) := by
      have h2 := blk_get (w := (X.setCell ⟨Bb, 0, none⟩ (.int .i64 (-d))).setCell ⟨Bs, 0, none⟩ (.bool true)) (by rw [blk_oth (Ne.symm Hd.out.2.2.2.2.2), blk_oth (Ne.symm Hd.out.2.2.2.2.1)]; exact T.out.2.2.2) 0
      simpa using h2
    have b5 : (X.setCell ⟨Bs, 0, none⟩ (.bool true)).cell? ⟨Bf, 0, none⟩ = some (.bool false) := by
      have h2 := blk_get (w := X.setCell ⟨Bs, 0, none⟩ (.bool true)) (by rw [blk_oth (Ne.symm Hd.out.2.2.2.2.2)]; exact T.out.2.2.2) 0
      simpa using h2
    clear hsn
    cases sm with
    | false =>
      go_enter Tryz.func34, Tryz.ntmps34
      go_wp2_with fail
      go_ret
      obtain ⟨r1, r2⟩ := HTK.out (.inl (by trivial))
      exact ⟨true, rfl, r2, r1⟩
    | true =>
      cases q2 : decide (-d < b)
      · go_enter Tryz.func34, Tryz.ntmps34
        go_wp2_with fail
        go_ret
        have q3 := of_decide_eq_false q2
        obtain ⟨r1, r2⟩ := HNT.out (fun h => by rcases h with h | h; · cases h
                                                · exact q3 h)
        exact ⟨true, rfl, r2, r1⟩
      · go_enter Tryz.func34, Tryz.ntmps34
        go_wp2_with fail
        go_ret
        obtain ⟨r1, r2⟩ := HTK.out (.inr (of_decide_eq_true q2))
        exact ⟨true, rfl, r2, r1⟩
  · have q1 := of_decide_eq_true q0
    have Hq : Hid (¬ d < noneD) := Lib.hid (by unfold noneD; omega)
    clear q1
    have HFR : Hid (earD Be Bb Bs Bf e (vs ++ [P]) ((X.setCell ⟨Bf, 0, none⟩ (.bool true)).setCell ⟨Bs, 0, none⟩ (.bool true)) ∧ Kz base zs X ((X.setCell ⟨Bf, 0, none⟩ (.bool true)).setCell ⟨Bs, 0, none⟩ (.bool true))) := Lib.hid (by
      obtain ⟨t1, t2, t3, t4⟩ := T.out
      obtain ⟨d1, d2, d3, d4, d5, d6⟩ := Hd.out
      refine ⟨⟨⟨b, true, ⟨?_, ?_, ?_, ?_⟩⟩, P, List.mem_append_right _ (List.mem_singleton.2 rfl), by rw [← Hdd.out]; exact Hq.out⟩, HKset.out _ _ _ (HKset.out _ _ _ Kz.refl HB.out.2.2.2 HBz.out.2.2.2) HB.out.2.2.1 HBz.out.2.2.1⟩
      · rw [blk_oth (Ne.symm d2), blk_oth (Ne.symm d3)]; exact t1
      · rw [blk_oth d4, blk_oth d5]; exact t2
      · exact blk_set (W := X.setCell ⟨Bf, 0, none⟩ (.bool true)) (by rw [blk_oth d6]; exact t3) 0 _
      · rw [blk_oth (Ne.symm d6)]; exact blk_set t4 0 _)
    have b3 : (X.setCell ⟨Bf, 0, none⟩ (.bool true)).cell? ⟨Bs, 0, none⟩ = some (.bool sm) := by
      have h2 := blk_get (w := X.setCell ⟨Bf, 0, none⟩ (.bool true)) (by rw [blk_oth Hd.out.2.2.2.2.2]; exact T.out.2.2.1) 0
      simpa using h2
    have b3f : (X.setCell ⟨Bf, 0, none⟩ (.bool true)).frozen? ⟨Bs, 0, none⟩ = false := blk_soft (w := X.setCell ⟨Bf, 0, none⟩ (.bool true)) (by rw [blk_oth Hd.out.2.2.2.2.2]; exact T.out.2.2.1) 0
    have b4 : ((X.setCell ⟨Bf, 0, none⟩ (.bool true)).setCell ⟨Bs, 0, none⟩ (.bool true)).cell? ⟨Bf, 0, none⟩ = some (.bool true) := by
      have h2 := blk_get (HFR.out.1.1.choose_spec.choose_spec.fr) 0
      simpa using h2
    clear hsn
    go_enter Tryz.func34, Tryz.ntmps34
    go_wp2_with fail
    go_ret
    exact ⟨false, rfl, HFR.out.2, HFR.out.1⟩
theorem ear_vis (base zs Be Bb Bs Bf e N : Nat) (he : e < N) (hB : base ≤ Be ∧ base ≤ Bb ∧ base ≤ Bs ∧ base ≤ Bf) (hBz : Be < zs ∧ Bb < zs ∧ Bs < zs ∧ Bf < zs) (hd : Bb ≠ Be ∧ Bs ≠ Be ∧ Bf ≠ Be ∧ Bb ≠ Bs ∧ Bb ≠ Bf ∧ Bs ≠ Bf) :
    Visitor base zs N 34 #[.pointer (some ⟨Be, 0, none⟩), .pointer (some ⟨Bf, 0, none⟩), .pointer (some ⟨Bs, 0, none⟩), .pointer (some ⟨Bb, 0, none⟩)] (earJ Be Bb Bs Bf e) (earD Be Bb Bs Bf e) where
  ent := ent_djEarliest1
  keep := fun _ _ _ h hb => by
    obtain ⟨b, ⟨t1, t2, t3, t4⟩, h2⟩ := h
    exact ⟨b, ⟨(hb.block _ hBz.1).trans t1, (hb.block _ hBz.2.1).trans t2, (hb.block _ hBz.2.2.1).trans t3, (hb.block _ hBz.2.2.2).trans t4⟩, h2⟩
  call := fun X vm P vs hJ _ hm _ hn => djEarliest1_c base zs Be Bb Bs Bf e N X vm P vs he hB hBz hd hJ hm hn
/-- What Earliest answers, where the arguments are valid. -/
def EarlyOk (N : Nat) (l : List Cho) (e : Nat) (most : Nat) (x : Int) (c : Int) : Prop :=
  (x = 0 ∧ c = 7 ∧ ∃ P, SolOk N l P ∧ ¬ P e 0 < noneD) ∨ (x = 0 ∧ c = 18 ∧ aboveB l most = true) ∨ (x = 0 ∧ c = 17 ∧ ∀ y, ¬ SatN l y) ∨
    (c = 0 ∧ (∃ P, SolOk N l P ∧ P e 0 < noneD ∧ x = -(P e 0)) ∧ ∀ y, SatN l y → x ≤ y e - y 0)
def EarlyRet (n : Int) (l : List Cho) (ev most : Int) (w : World) (e : Ending) (w' : World) : Prop :=
  Below w.heap.size w w' ∧ ∃ x c, e = .returned (.tuple #[.int .i64 x, .int .i64 c]) ∧
    ((budE n l most ≠ 0 ∧ x = 0 ∧ c = budE n l most) ∨ (budE n l most = 0 ∧ (ev < 0 ∨ n ≤ ev) ∧ x = 0 ∧ c = 2) ∨ (budE n l most = 0 ∧ 0 ≤ ev ∧ ev < n ∧ EarlyOk n.toNat l ev.toNat most.toNat x c))
theorem bud_ok {n most : Int} {l : List Cho} (h : budE n l most = 0) : netB n l = true ∧ 1 ≤ most ∧ most ≤ 100000 := by
  unfold budE at h
  split at h
  · next h1 =>
    refine ⟨h1, ?_⟩
    split at h
    · cases h
    · next h2 =>
      simp only [Bool.or_eq_true, decide_eq_true_eq, not_or] at h2
      omega
  · cases h
theorem net_ok {n : Int} {l : List Cho} (h : netB n l = true) : ∃ N : Nat, n = (N : Int) ∧ 1 ≤ N ∧ N ≤ 24 ∧ StOk N l := by
  unfold netB at h
  simp only [Bool.and_eq_true, decide_eq_true_eq] at h
  obtain ⟨⟨⟨h1, h2⟩, h3⟩, h4⟩ := h
  refine ⟨n.toNat, by omega, by omega, by omega, h3, fun i hi => ?_⟩
  have := List.all_eq_true.1 h4 _ (List.getElem_mem hi)
  rw [cho_at hi] at this
  rw [show ((n.toNat : Nat) : Int) = n from by omega]
  exact choB_N this
set_option maxRecDepth 100000 in
set_option maxHeartbeats 4000000 in
theorem djEarliest_c (n ev most : Int) (v : Value) (l : List Cho) (w : World) (hs : IsChos w v l) : Calls Tryz.prog 14 #[.int .i64 n, v, .int .i64 ev, .int .i64 most] w (EarlyRet n l ev most w) := by
  obtain ⟨S0, hs⟩ := hs
  obtain ⟨A0, c0, rfl, _, _⟩ := hs.form
  obtain ⟨W, hW⟩ : ∃ y, y = w.alloc (.cells #[.int .i64 ev] 3) := ⟨_, rfl⟩
  obtain ⟨Be, hBe⟩ : ∃ y, y = w.heap.size := ⟨_, rfl⟩
  have hbW : Below w.heap.size w W := by rw [hW]; exact (Below.refl _ _).alloc (Nat.le_refl _) _
  have hzW : W.heap.size = Be + 1 := by rw [hW, World.size_alloc, hBe]
  have hTW : W.heap[Be]? = some (.cells #[.int .i64 ev] 3 (0, 0)) := by rw [hW, hBe]; exact heap_alloc_new w _
  have KB := Lib.hid (djbudget_c n most (.slice A0 l.length c0) l W ⟨S0, hs.below hbW⟩)
  have Hs := Lib.hid hs
  have HW := Lib.hid hW; have HBe := Lib.hid hBe; have HbW := Lib.hid hbW; have HzW := Lib.hid hzW; have HTW := Lib.hid hTW
  obtain ⟨R, hR⟩ : ∃ y, y = budE n l most := ⟨_, rfl⟩
  rw [← hR] at KB
  have HR := Lib.hid hR
  clear hs hW hBe hbW hzW hTW hR
  go_enter Tryz.func14, Tryz.ntmps14
  go_wp2_with fail
  rw [← HW.out, ← HBe.out]
  refine KB.out.mono ?_
  rintro e w2 ⟨rfl, hb2⟩
  have hT2 := (hb2.block _ (by rw [HzW.out]; omega)).trans HTW.out
  have a0 := blk_get hT2 0
  simp only [List.getElem?_toArray, List.getElem?_cons_zero] at a0
  have HT2 := Lib.hid hT2; have Hb2 := Lib.hid (HbW.out.trans (hb2.mono HbW.out.size)); have Hz2 := Lib.hid (show Be < w2.heap.size from blk_lt hT2)
  clear hb2 hT2
  cases q : (R != 0)
  rotate_left
  · have Hq : Hid (R ≠ 0) := Lib.hid (by simpa using q)
    go_wp2_with fail
    go_ret2
    exact ⟨Hb2.out, 0, R, rfl, .inl ⟨by rw [← HR.out]; exact Hq.out, rfl, HR.out⟩⟩
  · obtain rfl : R = 0 := by simpa using q
    obtain ⟨hnet, hm1, hm2⟩ := bud_ok HR.out.symm
    obtain ⟨N, rfl, hN1, hN, hst⟩ := net_ok hnet
    obtain ⟨mo, rfl⟩ : ∃ mo : Nat, most = (mo : Int) := ⟨most.toNat, by omega⟩
    have Hn := Lib.hid (And.intro hN1 hN); have Hst := Lib.hid hst; have Hmo : Hid (1 ≤ mo ∧ mo ≤ 100000) := Lib.hid (by omega)
    clear hnet hm1 hm2 hN1 hN hst q
    cases q1 : decide (ev < 0)
    rotate_left
    · have Hq := Lib.hid (of_decide_eq_true q1)
      go_wp2_with fail
      go_ret2
      exact ⟨Hb2.out, 0, 2, rfl, .inr (.inl ⟨HR.out.symm, .inl Hq.out, rfl, rfl⟩)⟩
    cases q2 : decide ((N : Int) ≤ ev)
    rotate_left
    · have Hq := Lib.hid (of_decide_eq_true q2)
      go_wp2_with fail
      go_ret2
      exact ⟨Hb2.out, 0, 2, rfl, .inr (.inl ⟨HR.out.symm, .inr Hq.out, rfl, rfl⟩)⟩
    have q3 := of_decide_eq_false q1
    have q4 := of_decide_eq_false q2
    obtain ⟨k, rfl⟩ : ∃ k : Nat, ev = (k : Int) := ⟨ev.toNat, by omega⟩
    have Hk : Hid (k < N) := Lib.hid (by omega)
    have q5 : decide (N ≤ k) = false := decide_eq_false (by have := Hk.out; omega)
    obtain ⟨W3, hW3⟩ : ∃ y, y = ((w2.alloc (.cells #[.int .i64 0] 3)).alloc (.cells #[.bool false] 4)).alloc (.cells #[.bool false] 4) := ⟨_, rfl⟩
    obtain ⟨Bb, hBb⟩ : ∃ y, y = w2.heap.size := ⟨_, rfl⟩
    have h1a : Below w2.heap.size w2 W3 := by rw [hW3]; exact (((Below.refl _ _).alloc (Nat.le_refl _) _).alloc (by rw [World.size_alloc]; omega) _).alloc (by rw [World.size_alloc, World.size_alloc]; omega) _
    have hz3 : W3.heap.size = Bb + 3 := by rw [hW3, World.size_alloc, World.size_alloc, World.size_alloc, hBb]
    have T1 : W3.heap[Be]? = some (.cells #[.int .i64 (k : Int)] 3 (0, 0)) := (h1a.block _ Hz2.out).trans HT2.out
    have T2 : W3.heap[Bb]? = some (.cells #[.int .i64 0] 3 (0, 0)) := by
      rw [hW3, hBb, Below.heap_alloc _ _ _ (by rw [World.size_alloc, World.size_alloc]; omega), Below.heap_alloc _ _ _ (by rw [World.size_alloc]; omega)]
      exact heap_alloc_new w2 _
    have T3 : W3.heap[Bb + 1]? = some (.cells #[.bool false] 4 (0, 0)) := by
      rw [hW3, Below.heap_alloc _ _ _ (by rw [World.size_alloc, World.size_alloc]; omega), show Bb + 1 = (w2.alloc (.cells #[.int .i64 0] 3)).heap.size from by rw [World.size_alloc, hBb]]
      exact heap_alloc_new _ _
    have T4 : W3.heap[Bb + 1 + 1]? = some (.cells #[.bool false] 4 (0, 0)) := by
      rw [hW3, show Bb + 1 + 1 = ((w2.alloc (.cells #[.int .i64 0] 3)).alloc (.cells #[.bool false] 4)).heap.size from by rw [World.size_alloc, World.size_alloc, hBb]]
      exact heap_alloc_new _ _
    have hbw3 : Below w.heap.size w W3 := Hb2.out.trans (h1a.mono Hb2.out.size)
    have hle : w.heap.size = Be := HBe.out.symm
    have hBeB : Be < Bb := by rw [hBb]; exact Hz2.out
    have KS := Lib.hid (djsearch_c N (.slice A0 l.length c0) l S0 mo 34 #[.pointer (some ⟨Be, 0, none⟩), .pointer (some ⟨Bb + 1 + 1, 0, none⟩), .pointer (some ⟨Bb + 1, 0, none⟩), .pointer (some ⟨Bb, 0, none⟩)] (earJ Be Bb (Bb + 1) (Bb + 1 + 1) k) (earD Be Bb (Bb + 1) (Bb + 1 + 1) k) w W3 Hs.out hbw3 Hn.out.1 Hn.out.2 Hst.out Hmo.out.1 Hmo.out.2
      (ear_vis _ _ Be Bb (Bb + 1) (Bb + 1 + 1) k N Hk.out (by rw [hle]; omega) (by rw [hz3]; omega) (by omega)) ⟨0, ⟨T1, T2, T3, T4⟩, ⟨fun P hP => absurd hP (by simp), fun h => absurd rfl h⟩⟩)
    have HW3 := Lib.hid hW3; have HBb := Lib.hid hBb; have Hbw3 := Lib.hid hbw3
    have HFin : Hid (∀ x c w', Below W3.heap.size W3 w' ∨ Below w.heap.size W3 w' → EarlyOk N l k mo x c → EarlyRet (N : Int) l (k : Int) (mo : Int) w (.returned (.tuple #[.int .i64 x, .int .i64 c])) w') := Lib.hid fun x c w' hb h => ⟨hbw3.trans (hb.elim (fun h => h.mono hbw3.size) id), x, c, rfl, .inr (.inr ⟨HR.out.symm, by omega, by have := Hk.out; omega, by rw [Int.toNat_natCast, Int.toNat_natCast, Int.toNat_natCast]; exact h⟩)⟩
    clear q3 q4 hW3 hBb h1a hz3 T1 T2 T3 T4 hbw3 hle hBeB
    go_wp2_with fail
    rw [← HW3.out, ← HBb.out]
    refine KS.out.mono ?_
    rintro e w4 ⟨b, vs, rfl, hb4, hvs, h⟩
    have Hb4 := Lib.hid hb4; have Hvs := Lib.hid hvs
    clear hb4 hvs a0
    rcases h with ⟨rfl, h1, bb, ⟨t1, t2, t3, t4⟩, h2⟩ | ⟨rfl, h1, ⟨bb, ss, ⟨t1, t2, t3, t4⟩⟩, h2⟩ | ⟨rfl, ⟨bb, ⟨t1, t2, t3, t4⟩, h3, h4⟩, h5⟩
    · have a4 := blk_get t4 0
      simp only [List.getElem?_toArray, List.getElem?_cons_zero] at a4
      have H1 := Lib.hid h1
      clear h1 h2 t1 t2 t3 t4
      go_wp2_with fail
      go_ret2
      exact HFin.out _ _ _ (.inr Hb4.out) (.inr (.inl ⟨rfl, rfl, H1.out⟩))
    · have a4 := blk_get t4 0
      simp only [List.getElem?_toArray, List.getElem?_cons_zero] at a4
      have H2 := Lib.hid h2
      clear h1 h2 t1 t2 t3 t4
      go_wp2_with fail
      go_ret2
      obtain ⟨P, p1, p2⟩ := H2.out
      exact HFin.out _ _ _ (.inr Hb4.out) (.inl ⟨rfl, rfl, P, Hvs.out P p1, by omega⟩)
    · have a4 := blk_get t4 0
      have a3 := blk_get t3 0
      have a2 := blk_get t2 0
      simp only [List.getElem?_toArray, List.getElem?_cons_zero] at a2 a3 a4
      have H3 := Lib.hid h3; have H4 := Lib.hid h4; have H5 := Lib.hid h5
      clear h3 h4 h5 t1 t2 t3 t4
      cases hv : vs.isEmpty
      · rw [hv] at a3
        have Hv := Lib.hid hv
        clear hv
        simp only [Bool.not_false] at a3
        go_wp2_with fail
        go_ret2
        refine HFin.out _ _ _ (.inr Hb4.out) (.inr (.inr (.inr ⟨rfl, ?_, fun y hy => ?_⟩)))
        · obtain ⟨P, p1, p2⟩ := H4.out (fun h => by have := Hv.out; rw [h] at this; cases this)
          exact ⟨P, Hvs.out P p1, (H3.out P p1).1, p2⟩
        · obtain ⟨P, p1, p2⟩ := H5.out y hy
          have h1 := H3.out P p1
          have h2 := p2 k 0 Hk.out (by have := Hn.out; omega) h1.1
          omega
      · rw [hv] at a3
        have Hv := Lib.hid hv
        clear hv
        simp only [Bool.not_true] at a3
        go_wp2_with fail
        go_ret2
        refine HFin.out _ _ _ (.inr Hb4.out) (.inr (.inr (.inl ⟨rfl, rfl, fun y hy => ?_⟩)))
        obtain ⟨P, p1, _⟩ := H5.out y hy
        have := Hv.out
        cases vs with
        | nil => cases p1
        | cons a r => cases this
end Go.Proofs.YtcppcfinnbeboaaGreat


/- Law 47: disjunctive.Solve; bounds.Consistent, bounds.Between. -/
namespace Go.Proofs.YtcppcfinnbeboaaGreat
open Go.RowKit Go.Shelf

def ConsRet (o : Option Mat) (w : World) (e : Ending) (w' : World) : Prop := e = .returned (.tuple #[.bool o.isSome, .int .i64 0]) ∧ Below w.heap.size w w'
theorem bnds_ok {n : Nat} {l : List Bnd} (hn : n < 24) (hl : l.all (bndB ((n + 1 : Nat) : Int)) = true) (hl2 : l.length ≤ 200) : bndsB ((n + 1 : Nat) : Int) l = true := by
  unfold bndsB
  rw [hl, decide_eq_true (by omega), decide_eq_true (by omega), decide_eq_true (by omega)]
  rfl
def BetwRet (M : Mat) (i j : Nat) (w : World) (e : Ending) (w' : World) : Prop := e = .returned (.tuple #[.int .i64 (-(M j i)), .int .i64 (M i j), .int .i64 0]) ∧ Below w.heap.size w w'
/-- What Solve answers. -/
def SolvRet (n : Int) (l : List Cho) (most : Int) (w : World) (e : Ending) (w' : World) : Prop :=
  Below w.heap.size w w' ∧ ((budE n l most ≠ 0 ∧ e = .returned (.tuple #[.slice none 0 0, .int .i64 (budE n l most)])) ∨
    (budE n l most = 0 ∧ ∃ w0, Below w.heap.size w w0 ∧ SolveRet n.toNat l most.toNat w0 e w'))
theorem djSolve_c (n most : Int) (v : Value) (l : List Cho) (w : World) (hs : IsChos w v l) : Calls Tryz.prog 13 #[.int .i64 n, v, .int .i64 most] w (SolvRet n l most w) := by
  have KB := Lib.hid (djbudget_c n most v l w hs)
  have Hs := Lib.hid hs
  obtain ⟨S0, hs⟩ := hs
  obtain ⟨A0, c0, rfl, _, _⟩ := hs.form
  obtain ⟨R, hR⟩ : ∃ y, y = budE n l most := ⟨_, rfl⟩
  rw [← hR] at KB
  have HR := Lib.hid hR
  clear hs hR
  go_enter Tryz.func13, Tryz.ntmps13
  go_wp2_with fail
  refine KB.out.mono ?_
  rintro e w2 ⟨rfl, hb2⟩
  have Hb2 := Lib.hid hb2
  clear hb2
  cases q : (R != 0)
  rotate_left
  · have Hq : Hid (R ≠ 0) := Lib.hid (by simpa using q)
    go_wp2_with fail
    go_ret2
    exact ⟨Hb2.out, .inl ⟨by rw [← HR.out]; exact Hq.out, by rw [← HR.out]; rfl⟩⟩
  · obtain rfl : R = 0 := by simpa using q
    obtain ⟨hnet, hm1, hm2⟩ := bud_ok HR.out.symm
    obtain ⟨N, rfl, hN1, hN, hst⟩ := net_ok hnet
    obtain ⟨mo, rfl⟩ : ∃ mo : Nat, most = (mo : Int) := ⟨most.toNat, by omega⟩
    have KS := Lib.hid (djsolve_c N (.slice A0 l.length c0) l mo w2 (Hs.out.below Hb2.out) hN1 hN hst (by omega) (by omega))
    have HFin : Hid (∀ e w', SolveRet N l mo w2 e w' → SolvRet (N : Int) l (mo : Int) w e w') := Lib.hid fun e w' h => ⟨Hb2.out.trans (h.1.mono Hb2.out.size), .inr ⟨HR.out.symm, w2, Hb2.out, by rw [Int.toNat_natCast, Int.toNat_natCast]; exact h⟩⟩
    clear hnet hm1 hm2 hN1 hN hst q
    go_wp2_with fail
    refine KS.out.mono ?_
    rintro e w3 ⟨hb3, h⟩
    rcases h with ⟨rfl, h1⟩ | ⟨rfl, h1⟩ | ⟨P, g, c, rfl, h1, h2⟩
    · have H := Lib.hid (HFin.out _ w3 ⟨hb3, .inl ⟨rfl, h1⟩⟩)
      clear hb3 h1
      go_wp2_with fail
      go_ret2
      exact H.out
    · have H := Lib.hid (HFin.out _ w3 ⟨hb3, .inr (.inl ⟨rfl, h1⟩)⟩)
      clear hb3 h1
      go_wp2_with fail
      go_ret2
      exact H.out
    · have H := Lib.hid (HFin.out _ w3 ⟨hb3, .inr (.inr ⟨P, g, c, rfl, h1, h2⟩)⟩)
      clear hb3 h1 h2
      go_wp2_with fail
      go_ret2
      exact H.out
end Go.Proofs.YtcppcfinnbeboaaGreat

/- Law 47: one span in each choice (plain). -/
namespace Go.Proofs.YtcppcfinnbeboaaGreat
open Go.RowKit Go.Shelf

def oneC (c : Cho) : Cho := (c.1, c.2.1, [(fr c.2.2 0, tt c.2.2 0)])
def singC (l : List Cho) (k : Nat) : List Cho := (List.range k).map fun i => oneC (cho l i)
def singB (l : List Cho) : Nat → List Bnd
  | 0 => []
  | k + 1 => singB l k ++ bnd2 (cho l k) (spanJ (cho l k) 0)
theorem singC_len (l : List Cho) (k : Nat) : (singC l k).length = k := by unfold singC; simp
theorem singC_succ (l : List Cho) (k : Nat) : singC l (k + 1) = singC l k ++ [oneC (cho l k)] := by unfold singC; rw [List.range_succ, List.map_append]; rfl
theorem singC_get (l : List Cho) {k i : Nat} (h : i < k) : cho (singC l k) i = oneC (cho l i) := by
  rw [← cho_at (by rw [singC_len]; exact h)]
  unfold singC
  simp
theorem singB_len (l : List Cho) : ∀ k, (singB l k).length = 2 * k
  | 0 => rfl
  | k + 1 => by
    unfold singB
    rw [List.length_append, singB_len l k]
    show 2 * k + 2 = _
    omega
theorem span0_ok {n : Nat} {c : Cho} (h : ChoN (n : Int) c) : spB (spanJ c 0) = true := by
  have h0 : 0 < c.2.2.length := h.2.2.2.2.1
  have h1 : c.2.2[0] = spanJ c 0 := by unfold spanJ fr tt; rw [List.getD_eq_getElem?_getD, List.getElem?_eq_getElem h0]; rfl
  rw [← h1]
  exact List.all_eq_true.1 h.2.2.2.2.2.2 _ (List.getElem_mem _)
theorem oneC_ok {n : Nat} {c : Cho} (h : ChoN (n : Int) c) : ChoN (n : Int) (oneC c) := by
  obtain ⟨h1, h2, h3, h4, h5, h6, h7⟩ := id h
  refine ⟨h1, h2, h3, h4, by show 1 ≤ 1; omega, by show 1 ≤ 8; omega, ?_⟩
  have := span0_ok h
  show (spB (spanJ c 0) && true) = true
  rw [this]
  rfl
theorem singB_ok {n : Nat} {l : List Cho} (h : ∀ i, i < l.length → ChoN (n : Int) (cho l i)) : ∀ k, k ≤ l.length → (singB l k).all (bndB (n : Int)) = true
  | 0, _ => rfl
  | k + 1, hk => by
    unfold singB
    rw [List.all_append, singB_ok h k (by omega), bnd2_ok (h k (by omega)) (span0_ok (h k (by omega)))]
    rfl
theorem sing_sat {l : List Cho} (x : Nat → Int) : ∀ k, SatL (singB l k) x ↔ ∀ i, i < k → mem (oneC (cho l i)).2.2 (difC (oneC (cho l i)) x) = true
  | 0 => ⟨fun _ i hi => absurd hi (by omega), fun _ => satL_nil x⟩
  | k + 1 => by
    have key : SatL (bnd2 (cho l k) (spanJ (cho l k) 0)) x ↔ mem (oneC (cho l k)).2.2 (difC (oneC (cho l k)) x) = true := by
      rw [satL_bnd2]
      show _ ↔ mem [(fr (cho l k).2.2 0, tt (cho l k).2.2 0)] (difC (cho l k) x) = true
      rw [mem_span]
      simp only [Bool.and_eq_true, decide_eq_true_eq]
      exact Iff.rfl
    unfold singB
    rw [satL_app, sing_sat x k, key]
    constructor
    · rintro ⟨a, b⟩ i hi
      by_cases e : i < k
      · exact a i e
      · obtain rfl : i = k := by omega
        exact b
    · exact fun h => ⟨fun i hi => h i (by omega), h k (by omega)⟩
theorem sing_satN (l : List Cho) (x : Nat → Int) : SatN (singC l l.length) x ↔ SatL (singB l l.length) x := by
  rw [sing_sat]
  constructor
  · intro h i hi
    have := h i (by rw [singC_len]; exact hi)
    rw [singC_get l hi] at this
    exact this
  · intro h i hi
    rw [singC_len] at hi
    rw [singC_get l hi]
    exact h i hi
theorem sing_size (l : List Cho) : ∀ k n, k ≤ n → sizeN (singC l n) k = 1
  | 0, _, _ => rfl
  | k + 1, n, h => by
    unfold sizeN
    rw [sing_size l k n (by omega), singC_get l (by omega)]
    rfl
theorem sing_above (l : List Cho) (k : Nat) : aboveB (singC l k) 1 = false := by
  unfold aboveB
  rw [singC_len, sing_size l k k (Nat.le_refl _)]
  rfl
theorem sing_st {n : Nat} {l : List Cho} (h : StOk n l) : StOk n (singC l l.length) := ⟨by rw [singC_len]; exact h.1, fun i hi => by
  rw [singC_len] at hi
  rw [singC_get l hi]
  exact oneC_ok (h.2 i hi)⟩
/-! ### the least time -/
theorem early_some {N : Nat} {l : List Cho} {M : Mat} {k : Nat} {x c : Int} (h1 : 1 ≤ N) (hN : N ≤ 24) (hst : StOk N l) (hk : k < N) (ht : tightX N (singB l l.length) = some M) (h : EarlyOk N (singC l l.length) k 1 x c) :
    (M k 0 < noneD → c = 0 ∧ x = -(M k 0)) ∧ (¬ M k 0 < noneD → c = 7 ∧ x = 0) := by
  have hb := singB_ok (n := N) hst.2 l.length (Nat.le_refl _)
  obtain ⟨m1, m2, m3⟩ := tightX_some h1 hN hb ht
  have hMs : ∀ y, SatM N M y ↔ SatN (singC l l.length) y := fun y => (m3 y).trans (sing_satN l y).symm
  have h0 : 0 < N := h1
  rcases h with ⟨rfl, rfl, P, ⟨bl, p1, p2, p3⟩, p4⟩ | ⟨_, _, h2⟩ | ⟨_, _, h2⟩ | ⟨rfl, ⟨P, ⟨bl, p1, p2, p3⟩, p4, rfl⟩, h3⟩
  · refine ⟨fun hf => ?_, fun _ => ⟨rfl, rfl⟩⟩
    exfalso
    obtain ⟨q1, q2, q3⟩ := tightX_some h1 hN p1 p2
    have hr := (m2 k 0 hk h0).2 hf
    obtain ⟨y, y1, y2⟩ := clo_exact q1 q2 (by omega) hk 26843545601 (by omega)
    have y3 := (y2 0 h0).2 p4
    have y4 := (hMs y).2 (p3 y ((q3 y).1 y1)) k 0 hk h0 hf
    omega
  · rw [sing_above] at h2
    cases h2
  · exfalso
    obtain ⟨y, hy⟩ := tightX_ex h1 hN hb ht
    exact h2 y ((sing_satN l y).2 hy)
  · obtain ⟨q1, q2, q3⟩ := tightX_some h1 hN p1 p2
    have hrp := (q2 k 0 hk h0).2 p4
    refine ⟨fun hf => ⟨rfl, ?_⟩, fun hf => ?_⟩
    · obtain ⟨y, y1, y2⟩ := clo_exact q1 q2 (by omega) hk 0 (by omega)
      have y3 := (y2 0 h0).1 p4
      have y4 := (hMs y).2 (p3 y ((q3 y).1 y1)) k 0 hk h0 hf
      obtain ⟨z, z1, z2⟩ := clo_exact m1 m2 (by omega) hk 0 (by omega)
      have z3 := (z2 0 h0).1 hf
      have z4 := h3 z ((hMs z).1 z1)
      omega
    · exfalso
      obtain ⟨z, z1, z2⟩ := clo_exact m1 m2 (by omega) hk 26843545601 (by omega)
      have z3 := (z2 0 h0).2 hf
      have z4 := h3 z ((hMs z).1 z1)
      omega
theorem early_none {N : Nat} {l : List Cho} {k : Nat} {x c : Int} (hst : StOk N l) (h1 : 1 ≤ N) (hN : N ≤ 24) (ht : tightX N (singB l l.length) = none) (h : EarlyOk N (singC l l.length) k 1 x c) : c = 17 := by
  have hb := singB_ok (n := N) hst.2 l.length (Nat.le_refl _)
  have hno : ∀ y, ¬ SatN (singC l l.length) y := fun y hy => tightX_none hb ht ((sing_satN l y).1 hy)
  have hsol : ∀ P, ¬ SolOk N (singC l l.length) P := fun P ⟨bl, p1, p2, p3⟩ => by
    obtain ⟨y, hy⟩ := tightX_ex h1 hN p1 p2
    exact hno y (p3 y hy)
  rcases h with ⟨_, _, P, p, _⟩ | ⟨_, _, h2⟩ | ⟨_, h2, _⟩ | ⟨_, ⟨P, p, _⟩, _⟩
  · exact absurd p (hsol P)
  · rw [sing_above] at h2
    cases h2
  · exact h2
  · exact absurd p (hsol P)
/-- Solve's answer, where each choice has one span. -/
theorem solve_sing {N : Nat} {l : List Cho} {w w' : World} {e : Ending} (h1 : 1 ≤ N) (hN : N ≤ 24) (hst : StOk N l) (h : SolveRet N (singC l l.length) 1 w e w') :
    ∃ v, e = .returned (.tuple #[v, .int .i64 (if (tightX N (singB l l.length)).isSome then 0 else 17)]) ∧ (∃ A n c, v = .slice A n c) := by
  have hb := singB_ok (n := N) hst.2 l.length (Nat.le_refl _)
  rcases h with ⟨_, ⟨_, h2⟩ | ⟨rfl, h2⟩ | ⟨P, g, c, rfl, ⟨bl, p1, p2, p3⟩, _⟩⟩
  · rw [sing_above] at h2
    cases h2
  · cases ht : tightX N (singB l l.length) with
    | none => exact ⟨_, rfl, _, _, _, rfl⟩
    | some M =>
      obtain ⟨y, hy⟩ := tightX_ex h1 hN hb ht
      exact absurd ((sing_satN l y).2 hy) (h2 y)
  · cases ht : tightX N (singB l l.length) with
    | none =>
      obtain ⟨y, hy⟩ := tightX_ex h1 hN p1 p2
      exact absurd ((sing_satN l y).1 (p3 y hy)) (tightX_none hb ht)
    | some M => exact ⟨_, rfl, _, _, _, rfl⟩
end Go.Proofs.YtcppcfinnbeboaaGreat

/- Law 47: two own lists side by side: choices of one span, their bounds. -/
namespace Go.Proofs.YtcppcfinnbeboaaGreat
open Go.RowKit Go.Shelf

theorem own_blk47 {w w' : World} {base sz n : Nat} {t : TypeId} {v : Value} {xs : List Value} (h : w.ownsRow base t sz v n xs) (hb : ∀ g, v.ownBlock = some g → w'.heap[g]? = w.heap[g]?) : w'.ownsRow base t sz v n xs := by
  obtain ⟨h0, h1 | ⟨g, cap, cur, rfl, h2, h3, h4⟩⟩ := h
  · exact ⟨h0, .inl h1⟩
  · exact ⟨h0, .inr ⟨g, cap, cur, rfl, h2, (hb g rfl).trans h3, h4⟩⟩
theorem own_type {w : World} {base sz n : Nat} {t : TypeId} {v : Value} {xs : List Value} (h : w.ownsRow base t sz v n xs) {g : Nat} (hg : v.ownBlock = some g) : ∃ cs, w.heap[g]? = some (.cells cs t (0, 0)) := by
  obtain ⟨h0, ⟨rfl, _⟩ | ⟨g2, cap, cur, rfl, h2, h3, h4⟩⟩ := h
  · cases hg
  · obtain rfl : g2 = g := Option.some.inj hg
    exact ⟨cur, h3⟩
theorem append_bndsH {ops : Array Oper} {rest : List Oper} {o : Oper} {a : Act} {Q : Exit → Act → World → Prop} (hgd : o.guard = none) (s x : Operand)
    (ho : o.op = .call { callee := .builtin .append, args := #[s, x], argTypes := #[70, 70] })
    {w : World} (base : Nat) (v : Value) (L M : List Bnd) (ad : Addr) (c : Nat) (hs : a.eval s = v) (hown : OwnsB w base 90 v L)
    (hx : a.eval x = .slice (some ad) M.length c) (hM : IsBnds w (.slice (some ad) M.length c) M) (hlen : L.length + M.length < 900000000) (hbase : base ≤ w.heap.size)
    (h : ∀ v' w', OwnsB w' base 90 v' (L ++ M) → Below base w w' → (∀ b, b < w.heap.size → v.ownBlock ≠ some b → w'.heap[b]? = w.heap[b]?) → w.heap.size ≤ w'.heap.size → wpList Tryz.prog ops Q rest (a.put o.dst v') w') :
    wpList Tryz.prog ops Q (o :: rest) a w := by
  obtain ⟨i, hi, hz, hsz, hby⟩ := info_parts tBoundInfo
  refine wpList_append_own_at w hgd s x 70 ho base 90 i _ 3 24 Tryz.underlying70 hi hz hsz hby rfl (by omega) v L.length (flatB L) hs hown ad M.length c
    (flatB M) hx (flatB_length M) (hM.news ad rfl) (flatB_one M) (by unfold maxLen; omega) (by omega) hbase ?_
  intro v' w' hown' hg _ _
  refine h v' w' ?_ ?_ (fun b hb hne => hg.block b hb (fun e => hne e.symm)) hg.size
  · unfold OwnsB
    rw [flatB_append, List.length_append]
    exact hown'
  · refine (Below.refl base w).grown hg hbase ?_
    intro k hk
    exact (World.ownsRow.lt hown k hk).1
def spV (Gs : Nat → Nat) (i : Nat) : Value := .slice (some ⟨Gs i, 0, none⟩) 1 1
structure TwoL (w : World) (base : Nat) (v u : Value) (l : List Cho) (k : Nat) (Gs : Nat → Nat) : Prop where
  own1 : w.ownsRow base 31 3 v (singC l k).length (flatC (singC l k) (spV Gs) (singC l k).length)
  own2 : OwnsB w base 90 u (singB l k)
  sps : ∀ i, i < k → w.heap[Gs i]? = some (.cells #[.int .i64 (fr (cho l i).2.2 0), .int .i64 (tt (cho l i).2.2 0)] 48 (0, 0))
section
variable {w w' : World} {base k : Nat} {v u : Value} {l : List Cho} {Gs : Nat → Nat}
theorem TwoL.below (h : TwoL w base v u l k Gs) (hb : Below w.heap.size w w') : TwoL w' base v u l k Gs :=
  ⟨own_below h.own1 hb (Nat.le_refl _), own_below h.own2 hb (Nat.le_refl _), fun i hi => (hb.block _ (blk_lt (h.sps i hi))).trans (h.sps i hi)⟩
theorem span_cells {W : World} {g : Nat} {p q : Int} (h : W.heap[g]? = some (.cells #[.int .i64 p, .int .i64 q] 48 (0, 0))) : IsSpans W (.slice (some ⟨g, 0, none⟩) 1 1) [(p, q)] := by
  refine ⟨_, _, rfl, Nat.le_refl _, by omega, fun _ => ⟨g, 0, rfl, blk_lt h, fun i j hi hj => ?_⟩⟩
  rw [blk_get h]
  simp only [List.length_cons, List.length_nil] at hi
  obtain rfl : i = 0 := by omega
  rcases (by omega : j = 0 ∨ j = 1) with rfl | rfl <;> rfl
theorem TwoL.ownC (h : TwoL w base v u l k Gs) : OwnC w base v (singC l k) (spV Gs) := by
  refine ⟨h.own1, fun i hi => ?_, fun i hi => ?_, fun i hi g hg e => ?_⟩
  · rw [singC_len] at hi
    rw [singC_get l hi]
    exact span_cells (h.sps i hi)
  · rw [singC_len] at hi
    rw [singC_get l hi]
    exact Nat.zero_lt_one
  · rw [singC_len] at hi
    obtain rfl : Gs i = g := Option.some.inj e
    obtain ⟨cs, h1⟩ := own_type h.own1 hg
    rw [h.sps i hi] at h1
    injection h1 with h1
    injection h1 with _ h2 _
    exact absurd h2 (by decide)
theorem TwoL.sep (h : TwoL w base v u l k Gs) {g : Nat} (h1 : v.ownBlock = some g) (h2 : u.ownBlock = some g) : False := by
  obtain ⟨c1, a1⟩ := own_type h.own1 h1
  obtain ⟨c2, a2⟩ := own_type h.own2 h2
  rw [a1] at a2
  injection a2 with a2
  injection a2 with _ a3 _
  exact absurd a3 (by decide)
/-- A choice is appended. -/
theorem TwoL.add1 (h : TwoL w base v u l k Gs) {v' : Value} {gn : Nat} (hs : w.heap[gn]? = some (.cells #[.int .i64 (fr (cho l k).2.2 0), .int .i64 (tt (cho l k).2.2 0)] 48 (0, 0)))
    (ho : OwnC w' base v' (singC l k ++ [oneC (cho l k)]) (fun i => if i = (singC l k).length then .slice (some ⟨gn, 0, none⟩) 1 1 else spV Gs i)) (hb : ∀ b, b < w.heap.size → v.ownBlock ≠ some b → w'.heap[b]? = w.heap[b]?) :
    w'.ownsRow base 31 3 v' (singC l (k + 1)).length (flatC (singC l (k + 1)) (spV fun i => if i = k then gn else Gs i) (singC l (k + 1)).length) ∧ OwnsB w' base 90 u (singB l k) ∧ ∀ i, i < k + 1 → w'.heap[if i = k then gn else Gs i]? = some (.cells #[.int .i64 (fr (cho l i).2.2 0), .int .i64 (tt (cho l i).2.2 0)] 48 (0, 0)) := by
  have hsp : ∀ (g : Nat) (c : Array Value), w.heap[g]? = some (.cells c 48 (0, 0)) → w'.heap[g]? = some (.cells c 48 (0, 0)) := fun g c hg => by
    refine (hb g (blk_lt hg) fun e => ?_).trans hg
    obtain ⟨cs, h1⟩ := own_type h.own1 e
    rw [hg] at h1
    injection h1 with h1
    injection h1 with _ h2 _
    exact absurd h2 (by decide)
  refine ⟨?_, own_blk47 h.own2 fun g hg => hb g ?_ fun e => h.sep e hg, fun i hi => ?_⟩
  · have e : (spV fun i => if i = k then gn else Gs i) = fun i => if i = (singC l k).length then Value.slice (some ⟨gn, 0, none⟩) 1 1 else spV Gs i := by
      funext i
      rw [singC_len]
      unfold spV
      by_cases e : i = k
      · simp only [if_pos e]
      · simp only [if_neg e]
    rw [singC_succ, e]
    exact ho.own
  · obtain ⟨cs, h1⟩ := own_type h.own2 hg
    exact blk_lt h1
  · by_cases e : i = k
    · rw [if_pos e]; subst e; exact hsp _ _ hs
    · rw [if_neg e]; exact hsp _ _ (h.sps i (by omega))
end
/-- The bounds are appended. -/
theorem two_add2 {w w' : World} {base k : Nat} {v u u' : Value} {l : List Cho} {Gs : Nat → Nat} (h1 : w.ownsRow base 31 3 v (singC l (k + 1)).length (flatC (singC l (k + 1)) (spV Gs) (singC l (k + 1)).length)) (h2 : OwnsB w base 90 u (singB l k))
    (h3 : ∀ i, i < k + 1 → w.heap[Gs i]? = some (.cells #[.int .i64 (fr (cho l i).2.2 0), .int .i64 (tt (cho l i).2.2 0)] 48 (0, 0))) (h4 : OwnsB w' base 90 u' (singB l k ++ bnd2 (cho l k) (spanJ (cho l k) 0))) (hb : ∀ b, b < w.heap.size → u.ownBlock ≠ some b → w'.heap[b]? = w.heap[b]?) : TwoL w' base v u' l (k + 1) Gs := by
  have key : ∀ (g : Nat) (c : Array Value) (t : TypeId), w.heap[g]? = some (.cells c t (0, 0)) → t ≠ 90 → w'.heap[g]? = w.heap[g]? := fun g c t hg hne => by
    refine hb g (blk_lt hg) fun e => ?_
    obtain ⟨cs, a1⟩ := own_type h2 e
    rw [hg] at a1
    injection a1 with a1
    injection a1 with _ a2 _
    exact hne a2
  refine ⟨own_blk47 h1 fun g hg => ?_, h4, fun i hi => (key _ _ _ (h3 i hi) (by decide)).trans (h3 i hi)⟩
  obtain ⟨cs, a1⟩ := own_type h1 hg
  exact key _ _ _ a1 (by decide)
end Go.Proofs.YtcppcfinnbeboaaGreat
