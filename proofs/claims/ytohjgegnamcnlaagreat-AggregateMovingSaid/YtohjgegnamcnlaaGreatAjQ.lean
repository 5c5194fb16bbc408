/- Law 39: the reference's result of a group. -/
import Derived.Test.YtohjgegnamcnlaaGreatAhf
import Derived.Test.YtohjgegnamcnlaaGreatZad
import Derived.Test.YtohjgegnamcnlaaGreatAjN
namespace Go.Proofs.YtohjgegnamcnlaaGreat
open Go.RowKit Go.Shelf

/-- The two boxes of result: the answer's, and out. -/
structure ResB (w X : World) (b : Val) : Prop where
  bel : Below w.heap.size w X
  res : X.heap[w.heap.size]? = some (.cells #[.int .i64 0, .int .i64 0, .string ⟨#[]⟩] 51 (0, 0))
  out : X.heap[w.heap.size + 1]? = some (.cells #[.int .i64 b.1, .int .i64 b.2.1, .string b.2.2] 51 (0, 0))
theorem ResB.below {w X Y : World} {b : Val} (h : ResB w X b) (hb : Below X.heap.size X Y) : ResB w Y b :=
  ⟨h.bel.trans (hb.mono h.bel.size), (hb.block _ (blk_lt h.res)).trans h.res, (hb.block _ (blk_lt h.out)).trans h.out⟩
theorem ResB.low {w X Y : World} {b : Val} (h : ResB w X b) (hb : Below (w.heap.size + 2) X Y) : ResB w Y b :=
  ⟨h.bel.trans (hb.mono (by omega)), (hb.block _ (by omega)).trans h.res, (hb.block _ (by omega)).trans h.out⟩
theorem resB_start (w : World) : ∃ X, X = (w.alloc (.cells #[.int .i64 0, .int .i64 0, .string ⟨#[]⟩] 51)).alloc (.cells #[.int .i64 1, .int .i64 0, .string ⟨#[]⟩] 51) ∧ ResB w X (1, 0, ⟨#[]⟩) ∧ X.heap.size = w.heap.size + 2 := by
  have hz1 : (w.alloc (.cells #[.int .i64 0, .int .i64 0, .string ⟨#[]⟩] 51)).heap.size = w.heap.size + 1 := by simp
  have b1 := (Below.refl w.heap.size w).alloc (Nat.le_refl _) (.cells #[.int .i64 0, .int .i64 0, .string ⟨#[]⟩] 51)
  have b2 := (Below.refl _ (w.alloc (.cells #[.int .i64 0, .int .i64 0, .string ⟨#[]⟩] 51))).alloc (Nat.le_refl _) (.cells #[.int .i64 1, .int .i64 0, .string ⟨#[]⟩] 51)
  refine ⟨_, rfl, ⟨b1.trans (b2.mono (by omega)), ?_, ?_⟩, by simp⟩
  · exact (b2.block _ (by omega)).trans (heap_alloc_new w _)
  · have := heap_alloc_new (w.alloc (.cells #[.int .i64 0, .int .i64 0, .string ⟨#[]⟩] 51)) (.cells #[.int .i64 1, .int .i64 0, .string ⟨#[]⟩] 51)
    rw [hz1] at this
    exact this
/-- What result asks of each row: its part, and whether it is the group's. -/
structure RowK (v vk vv : Value) (R : List VRow) (ks : List Int) (k : VRow) (w : World) : Prop where
  part : ∀ i X A n c, i < R.length → IsVals X (.slice A n c) (vr R i) → Below w.heap.size w X → Calls Tryz.prog 44 #[.slice A n c, vk] X (VRet (pickR (vr R i) ks) X)
  same : ∀ i X u, i < R.length → OwnsV X w.heap.size u (pickR (vr R i) ks) → Below w.heap.size w X → Calls Tryz.prog 48 #[u, vv] X (Ret X (.bool (sameR (pickR (vr R i) ks) k)))
theorem rowK {v vk vv : Value} {R : List VRow} {ks : List Int} {k : VRow} {w : World} (hk : IsInts w vk ks) (hv : IsVals w vv k) (hok : ∀ r ∈ R, keysIn r.length ks) (hl : ks.length ≤ 100000) : RowK v vk vv R ks k w :=
  ⟨fun _ X _ _ _ hi hx hb => r39part_c _ _ _ _ X hx (hk.below hb) (hok _ (vr_mem hi)) hl, fun _ X _ _ hu hb => r33Same_c _ _ _ _ X hu.vals (hv.below hb)⟩
def cntG (ks : List Int) (R : List VRow) (k : VRow) (i : Nat) : Nat := (memG ks (R.take i) k).length
theorem cntG_zero (ks : List Int) (R : List VRow) (k : VRow) : cntG ks R k 0 = 0 := by simp [cntG, memG]
theorem cntG_yes {ks : List Int} {R : List VRow} {k : VRow} {i : Nat} (hi : i < R.length) (h : sameR (pickR (vr R i) ks) k = true) : cntG ks R k (i + 1) = cntG ks R k i + 1 := by
  unfold cntG
  rw [memG_yes hi (of_decide_eq_true h), List.length_append]
  rfl
theorem cntG_no {ks : List Int} {R : List VRow} {k : VRow} {i : Nat} (hi : i < R.length) (h : sameR (pickR (vr R i) ks) k = false) : cntG ks R k (i + 1) = cntG ks R k i := by
  unfold cntG
  rw [memG_no hi (of_decide_eq_false h)]
theorem cntG_le (ks : List Int) (R : List VRow) (k : VRow) (i : Nat) : cntG ks R k i ≤ i := memG_len ks R k i
set_option maxRecDepth 100000 in
set_option maxHeartbeats 4000000 in
theorem r39result_count (v vk vv : Value) (R : List VRow) (ks : List Int) (k : VRow) (col : Int) (w : World) (hs : IsRv w v R) (hk : IsInts w vk ks) (hv : IsVals w vv k) (hok : ∀ r ∈ R, keysIn r.length ks) (hl : ks.length ≤ 100000) (hR : R.length ≤ 1000000) :
    Calls Tryz.prog 46 #[v, vk, vv, .int .i64 1, .int .i64 col] w (Ret w (.tuple #[encV (1, ((memG ks R k).length : Int), ⟨#[]⟩), .bool true])) := by
  have HK := Lib.hid (rowK (v := v) hk hv hok hl)
  obtain ⟨S, hs⟩ := hs
  obtain ⟨A, c, rfl, hnc, hc⟩ := hs.form
  obtain ⟨W0, hW0, hB0, hz0⟩ := resB_start w
  have HW0 := Lib.hid hW0; have HB0 := Lib.hid hB0
  obtain ⟨cF, hcF⟩ : ∃ n, n = (memG ks R k).length := ⟨_, rfl⟩
  rw [← hcF]
  have HF : Hid (cF = cntG ks R k R.length) := Lib.hid (by rw [hcF]; unfold cntG; rw [List.take_length])
  clear hcF
  clear hW0 hB0 hz0
  go_enter Tryz.func46, Tryz.ntmps46
  go_wp2_with fail
  rw [← HW0.out]
  try go_frame
  go_loopw [12, 16] (fun n i X => ∃ j : Nat, n = .int .i64 (cntG ks R k j : Int) ∧ i = .int .i64 (j : Int) ∧ j ≤ R.length ∧ Hid (ResB w X (1, 0, ⟨#[]⟩))) (fun _ i _ => R.length - (intOf i).toNat)
  case atStart => exact ⟨0, by rw [cntG_zero]; rfl, rfl, Nat.zero_le _, HB0⟩
  case round =>
    obtain ⟨j, rfl, rfl, hj, HB⟩ := hrel
    rename World => X
    have hcle := cntG_le ks R k j
    by_cases hlt : j < R.length
    · obtain ⟨b, off, rfl, hbl⟩ := hs.addr (by omega)
      have hin := hs.below HB.out.bel
      have c0 := hin.cell j hlt
      have hr := hin.2 j hlt
      obtain ⟨Ar, cr, hSr, _, _⟩ := hr.form
      rw [hSr] at c0 hr
      have K1 := Lib.hid (HK.out.part j X _ _ _ hlt hr HB.out.bel)
      have hyes := cntG_yes (ks := ks) (k := k) hlt
      have hno := cntG_no (ks := ks) (k := k) hlt
      have K2 := Lib.hid (fun Y u h hb => HK.out.same j Y u hlt h hb)
      generalize vr R j = row at c0 hr K1 K2 hyes hno hSr
      generalize hcn : cntG ks R k j = cn at hyes hno hcle ⊢
      generalize pickR row ks = pr at K1 K2 hyes hno
      have hwr : IntKind.i64.wrap ((cn : Int) + 1) = ((cn + 1 : Nat) : Int) := by rw [IntKind.wrap_i64]; omega
      have Hlt := Lib.hid hlt; have Hcn := Lib.hid hcn
      clear hin hr hSr hcn
      cases q : sameR pr k
      · have HN := Lib.hid (hno q)
        rw [q] at K2
        clear hyes hno q
        go_wp2_with fail
        refine K1.out.mono ?_
        rintro e X1 ⟨u, rfl, hu, hb1⟩
        have HB1 := Lib.hid (HB.out.below hb1)
        have K3 := Lib.hid (K2.out X1 u (own_low hu HB.out.bel.size) HB1.out.bel)
        obtain ⟨Au, cu, rfl, _, _⟩ := hu.vals.form
        clear hu hb1 c0
        go_wp2_with fail
        refine K3.out.mono ?_
        rintro e X2 ⟨rfl, hb2⟩
        have HB2 := Lib.hid (HB1.out.below hb2)
        clear hb2
        go_wp2_with fail
        go_roundw
        case rel => exact ⟨j + 1, by rw [HN.out], by go_num, Hlt.out, HB2⟩
        case measure => have := Hlt.out; simp [intOf]; omega
      · have HN := Lib.hid (hyes q)
        rw [q] at K2
        clear hyes hno q
        go_wp2_with fail
        refine K1.out.mono ?_
        rintro e X1 ⟨u, rfl, hu, hb1⟩
        have HB1 := Lib.hid (HB.out.below hb1)
        have K3 := Lib.hid (K2.out X1 u (own_low hu HB.out.bel.size) HB1.out.bel)
        obtain ⟨Au, cu, rfl, _, _⟩ := hu.vals.form
        clear hu hb1 c0
        go_wp2_with fail
        refine K3.out.mono ?_
        rintro e X2 ⟨rfl, hb2⟩
        have HB2 := Lib.hid (HB1.out.below hb2)
        clear hb2
        go_wp2_with fail
        go_roundw
        case rel => exact ⟨j + 1, by rw [HN.out]; go_num, by go_num, Hlt.out, HB2⟩
        case measure => have := Hlt.out; simp [intOf]; omega
    · obtain rfl : j = R.length := by omega
      have hcF := HF.out
      generalize cntG ks R k R.length = cn at hcle hcF ⊢
      have HC := Lib.hid hcF
      clear hcF
      have s1 := blk_soft HB.out.out 1
      have z1 := blk_get HB.out.out 1
      simp at z1
      have hset := blk_set HB.out.out 1 (.int .i64 (cn : Int))
      have hres := (blk_oth (show w.heap.size ≠ w.heap.size + 1 by omega) 1 (.int .i64 (cn : Int))).trans HB.out.res
      simp at hset
      have hbel := HB.out.bel.setCell (p := ⟨w.heap.size + 1, 1, none⟩) (Nat.le_succ _) (.int .i64 (cn : Int))
      have HX9 : Hid (∃ Y, Y = X.setCell ⟨w.heap.size + 1, 1, none⟩ (.int .i64 (cn : Int)) ∧ ResB w Y (1, (cn : Int), ⟨#[]⟩)) := Lib.hid ⟨_, rfl, hbel, hres, hset⟩
      clear hset hres hbel
      go_upto_region 24 with fail
      obtain ⟨Y, hY, hR⟩ := HX9.out
      rw [← hY]
      clear z1 s1
      have z0 := blk_get hR.out 0
      have z1 := blk_get hR.out 1
      have z2 := blk_get hR.out 2
      have g0 := blk_soft hR.res 0
      have g1 := blk_soft hR.res 1
      have g2 := blk_soft hR.res 2
      have q0 := blk_get hR.res 0
      have q1 := blk_get hR.res 1
      have q2 := blk_get hR.res 2
      simp at z0 z1 z2 q0 q1 q2
      have HR := Lib.hid hR
      clear hR hY
      go_wp2_with fail
      have hfin := blk_set (blk_set (blk_set HR.out.res 0 (.int .i64 1)) 1 (.int .i64 (cn : Int))) 2 (.string ⟨#[]⟩)
      simp at hfin
      refine bodyPost_ret (results_cell_row2 rfl _ _ w.heap.size 51 _ _ _ rfl hfin Tryz.underlying51 rfl (by kernel_rfl)) rfl ?_
      exact ⟨by rw [HC.out]; rfl, ((HR.out.bel.setCell (p := ⟨w.heap.size, 0, none⟩) (Nat.le_refl _) _).setCell (p := ⟨w.heap.size, 1, none⟩) (Nat.le_refl _) _).setCell (p := ⟨w.heap.size, 2, none⟩) (Nat.le_refl _) _⟩
/-! ### sums -/
/-- The lists of the parts that are not negative, and of the negative ones. -/
structure PMs (w X : World) (p m : Value) (P M : List Int) : Prop where
  pl : X.ownsRow (w.heap.size + 2) 3 1 p P.length (flatI P)
  mi : X.ownsRow (w.heap.size + 2) 3 1 m M.length (flatI M)
  dj : ∀ g, p.ownBlock = some g → m.ownBlock ≠ some g
section
variable {w X Y : World} {p m p' : Value} {P M : List Int} {x : Int}
theorem PMs.start (w X : World) : PMs w X (.slice none 0 0) (.slice none 0 0) [] [] := ⟨own_nil _ _ _ _, own_nil _ _ _ _, fun g h => by cases h⟩
theorem PMs.below (h : PMs w X p m P M) (hb : Below X.heap.size X Y) : PMs w Y p m P M := ⟨own_below h.pl hb (Nat.le_refl _), own_below h.mi hb (Nat.le_refl _), h.dj⟩
theorem flatI_snoc (P : List Int) (x : Int) : flatI (P ++ [x]) = flatI P ++ [.int .i64 x] := by unfold flatI; rw [List.map_append]; rfl
theorem PMs.plus (h : PMs w X p m P M) (h1 : Y.ownsRow (w.heap.size + 2) 3 1 p' (P.length + 1) (flatI P ++ [.int .i64 x])) (hbk : ∀ k, k < X.heap.size → p.ownBlock ≠ some k → Y.heap[k]? = X.heap[k]?) (hob : p'.ownBlock = p.ownBlock ∨ p'.ownBlock = some (X.heap.size + 1)) : PMs w Y p' m (P ++ [x]) M := by
  refine ⟨by rw [flatI_snoc, List.length_append]; exact h1, own_blocks h.mi fun g hg => hbk g (World.ownsRow.lt h.mi g hg).2 fun e => h.dj g e hg, fun g hg e => ?_⟩
  rcases hob with q | q
  · exact h.dj g (q ▸ hg) e
  · rw [q] at hg
    have := (World.ownsRow.lt h.mi g e).2
    injection hg with hg
    omega
theorem PMs.minus (h : PMs w X p m P M) (h1 : Y.ownsRow (w.heap.size + 2) 3 1 p' (M.length + 1) (flatI M ++ [.int .i64 x])) (hbk : ∀ k, k < X.heap.size → m.ownBlock ≠ some k → Y.heap[k]? = X.heap[k]?) (hob : p'.ownBlock = m.ownBlock ∨ p'.ownBlock = some (X.heap.size + 1)) : PMs w Y p p' P (M ++ [x]) := by
  refine ⟨own_blocks h.pl fun g hg => hbk g (World.ownsRow.lt h.pl g hg).2 fun e => h.dj g hg e, by rw [flatI_snoc, List.length_append]; exact h1, fun g e hg => ?_⟩
  rcases hob with q | q
  · exact h.dj g e (q ▸ hg)
  · rw [q] at hg
    have := (World.ownsRow.lt h.pl g e).2
    injection hg with hg
    omega
end
def colG (ks : List Int) (R : List VRow) (k : VRow) (col i : Nat) : List Int := colN (memG ks (R.take i) k) col
theorem colG_zero (ks : List Int) (R : List VRow) (k : VRow) (col : Nat) : colG ks R k col 0 = [] := by simp [colG, memG, colN]
theorem colG_yes {ks : List Int} {R : List VRow} {k : VRow} {col i : Nat} (hi : i < R.length) (h : sameR (pickR (vr R i) ks) k = true) : colG ks R k col (i + 1) = colG ks R k col i ++ [(va (vr R i) col).2.1] := by
  unfold colG
  rw [memG_yes hi (of_decide_eq_true h)]
  unfold colN
  rw [List.map_append]
  rfl
theorem colG_no {ks : List Int} {R : List VRow} {k : VRow} {col i : Nat} (hi : i < R.length) (h : sameR (pickR (vr R i) ks) k = false) : colG ks R k col (i + 1) = colG ks R k col i := by
  unfold colG
  rw [memG_no hi (of_decide_eq_false h)]
theorem colG_len (ks : List Int) (R : List VRow) (k : VRow) (col i : Nat) : (colG ks R k col i).length ≤ i := by
  unfold colG colN
  rw [List.length_map]
  exact memG_len ks R k i
set_option maxRecDepth 100000 in
set_option maxHeartbeats 8000000 in
theorem r39result_sum (v vk vv : Value) (R : List VRow) (ks : List Int) (k : VRow) (col : Nat) (w : World) (hs : IsRv w v R) (hk : IsInts w vk ks) (hv : IsVals w vv k) (hok : ∀ r ∈ R, keysIn r.length ks) (hl : ks.length ≤ 100000) (hR : R.length ≤ 1000000) (hc : ColOk R col) :
    Calls Tryz.prog 46 #[v, vk, vv, .int .i64 2, .int .i64 (col : Int)] w (Ret w (.tuple #[encV (1, (resS (colN (memG ks R k) col)).1, ⟨#[]⟩), .bool (decide ((resS (colN (memG ks R k) col)).2 = 0))])) := by
  have HK := Lib.hid (rowK (v := v) hk hv hok hl)
  have Hc := Lib.hid hc
  obtain ⟨S, hs⟩ := hs
  obtain ⟨A, c, rfl, hnc, hcc⟩ := hs.form
  obtain ⟨W0, hW0, hB0, hz0⟩ := resB_start w
  have HW0 := Lib.hid hW0; have HB0 := Lib.hid hB0
  obtain ⟨res, hres⟩ : ∃ r, r = resS (colN (memG ks R k) col) := ⟨_, rfl⟩
  rw [← hres]
  have HF : Hid (addR (plusL (colG ks R k col R.length)) (minusL (colG ks R k col R.length)) = (res.1, decide (res.2 = 0))) := Lib.hid (by rw [addR_res, hres]; unfold colG; rw [List.take_length])
  have hbd : ∀ j, j ≤ R.length → ∀ x ∈ colG ks R k col j, -9223372036854775808 ≤ x ∧ x ≤ 9223372036854775807 := fun j hj x hx => by
    unfold colG colN at hx
    obtain ⟨r, hr, rfl⟩ := List.mem_map.1 hx
    have hr2 : r ∈ R := List.mem_of_mem_take (List.mem_filter.1 hr).1
    exact (hc r hr2).2
  have Hbd := Lib.hid hbd
  clear hW0 hB0 hz0 hres hc hbd
  go_enter Tryz.func46, Tryz.ntmps46
  go_wp2_with fail
  rw [← HW0.out]
  try go_frame
  go_loopw [12, 14, 15, 16] (fun n p m i X => ∃ (j nn : Nat), n = .int .i64 (nn : Int) ∧ nn ≤ j ∧ i = .int .i64 (j : Int) ∧ j ≤ R.length ∧ Hid (ResB w X (1, 0, ⟨#[]⟩)) ∧ Hid (PMs w X p m (plusL (colG ks R k col j)) (minusL (colG ks R k col j)))) (fun _ _ _ i _ => R.length - (intOf i).toNat)
  case atStart => exact ⟨0, 0, rfl, Nat.zero_le _, rfl, Nat.zero_le _, HB0, Lib.hid (by rw [colG_zero]; exact PMs.start _ _)⟩
  case round =>
    obtain ⟨j, nn, rfl, hnn, rfl, hj, HB, HP⟩ := hrel
    rename World => X
    by_cases hlt : j < R.length
    · obtain ⟨b, off, rfl, hbl⟩ := hs.addr (by omega)
      have hin := hs.below HB.out.bel
      have c0 := hin.cell j hlt
      have hr := hs.2 j hlt
      obtain ⟨hkr, hi1⟩ := Hc.out _ (vr_mem hlt)
      obtain ⟨Ar, cr, hSr, _, _⟩ := hr.form
      rw [hSr] at c0 hr
      have K1 := Lib.hid (HK.out.part j X _ _ _ hlt (hr.below HB.out.bel) HB.out.bel)
      obtain ⟨br, ofr, rfl, hbr⟩ := hr.addr (by omega)
      have x0 := hr.c0 col hkr
      have x1 := hr.c1 col hkr
      have x2 := hr.c2 col hkr
      have hyes := colG_yes (ks := ks) (k := k) (col := col) hlt
      have hno := colG_no (ks := ks) (k := k) (col := col) hlt
      have hlen := colG_len ks R k col j
      have K2 := Lib.hid (fun Y u h hb => HK.out.same j Y u hlt h hb)
      obtain ⟨row, hrow⟩ : ∃ r, r = vr R j := ⟨_, rfl⟩
      rw [← hrow] at c0 K1 K2 hyes hno hkr hi1 x0 x1 x2
      obtain ⟨⟨xk, xn, xs⟩, hx⟩ : ∃ x, x = va row col := ⟨_, rfl⟩
      rw [← hx] at x0 x1 x2 hyes hi1
      simp only at x0 x1 x2 hyes
      generalize colG ks R k col j = l at hyes hno hlen HP
      generalize pickR row ks = pr at K1 K2 hyes hno
      have hpl : (plusL l).length ≤ l.length := List.length_filter_le _ _
      have hml : (minusL l).length ≤ l.length := List.length_filter_le _ _
      have hp9 : (plusL l).length < 900000000 := by omega
      have hm9 : (minusL l).length < 900000000 := by omega
      have hnn1 : IntKind.i64.wrap ((nn : Int) + 1) = ((nn + 1 : Nat) : Int) := by rw [IntKind.wrap_i64]; omega
      have hkl : col < row.length := hkr
      have Hlt := Lib.hid hlt; have Hnn := Lib.hid hnn
      have X0 : Hid (∀ Y, Below w.heap.size w Y → Y.cell? ⟨br, ofr + col * 3, none⟩ = some (.int .i64 xk) ∧ Y.cell? ⟨br, ofr + col * 3 + 1, none⟩ = some (.int .i64 xn) ∧ Y.cell? ⟨br, ofr + col * 3 + 2, none⟩ = some (.string xs)) := Lib.hid fun Y h => ⟨(h.cell (p := ⟨br, ofr + col * 3, none⟩) hbr).trans x0, (h.cell (p := ⟨br, ofr + col * 3 + 1, none⟩) hbr).trans x1, (h.cell (p := ⟨br, ofr + col * 3 + 2, none⟩) hbr).trans x2⟩
      have C0 : Hid (∀ Y, Below w.heap.size w Y → Y.cell? ⟨b, off + j, none⟩ = some (.slice (some ⟨br, ofr, none⟩) row.length cr)) := Lib.hid fun Y h => by
        have := (hs.below h).cell j hlt
        rw [hSr, ← hrow] at this
        exact this
      clear hin hr hSr hrow hx x0 x1 x2 hkr hpl hml hi1 hnn
      cases q : sameR pr k
      · have HN := Lib.hid (hno q)
        rw [q] at K2
        clear hyes hno q
        go_wp2_with fail
        refine K1.out.mono ?_
        rintro e X1 ⟨u, rfl, hu, hb1⟩
        have HB1 := Lib.hid (HB.out.below hb1)
        have HP1 := Lib.hid (HP.out.below hb1)
        have K3 := Lib.hid (K2.out X1 u (own_low hu HB.out.bel.size) HB1.out.bel)
        obtain ⟨Au, cu, rfl, _, _⟩ := hu.vals.form
        clear hu hb1 c0
        go_wp2_with fail
        refine K3.out.mono ?_
        rintro e X2 ⟨rfl, hb2⟩
        have HB2 := Lib.hid (HB1.out.below hb2)
        have HP2 := Lib.hid (HP1.out.below hb2)
        clear hb2
        go_wp2_with fail
        go_roundw
        case rel => exact ⟨j + 1, nn, rfl, by have := Hnn.out; omega, by go_num, Hlt.out, HB2, Lib.hid (by rw [HN.out]; exact HP2.out)⟩
        case measure => have := Hlt.out; simp [intOf]; omega
      · have HN := Lib.hid (hyes q)
        rw [q] at K2
        clear hyes hno q
        go_wp2_with fail
        refine K1.out.mono ?_
        rintro e X1 ⟨u, rfl, hu, hb1⟩
        have HB1 := Lib.hid (HB.out.below hb1)
        have HP1 := Lib.hid (HP.out.below hb1)
        have K3 := Lib.hid (K2.out X1 u (own_low hu HB.out.bel.size) HB1.out.bel)
        obtain ⟨Au, cu, rfl, _, _⟩ := hu.vals.form
        clear hu hb1 c0
        go_wp2_with fail
        refine K3.out.mono ?_
        rintro e X2 ⟨rfl, hb2⟩
        have hB2 := HB1.out.below hb2
        have hP2 := HP1.out.below hb2
        obtain ⟨x0, x1, x2⟩ := X0.out X2 hB2.bel
        have c0 := C0.out X2 hB2.bel
        obtain ⟨X3, hX3⟩ : ∃ Z, Z = X2.alloc (.cells #[.int .i64 xk, .int .i64 xn, .string xs] 51) := ⟨_, rfl⟩
        have hb3 : Below X2.heap.size X2 X3 := by rw [hX3]; exact (Below.refl _ _).alloc (Nat.le_refl _) _
        have hbk : X3.heap[X2.heap.size]? = some (.cells #[.int .i64 xk, .int .i64 xn, .string xs] 51 (0, 0)) := by rw [hX3]; exact heap_alloc_new X2 _
        have HB3 := Lib.hid (hB2.below hb3); have HP3 := Lib.hid (hP2.below hb3); have HX3 := Lib.hid hX3
        have HBk := Lib.hid hbk
        have hz3 : w.heap.size + 2 ≤ X3.heap.size := blk_lt HB3.out.out
        clear hb2 hB2 hP2 hX3 hb3 hbk
        go_upto_region 11 with fail
        rw [← HX3.out]
        have y0 := blk_get HBk.out 0
        have y1 := blk_get HBk.out 1
        have y2 := blk_get HBk.out 2
        simp at y0 y1 y2
        clear x0 x1 x2 c0
        cases q2 : decide (0 ≤ xn)
        · have hlt0 := of_decide_eq_false q2
          have HPl : Hid (plusL (l ++ [xn]) = plusL l) := Lib.hid (by rw [plusL_app, if_neg hlt0])
          have HMi : Hid (minusL (l ++ [xn]) = minusL l ++ [xn]) := Lib.hid (by rw [minusL_app, if_neg hlt0])
          clear hlt0
          go_wp2_with (at_builtin; refine append1 tInts tIntInfo rfl (by omega) (by omega) rfl _ _ (by rfl) (w.heap.size + 2) _ (minusL l).length (flatI (minusL l)) [.int .i64 xn] (by rfl) HP3.out.mi (by rfl) (by rfl) (by rfl) rfl (by simp [Value.oneCell']) hm9 hz3 ?_; intro v8 w8 hown8 hb8 hbk8 hob8)
          go_roundw
          case rel => exact ⟨j + 1, nn + 1, by go_num, by have := Hnn.out; omega, by go_num, Hlt.out, Lib.hid (HB3.out.low hb8), Lib.hid (by rw [HN.out, HPl.out, HMi.out]; exact HP3.out.minus hown8 hbk8 hob8)⟩
          case measure => have := Hlt.out; simp [intOf]; omega
        · have hle0 := of_decide_eq_true q2
          have HPl : Hid (plusL (l ++ [xn]) = plusL l ++ [xn]) := Lib.hid (by rw [plusL_app, if_pos hle0])
          have HMi : Hid (minusL (l ++ [xn]) = minusL l) := Lib.hid (by rw [minusL_app, if_pos hle0])
          clear hle0
          go_wp2_with (at_builtin; refine append1 tInts tIntInfo rfl (by omega) (by omega) rfl _ _ (by rfl) (w.heap.size + 2) _ (plusL l).length (flatI (plusL l)) [.int .i64 xn] (by rfl) HP3.out.pl (by rfl) (by rfl) (by rfl) rfl (by simp [Value.oneCell']) hp9 hz3 ?_; intro v8 w8 hown8 hb8 hbk8 hob8)
          go_roundw
          case rel => exact ⟨j + 1, nn + 1, by go_num, by have := Hnn.out; omega, by go_num, Hlt.out, Lib.hid (HB3.out.low hb8), Lib.hid (by rw [HN.out, HPl.out, HMi.out]; exact HP3.out.plus hown8 hbk8 hob8)⟩
          case measure => have := Hlt.out; simp [intOf]; omega
    · obtain rfl : j = R.length := by omega
      have hbdl := Hbd.out R.length (Nat.le_refl _)
      have hF := HF.out
      generalize colG ks R k col R.length = l at HP hbdl hF
      have K := Lib.hid (r39Add_c _ _ (plusL l) (minusL l) X (ints_of_own HP.out.pl) (ints_of_own HP.out.mi) (fun x hx => by
        obtain ⟨h1, h2⟩ := List.mem_filter.1 hx
        have := hbdl x h1
        have := of_decide_eq_true h2
        omega) (fun x hx => by
        obtain ⟨h1, h2⟩ := List.mem_filter.1 hx
        have := hbdl x h1
        have := of_decide_eq_true h2
        omega))
      rw [hF] at K
      clear hbdl hF
      go_wp2_with fail
      refine K.out.mono ?_
      rintro e X1 ⟨rfl, hb1⟩
      have HB1 := Lib.hid (HB.out.below hb1)
      clear hb1
      have s1 := blk_soft HB1.out.out 1
      have z1 := blk_get HB1.out.out 1
      simp at z1
      have hset := blk_set HB1.out.out 1 (.int .i64 res.1)
      have hres := (blk_oth (show w.heap.size ≠ w.heap.size + 1 by omega) 1 (.int .i64 res.1)).trans HB1.out.res
      simp at hset
      have hbel := HB1.out.bel.setCell (p := ⟨w.heap.size + 1, 1, none⟩) (Nat.le_succ _) (.int .i64 res.1)
      have HX9 : Hid (∃ Y, Y = X1.setCell ⟨w.heap.size + 1, 1, none⟩ (.int .i64 res.1) ∧ ResB w Y (1, res.1, ⟨#[]⟩)) := Lib.hid ⟨_, rfl, hbel, hres, hset⟩
      clear hset hres hbel
      go_upto_region 27 with fail
      obtain ⟨Y, hY, hR⟩ := HX9.out
      rw [← hY]
      clear z1 s1
      have z0 := blk_get hR.out 0
      have z1 := blk_get hR.out 1
      have z2 := blk_get hR.out 2
      have g0 := blk_soft hR.res 0
      have g1 := blk_soft hR.res 1
      have g2 := blk_soft hR.res 2
      have q0 := blk_get hR.res 0
      have q1 := blk_get hR.res 1
      have q2 := blk_get hR.res 2
      simp at z0 z1 z2 q0 q1 q2
      have HR := Lib.hid hR
      clear hR hY
      go_wp2_with fail
      have hfin := blk_set (blk_set (blk_set HR.out.res 0 (.int .i64 1)) 1 (.int .i64 res.1)) 2 (.string ⟨#[]⟩)
      simp at hfin
      refine bodyPost_ret (results_cell_row2 rfl _ _ w.heap.size 51 _ _ _ rfl hfin Tryz.underlying51 rfl (by kernel_rfl)) rfl ?_
      exact ⟨rfl, ((HR.out.bel.setCell (p := ⟨w.heap.size, 0, none⟩) (Nat.le_refl _) _).setCell (p := ⟨w.heap.size, 1, none⟩) (Nat.le_refl _) _).setCell (p := ⟨w.heap.size, 2, none⟩) (Nat.le_refl _) _⟩
end Go.Proofs.YtohjgegnamcnlaaGreat
