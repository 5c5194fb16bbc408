/- Law 39: the reference's result of a group: least and greatest values. -/
import Derived.Test.YtohjgegnamcnlaaGreatAjQ
namespace Go.Proofs.YtohjgegnamcnlaaGreat
open Go.RowKit Go.Shelf

/-- What out holds: the best so far. -/
def accB (fn : Int) (l : List Val) : Val := if l = [] then (1, 0, ⟨#[]⟩) else bestV fn l
theorem accB_nil (fn : Int) : accB fn [] = (1, 0, ⟨#[]⟩) := by unfold accB; rw [if_pos rfl]
theorem accB_one (fn : Int) (x : Val) : accB fn ([] ++ [x]) = x := by
  unfold accB
  rw [if_neg (by simp)]
  rfl
theorem accB_app {fn : Int} {l : List Val} (x : Val) (h : l ≠ []) : accB fn (l ++ [x]) = bst fn (accB fn l) x := by
  unfold accB
  rw [if_neg (by simp), if_neg h, best_app x h]
def valG (ks : List Int) (R : List VRow) (k : VRow) (col i : Nat) : List Val := colV (memG ks (R.take i) k) col
theorem valG_zero (ks : List Int) (R : List VRow) (k : VRow) (col : Nat) : valG ks R k col 0 = [] := by simp [valG, memG, colV]
theorem valG_yes {ks : List Int} {R : List VRow} {k : VRow} {col i : Nat} (hi : i < R.length) (h : sameR (pickR (vr R i) ks) k = true) : valG ks R k col (i + 1) = valG ks R k col i ++ [va (vr R i) col] := by
  unfold valG
  rw [memG_yes hi (of_decide_eq_true h)]
  unfold colV
  rw [List.map_append]
  rfl
theorem valG_no {ks : List Int} {R : List VRow} {k : VRow} {col i : Nat} (hi : i < R.length) (h : sameR (pickR (vr R i) ks) k = false) : valG ks R k col (i + 1) = valG ks R k col i := by
  unfold valG
  rw [memG_no hi (of_decide_eq_false h)]
theorem valG_len (ks : List Int) (R : List VRow) (k : VRow) (col i : Nat) : (valG ks R k col i).length ≤ i := by
  unfold valG colV
  rw [List.length_map]
  exact memG_len ks R k i
theorem ResB.put {w X : World} {b : Val} (h : ResB w X b) (x : Val) : ResB w (X.setRow (w.heap.size + 1) #[.int .i64 x.1, .int .i64 x.2.1, .string x.2.2]) x :=
  ⟨below_row h.bel (Nat.le_succ w.heap.size) _, (setRow_other X (w.heap.size + 1) w.heap.size _ (by omega)).trans h.res, setRow_heap X (w.heap.size + 1) _ _ _ _ h.out⟩
set_option maxRecDepth 100000 in
set_option maxHeartbeats 16000000 in
theorem r39result_best (v vk vv : Value) (R : List VRow) (ks : List Int) (k : VRow) (col : Nat) (fn : Int) (w : World) (hs : IsRv w v R) (hk : IsInts w vk ks) (hv : IsVals w vv k) (hok : ∀ r ∈ R, keysIn r.length ks) (hl : ks.length ≤ 100000) (hR : R.length ≤ 1000000) (hc : ∀ r ∈ R, col < r.length ∧ (va r col).2.2.size ≤ 1000000000) (hf : fn = 3 ∨ fn = 4) (hne : ∃ r ∈ R, pickR r ks = k) :
    Calls Tryz.prog 46 #[v, vk, vv, .int .i64 fn, .int .i64 (col : Int)] w (Ret w (.tuple #[encV (bestV fn (colV (memG ks R k) col)), .bool true])) := by
  have HK := Lib.hid (rowK (v := v) hk hv hok hl)
  have Hc := Lib.hid hc
  obtain ⟨S, hs⟩ := hs
  obtain ⟨A, c, rfl, hnc, hcc⟩ := hs.form
  obtain ⟨W0, hW0, hB0, hz0⟩ := resB_start w
  have HW0 := Lib.hid hW0; have HB0 := Lib.hid hB0
  obtain ⟨res, hres⟩ : ∃ r, r = bestV fn (colV (memG ks R k) col) := ⟨_, rfl⟩
  rw [← hres]
  have HF : Hid (accB fn (valG ks R k col R.length) = res) := Lib.hid (by
    obtain ⟨r, hr, e⟩ := hne
    have h1 : r ∈ memG ks R k := List.mem_filter.2 ⟨hr, decide_eq_true e⟩
    have h2 : colV (memG ks R k) col ≠ [] := List.ne_nil_of_mem (List.mem_map.2 ⟨r, h1, rfl⟩)
    unfold accB valG
    rw [List.take_length, if_neg h2, hres])
  have f1 : (fn == 1) = false := by rcases hf with rfl | rfl <;> rfl
  have f2 : (fn == 2) = false := by rcases hf with rfl | rfl <;> rfl
  have hcas : ((fn == 3) = true ∧ (fn == 4) = false) ∨ ((fn == 3) = false ∧ (fn == 4) = true) := by rcases hf with e | e <;> (rw [e]; decide)
  have Hcas := Lib.hid hcas
  clear hW0 hB0 hz0 hres hc hne hf hcas
  go_enter Tryz.func46, Tryz.ntmps46
  go_wp2_with fail
  rw [← HW0.out]
  try go_frame
  go_loopw [12, 16] (fun n i X => ∃ (j : Nat) (bv : Val), n = .int .i64 ((valG ks R k col j).length : Int) ∧ i = .int .i64 (j : Int) ∧ j ≤ R.length ∧ Hid (accB fn (valG ks R k col j) = bv) ∧ Hid (ResB w X bv)) (fun _ i _ => R.length - (intOf i).toNat)
  case atStart => exact ⟨0, (1, 0, ⟨#[]⟩), by rw [valG_zero]; rfl, rfl, Nat.zero_le _, Lib.hid (by rw [valG_zero]; exact accB_nil fn), HB0⟩
  case round =>
    obtain ⟨j, ⟨bk, bn, bs⟩, rfl, rfl, hj, HA, HB⟩ := hrel
    rename World => X
    have hlen := valG_len ks R k col j
    by_cases hlt : j < R.length
    · obtain ⟨b, off, rfl, hbl⟩ := hs.addr (by omega)
      have hin := hs.below HB.out.bel
      have c0 := hin.cell j hlt
      have hr := hs.2 j hlt
      obtain ⟨hkr, hsz⟩ := Hc.out _ (vr_mem hlt)
      obtain ⟨Ar, cr, hSr, _, _⟩ := hr.form
      rw [hSr] at c0 hr
      have K1 := Lib.hid (HK.out.part j X _ _ _ hlt (hr.below HB.out.bel) HB.out.bel)
      obtain ⟨br, ofr, rfl, hbr⟩ := hr.addr (by omega)
      have x0 := hr.c0 col hkr
      have x1 := hr.c1 col hkr
      have x2 := hr.c2 col hkr
      have hyes := valG_yes (ks := ks) (k := k) (col := col) hlt
      have hno := valG_no (ks := ks) (k := k) (col := col) hlt
      have K2 := Lib.hid (fun Y u h hb => HK.out.same j Y u hlt h hb)
      obtain ⟨row, hrow⟩ : ∃ r, r = vr R j := ⟨_, rfl⟩
      rw [← hrow] at c0 K1 K2 hyes hno hkr hsz x0 x1 x2
      obtain ⟨⟨xk, xn, xs⟩, hx⟩ : ∃ x, x = va row col := ⟨_, rfl⟩
      rw [← hx] at x0 x1 x2 hyes hsz
      simp only at x0 x1 x2 hyes
      obtain ⟨l, hl0⟩ : ∃ l, l = valG ks R k col j := ⟨_, rfl⟩
      rw [← hl0] at hyes hno hlen HA ⊢
      generalize pickR row ks = pr at K1 K2 hyes hno
      have hnn1 : IntKind.i64.wrap ((l.length : Int) + 1) = ((l.length + 1 : Nat) : Int) := by rw [IntKind.wrap_i64]; omega
      have hkl : col < row.length := hkr
      have Hlt := Lib.hid hlt
      have X0 : Hid (∀ Y, Below w.heap.size w Y → Y.cell? ⟨br, ofr + col * 3, none⟩ = some (.int .i64 xk) ∧ Y.cell? ⟨br, ofr + col * 3 + 1, none⟩ = some (.int .i64 xn) ∧ Y.cell? ⟨br, ofr + col * 3 + 2, none⟩ = some (.string xs)) := Lib.hid fun Y h => ⟨(h.cell (p := ⟨br, ofr + col * 3, none⟩) hbr).trans x0, (h.cell (p := ⟨br, ofr + col * 3 + 1, none⟩) hbr).trans x1, (h.cell (p := ⟨br, ofr + col * 3 + 2, none⟩) hbr).trans x2⟩
      have C0 : Hid (∀ Y, Below w.heap.size w Y → Y.cell? ⟨b, off + j, none⟩ = some (.slice (some ⟨br, ofr, none⟩) row.length cr)) := Lib.hid fun Y h => by
        have := (hs.below h).cell j hlt
        rw [hSr, ← hrow] at this
        exact this
      have KC : Hid (∀ Y : World, Calls Tryz.prog 66 #[.agg #[.int .i64 xk, .int .i64 xn, .string xs], .agg #[.int .i64 bk, .int .i64 bn, .string bs]] Y (Ret Y (.int .i64 (cmpV (xk, xn, xs) (bk, bn, bs))))) := Lib.hid fun Y => r33Compare_c _ _ _ _ _ _ Y hsz
      clear hin hr hSr hrow hx x0 x1 x2 hkr hsz
      cases q : sameR pr k
      · have HN := Lib.hid (hno q)
        have HL := Lib.hid hl0
        rw [q] at K2
        clear hyes hno q hl0
        go_wp2_with fail
        refine K1.out.mono ?_
        rintro e X1 ⟨u, rfl, hu, hb1⟩
        have HB1 := Lib.hid (HB.out.below hb1)
        have K3 := Lib.hid (K2.out X1 u (own_low hu HB.out.bel.size) HB1.out.bel)
        obtain ⟨Au, cu, rfl, _, _⟩ := hu.vals.form
        clear hu hb1 c0
        go_wp2_with fail
        refine K3.out.mono ?_
        rintro e X2 ⟨rfl, hb2⟩
        have HB2 := Lib.hid (HB1.out.below hb2)
        clear hb2
        go_wp2_with fail
        go_roundw
        case rel => exact ⟨j + 1, (bk, bn, bs), by rw [HN.out], by go_num, Hlt.out, Lib.hid (by rw [HN.out]; exact HA.out), HB2⟩
        case measure => have := Hlt.out; simp [intOf]; omega
      · have HN := Lib.hid (hyes q)
        rw [q] at K2
        clear hyes hno q hl0
        go_wp2_with fail
        refine K1.out.mono ?_
        rintro e X1 ⟨u, rfl, hu, hb1⟩
        have HB1 := Lib.hid (HB.out.below hb1)
        have K3 := Lib.hid (K2.out X1 u (own_low hu HB.out.bel.size) HB1.out.bel)
        obtain ⟨Au, cu, rfl, _, _⟩ := hu.vals.form
        clear hu hb1 c0
        go_wp2_with fail
        refine K3.out.mono ?_
        rintro e X2 ⟨rfl, hb2⟩
        have hB2 := HB1.out.below hb2
        obtain ⟨x0, x1, x2⟩ := X0.out X2 hB2.bel
        have c0 := C0.out X2 hB2.bel
        obtain ⟨X3, hX3⟩ : ∃ Z, Z = X2.alloc (.cells #[.int .i64 xk, .int .i64 xn, .string xs] 51) := ⟨_, rfl⟩
        have hb3 : Below X2.heap.size X2 X3 := by rw [hX3]; exact (Below.refl _ _).alloc (Nat.le_refl _) _
        have hbk : X3.heap[X2.heap.size]? = some (.cells #[.int .i64 xk, .int .i64 xn, .string xs] 51 (0, 0)) := by rw [hX3]; exact heap_alloc_new X2 _
        have HB3 := Lib.hid (hB2.below hb3); have HX3 := Lib.hid hX3
        have HBk := Lib.hid hbk
        have HP : Hid (ResB w (X3.setRow (w.heap.size + 1) #[.int .i64 xk, .int .i64 xn, .string xs]) (xk, xn, xs)) := Lib.hid ((hB2.below hb3).put (xk, xn, xs))
        clear hb2 hB2 hX3 hb3 hbk
        go_upto_region 11 with fail
        rw [← HX3.out]
        have y0 := blk_get HBk.out 0
        have y1 := blk_get HBk.out 1
        have y2 := blk_get HBk.out 2
        have hxo := HB3.out.out
        have z0 := blk_get hxo 0
        have z1 := blk_get hxo 1
        have z2 := blk_get hxo 2
        simp at y0 y1 y2 z0 z1 z2
        clear x0 x1 x2 c0
        rcases Hcas.out with ⟨f3, f4⟩ | ⟨f3, f4⟩
        · have F3 := Lib.hid f3; have F4 := Lib.hid f4
          by_cases h0 : l.length = 0
          · have g1 : (((l.length + 1 : Nat) : Int) == 1) = true := by rw [h0]; rfl
            have g2 : (((l.length : Int) + 1) == 1) = true := by rw [h0]; rfl
            have he : l = [] := List.length_eq_zero_iff.1 h0
            have HE := Lib.hid he
            clear h0 he
            go_wp2_with (refine wpList_store_row rfl 51 _ _ (by rfl) (w.heap.size + 1) #[.int .i64 xk, .int .i64 xn, .string xs] (by rfl) (by rfl) 51 _ hxo (by kernel_rfl) rfl (by simp [Value.oneCell']) ?_)
            go_roundw
            case rel => exact ⟨j + 1, (xk, xn, xs), by rw [HN.out, List.length_append]; go_num, by go_num, Hlt.out, Lib.hid (by rw [HN.out, HE.out]; exact accB_one fn _), HP⟩
            case measure => have := Hlt.out; simp [intOf]; omega
          · have g1 : (((l.length + 1 : Nat) : Int) == 1) = false := by rw [beq_eq_false_iff_ne]; omega
            have g2 : (((l.length : Int) + 1) == 1) = false := by rw [beq_eq_false_iff_ne]; omega
            have hne : l ≠ [] := fun e => h0 (by rw [e]; rfl)
            have HNe := Lib.hid hne
            clear h0 hne
            go_wp2_with fail
            refine (KC.out X3).mono ?_
            rintro e X4 ⟨rfl, hb4⟩
            have hB4 := HB3.out.below hb4
            have hbk4 := (hb4.block _ (blk_lt HBk.out)).trans HBk.out
            have hxo4 := hB4.out
            have z0 := blk_get hxo4 0
            have z1 := blk_get hxo4 1
            have z2 := blk_get hxo4 2
            have y0 := blk_get hbk4 0
            have y1 := blk_get hbk4 1
            have y2 := blk_get hbk4 2
            simp at y0 y1 y2 z0 z1 z2
            have HB4 := Lib.hid hB4
            have HP4 := Lib.hid (hB4.put (xk, xn, xs))
            obtain ⟨d, hd⟩ : ∃ d, d = cmpV (xk, xn, xs) (bk, bn, bs) := ⟨_, rfl⟩
            rw [← hd]
            have Hd := Lib.hid hd
            clear hd hB4 hb4 hbk4
            cases q4 : decide (d < 0)
            · go_wp2_with fail
              go_roundw
              case rel => exact ⟨j + 1, (bk, bn, bs), by rw [HN.out, List.length_append]; go_num, by go_num, Hlt.out, Lib.hid (by rw [HN.out, accB_app _ HNe.out, HA.out]; unfold bst; rw [if_neg (by rintro (⟨_, h⟩ | ⟨h, _⟩); exact (of_decide_eq_false q4) (Hd.out ▸ h); have e := F4.out; rw [h] at e; cases e)]), HB4⟩
              case measure => have := Hlt.out; simp [intOf]; omega
            · go_wp2_with (refine wpList_store_row rfl 51 _ _ (by rfl) (w.heap.size + 1) #[.int .i64 xk, .int .i64 xn, .string xs] (by rfl) (by rfl) 51 _ hxo4 (by kernel_rfl) rfl (by simp [Value.oneCell']) ?_)
              go_roundw
              case rel => exact ⟨j + 1, (xk, xn, xs), by rw [HN.out, List.length_append]; go_num, by go_num, Hlt.out, Lib.hid (by rw [HN.out, accB_app _ HNe.out, HA.out]; unfold bst; rw [if_pos (.inl ⟨eq_of_beq F3.out, Hd.out ▸ of_decide_eq_true q4⟩)]), HP4⟩
              case measure => have := Hlt.out; simp [intOf]; omega
        · have F3 := Lib.hid f3; have F4 := Lib.hid f4
          by_cases h0 : l.length = 0
          · have g1 : (((l.length + 1 : Nat) : Int) == 1) = true := by rw [h0]; rfl
            have g2 : (((l.length : Int) + 1) == 1) = true := by rw [h0]; rfl
            have he : l = [] := List.length_eq_zero_iff.1 h0
            have HE := Lib.hid he
            clear h0 he
            go_wp2_with (refine wpList_store_row rfl 51 _ _ (by rfl) (w.heap.size + 1) #[.int .i64 xk, .int .i64 xn, .string xs] (by rfl) (by rfl) 51 _ hxo (by kernel_rfl) rfl (by simp [Value.oneCell']) ?_)
            go_roundw
            case rel => exact ⟨j + 1, (xk, xn, xs), by rw [HN.out, List.length_append]; go_num, by go_num, Hlt.out, Lib.hid (by rw [HN.out, HE.out]; exact accB_one fn _), HP⟩
            case measure => have := Hlt.out; simp [intOf]; omega
          · have g1 : (((l.length + 1 : Nat) : Int) == 1) = false := by rw [beq_eq_false_iff_ne]; omega
            have g2 : (((l.length : Int) + 1) == 1) = false := by rw [beq_eq_false_iff_ne]; omega
            have hne : l ≠ [] := fun e => h0 (by rw [e]; rfl)
            have HNe := Lib.hid hne
            clear h0 hne
            go_wp2_with fail
            refine (KC.out X3).mono ?_
            rintro e X4 ⟨rfl, hb4⟩
            have hB4 := HB3.out.below hb4
            have hbk4 := (hb4.block _ (blk_lt HBk.out)).trans HBk.out
            have hxo4 := hB4.out
            have z0 := blk_get hxo4 0
            have z1 := blk_get hxo4 1
            have z2 := blk_get hxo4 2
            have y0 := blk_get hbk4 0
            have y1 := blk_get hbk4 1
            have y2 := blk_get hbk4 2
            simp at y0 y1 y2 z0 z1 z2
            have HB4 := Lib.hid hB4
            have HP4 := Lib.hid (hB4.put (xk, xn, xs))
            obtain ⟨d, hd⟩ : ∃ d, d = cmpV (xk, xn, xs) (bk, bn, bs) := ⟨_, rfl⟩
            rw [← hd]
            have Hd := Lib.hid hd
            clear hd hB4 hb4 hbk4
            cases q4 : decide (0 < d)
            · go_wp2_with fail
              go_roundw
              case rel => exact ⟨j + 1, (bk, bn, bs), by rw [HN.out, List.length_append]; go_num, by go_num, Hlt.out, Lib.hid (by rw [HN.out, accB_app _ HNe.out, HA.out]; unfold bst; rw [if_neg (by rintro (⟨h, _⟩ | ⟨_, h⟩); have e := F3.out; rw [h] at e; cases e; exact (of_decide_eq_false q4) (Hd.out ▸ h))]), HB4⟩
              case measure => have := Hlt.out; simp [intOf]; omega
            · go_wp2_with (refine wpList_store_row rfl 51 _ _ (by rfl) (w.heap.size + 1) #[.int .i64 xk, .int .i64 xn, .string xs] (by rfl) (by rfl) 51 _ hxo4 (by kernel_rfl) rfl (by simp [Value.oneCell']) ?_)
              go_roundw
              case rel => exact ⟨j + 1, (xk, xn, xs), by rw [HN.out, List.length_append]; go_num, by go_num, Hlt.out, Lib.hid (by rw [HN.out, accB_app _ HNe.out, HA.out]; unfold bst; rw [if_pos (.inr ⟨eq_of_beq F4.out, Hd.out ▸ of_decide_eq_true q4⟩)]), HP4⟩
              case measure => have := Hlt.out; simp [intOf]; omega
    · obtain rfl : j = R.length := by omega
      have hF := HA.out.symm.trans HF.out
      subst hF
      clear hlen
      have z0 := blk_get HB.out.out 0
      have z1 := blk_get HB.out.out 1
      have z2 := blk_get HB.out.out 2
      have g0 := blk_soft HB.out.res 0
      have g1 := blk_soft HB.out.res 1
      have g2 := blk_soft HB.out.res 2
      have q0 := blk_get HB.out.res 0
      have q1 := blk_get HB.out.res 1
      have q2 := blk_get HB.out.res 2
      simp at z0 z1 z2 q0 q1 q2
      go_wp2_with fail
      have hfin := blk_set (blk_set (blk_set HB.out.res 0 (.int .i64 bk)) 1 (.int .i64 bn)) 2 (.string bs)
      simp at hfin
      refine bodyPost_ret (results_cell_row2 rfl _ _ w.heap.size 51 _ _ _ rfl hfin Tryz.underlying51 rfl (by kernel_rfl)) rfl ?_
      exact ⟨rfl, ((HB.out.bel.setCell (p := ⟨w.heap.size, 0, none⟩) (Nat.le_refl _) _).setCell (p := ⟨w.heap.size, 1, none⟩) (Nat.le_refl _) _).setCell (p := ⟨w.heap.size, 2, none⟩) (Nat.le_refl _) _⟩
end Go.Proofs.YtohjgegnamcnlaaGreat
