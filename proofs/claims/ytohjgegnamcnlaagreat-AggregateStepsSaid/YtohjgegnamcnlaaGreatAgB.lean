/- Law 39: the orders of values and rows, as the code has them. -/
import Derived.Test.YtohjgegnamcnlaaGreatAgA
namespace Go.Proofs.YtohjgegnamcnlaaGreat
open Go.RowKit Go.Shelf
open Go.Sort (grow grow_grow grow_empty)

theorem cmpI_sg (a b : Int) : cmpI a b = sgI a b := rfl
theorem cmpNaNStr_c (s : ByteArray) (w : World) : Calls Tryz.prog 149 #[.string s] w (fun e w' => e = .returned (.bool false) ∧ w' = w) := by
  go_enter Tryz.func149, Tryz.ntmps149
  go_wp2_with fail
  go_ret
  exact ⟨rfl, rfl⟩
theorem cmpCompareStr_c (x y : ByteArray) (w : World) : Calls Tryz.prog 117 #[.string x, .string y] w (fun e w' => e = .returned (.int .i64 (sgS x y)) ∧ w' = w) := by
  have k1 := Lib.hid fun X => cmpNaNStr_c x X
  have k2 := Lib.hid fun X => cmpNaNStr_c y X
  obtain ⟨R, hR⟩ : ∃ r, r = sgS x y := ⟨_, rfl⟩
  rw [← hR]
  unfold sgS bLt at hR
  rw [← ByteArray.toList_eq, ← ByteArray.toList_eq] at hR
  cases h1 : Op.bytesLess x.toList y.toList
  · rw [h1, if_neg (by decide)] at hR
    cases h2 : (x.toList == y.toList)
    · have h3 : Op.bytesLess y.toList x.toList = true := by
        cases h3 : Op.bytesLess y.toList x.toList
        · rw [lt_tri _ _ h1 h3] at h2
          simp at h2
        · rfl
      rw [h3, if_pos rfl] at hR
      have HR := Lib.hid hR
      clear hR h3
      go_enter Tryz.func117, Tryz.ntmps117
      go_wp2_with fail
      refine (k1.out _).mono ?_
      rintro e w1 ⟨rfl, rfl⟩
      go_wp2_with fail
      refine (k2.out _).mono ?_
      rintro e w1 ⟨rfl, rfl⟩
      go_wp2_with fail
      go_ret
      exact ⟨by rw [HR.out]; rfl, rfl⟩
    · have h3 : Op.bytesLess y.toList x.toList = false := by
        rw [← eq_of_beq h2]
        exact lt_irr _
      rw [h3, if_neg (by decide)] at hR
      have HR := Lib.hid hR
      clear hR h3
      go_enter Tryz.func117, Tryz.ntmps117
      go_wp2_with fail
      refine (k1.out _).mono ?_
      rintro e w1 ⟨rfl, rfl⟩
      go_wp2_with fail
      refine (k2.out _).mono ?_
      rintro e w1 ⟨rfl, rfl⟩
      go_wp2_with fail
      go_ret
      exact ⟨by rw [HR.out]; rfl, rfl⟩
  · rw [h1, if_pos rfl] at hR
    have HR := Lib.hid hR
    clear hR
    go_enter Tryz.func117, Tryz.ntmps117
    go_wp2_with fail
    refine (k1.out _).mono ?_
    rintro e w1 ⟨rfl, rfl⟩
    go_wp2_with fail
    refine (k2.out _).mono ?_
    rintro e w1 ⟨rfl, rfl⟩
    go_wp2_with fail
    go_ret
    exact ⟨by rw [HR.out]; rfl, rfl⟩
theorem orL_cmp (a b : Val) : orL [sgI a.1 b.1, sgI a.2.1 b.2.1, sgS a.2.2 b.2.2] = cmpV a b := by
  unfold cmpV lexC
  simp only [orL]
  generalize sgI a.1 b.1 = p
  generalize sgI a.2.1 b.2.1 = q
  generalize sgS a.2.2 b.2.2 = r
  by_cases h1 : p = 0 <;> by_cases h2 : q = 0 <;> by_cases h3 : r = 0 <;> simp [h1, h2, h3]
set_option maxRecDepth 100000 in
set_option maxHeartbeats 4000000 in
theorem vorder_c (x y : Val) (w : World) : Calls Tryz.prog 97 #[encV x, encV y] w (Grown w (.int .i64 (cmpV x y))) := by
  have hr := orL_cmp x y
  obtain ⟨a0, a1, a2⟩ := x
  obtain ⟨b0, b1, b2⟩ := y
  have Hcmp : Hid (∀ x y (W : World), Calls Tryz.prog 116 #[.int .i64 x, .int .i64 y] W (Grown W (.int .i64 (sgI x y)))) := Lib.hid fun x y W => (cmpCompare_c x y W).mono fun _ _ ⟨he, hw⟩ => ⟨he, hw ▸ grown_same W⟩
  have Hcms : Hid (∀ x y (W : World), Calls Tryz.prog 117 #[.string x, .string y] W (Grown W (.int .i64 (sgS x y)))) := Lib.hid fun x y W => (cmpCompareStr_c x y W).mono fun _ _ ⟨he, hw⟩ => ⟨he, hw ▸ grown_same W⟩
  obtain ⟨r, hrr⟩ : ∃ r, r = cmpV (a0, a1, a2) (b0, b1, b2) := ⟨_, rfl⟩
  rw [← hrr] at hr ⊢
  simp only at hr
  have Hr := Lib.hid hr; clear hr hrr
  unfold encV
  obtain ⟨w1, hw1⟩ : ∃ y, y = w.alloc (.cells #[.int .i64 a0, .int .i64 a1, .string a2] 51) := ⟨_, rfl⟩
  obtain ⟨w0, hw0⟩ : ∃ y, y = w1.alloc (.cells #[.int .i64 b0, .int .i64 b1, .string b2] 51) := ⟨_, rfl⟩
  have hz1 : w1.heap.size = w.heap.size + 1 := by rw [hw1, World.size_alloc]
  have T0 : w0.heap[w.heap.size]? = some (.cells #[.int .i64 a0, .int .i64 a1, .string a2] 51 (0, 0)) := by
    rw [hw0]
    exact (((Below.refl _ _).alloc (Nat.le_refl w1.heap.size) _).block _ (by omega)).trans (by rw [hw1]; exact heap_alloc_new w _)
  have T1 : w0.heap[w.heap.size + 1]? = some (.cells #[.int .i64 b0, .int .i64 b1, .string b2] 51 (0, 0)) := by rw [hw0, ← hz1]; exact heap_alloc_new w1 _
  have hgw : ∃ n os, w0 = grow (w.drewN n) os := by
    rw [hw0]
    refine grown_trans (w1 := w1) ?_ (grown_alloc _ _)
    rw [hw1]
    exact grown_alloc _ _
  have x0 := blk_get T0 0
  have x1 := blk_get T0 1
  have x2 := blk_get T0 2
  have y0 := blk_get T1 0
  have y1 := blk_get T1 1
  have y2 := blk_get T1 2
  simp at x0 x1 x2 y0 y1 y2
  have hs0 := blk_lt T0
  have hs1 := blk_lt T1
  have e0 := fun x : GW w0 => gw_cell x x0 hs0
  have e1 := fun x : GW w0 => gw_cell x x1 hs0
  have e2 := fun x : GW w0 => gw_cell x x2 hs0
  have e3 := fun x : GW w0 => gw_cell x y0 hs1
  have e4 := fun x : GW w0 => gw_cell x y1 hs1
  have e5 := fun x : GW w0 => gw_cell x y2 hs1
  have Hw1 := Lib.hid hw1; have Hw0 := Lib.hid hw0; have Hgw := Lib.hid hgw; have Hz1 := Lib.hid hz1
  clear x0 x1 x2 y0 y1 y2 hw1 hw0 hgw T0 T1 hs0 hs1 hz1
  go_enter Tryz.func97, Tryz.ntmps97
  go_wp2_with fail
  rw [← Hw1.out, ← Hw0.out]
  refine wp_region_grown_tail 15 (by kernel_rfl) (by kernel_rfl) ?_
  simp only [List.take_succ_cons, List.take_zero, List.drop_succ_cons, List.drop_zero]
  repeat (go_big_quiet_step (first | (go_at_call 116; exact calls_gw _ (Hcmp.out _ _ _)) | (go_at_call 117; exact calls_gw _ (Hcms.out _ _ _))))
  refine wpQuiet_nil ?_
  rintro w2 ⟨⟨_, hgr⟩, rfl⟩
  have hr2 := Hr.out
  generalize sgI a0 b0 = r1 at *
  generalize sgI a1 b1 = r2 at *
  generalize sgS a2 b2 = r3 at *
  have Hr2 := Lib.hid hr2; clear hr2 Hr e0 e1 e2 e3 e4 e5
  have Hgr := Lib.hid (grown_trans Hgw.out hgr); clear hgr
  go_wp2_with fail
  refine (cmpOr_c _ [r1, r2, r3] _ (ints_lit w2.heap.size [r1, r2, r3] 3 rfl rfl rfl (by omega))).mono ?_
  rintro e w3 ⟨rfl, rfl⟩
  go_wp2
  go_ret
  exact ⟨ret_int (by rw [Hr2.out]), grown_trans Hgr.out (grown_alloc _ _)⟩
/-! ### rows in memory -/
def va (r : VRow) (i : Nat) : Val := r.getD i (0, 0, ⟨#[]⟩)
def valCell (r : VRow) (i j : Nat) : Value := if j = 0 then .int .i64 (va r i).1 else if j = 1 then .int .i64 (va r i).2.1 else .string (va r i).2.2
def IsVals (w : World) (v : Value) (r : VRow) : Prop := RowsIn w v r.length 3 (valCell r)
theorem va_at {r : VRow} {i : Nat} (h : i < r.length) : r[i] = va r i := by simp [va, h]
theorem va_mem {r : VRow} {i : Nat} (h : i < r.length) : va r i ∈ r := by rw [← va_at h]; exact List.getElem_mem h
section
variable {w w' : World} {v : Value} {r : VRow} {A : Option Addr} {b off c : Nat}
theorem IsVals.below (h : IsVals w v r) (hb : Below w.heap.size w w') : IsVals w' v r := RowsIn.below h hb
theorem IsVals.form (h : IsVals w v r) : ∃ A c, v = .slice A r.length c ∧ r.length ≤ c ∧ c ≤ 9223372036854775807 := RowsIn.form h
theorem IsVals.addr (h : IsVals w (.slice A r.length c) r) (hn : 0 < r.length) : ∃ b off, A = some ⟨b, off, none⟩ ∧ b < w.heap.size := RowsIn.addr h hn
theorem IsVals.c0 (h : IsVals w (.slice (some ⟨b, off, none⟩) r.length c) r) (i : Nat) (hi : i < r.length) : w.cell? ⟨b, off + i * 3, none⟩ = some (.int .i64 (va r i).1) := RowsIn.cells h i 0 hi (by omega)
theorem IsVals.c1 (h : IsVals w (.slice (some ⟨b, off, none⟩) r.length c) r) (i : Nat) (hi : i < r.length) : w.cell? ⟨b, off + i * 3 + 1, none⟩ = some (.int .i64 (va r i).2.1) := RowsIn.cells h i 1 hi (by omega)
theorem IsVals.c2 (h : IsVals w (.slice (some ⟨b, off, none⟩) r.length c) r) (i : Nat) (hi : i < r.length) : w.cell? ⟨b, off + i * 3 + 2, none⟩ = some (.string (va r i).2.2) := RowsIn.cells h i 2 hi (by omega)
theorem IsVals.nil : IsVals w (.slice none 0 0) [] := RowsIn.nil
end
/-! ### are all values of a row valid -/
def badV (v : Val) : Bool := !vB v
theorem vall1_c (k n : Int) (s : ByteArray) (w : World) : Calls Tryz.prog 129 #[.agg #[.int .i64 k, .int .i64 n, .string s]] w (Grown w (.bool (badV (k, n, s)))) := by
  obtain ⟨W, hW⟩ : ∃ y, y = w.alloc (.cells #[.int .i64 k, .int .i64 n, .string s] 51) := ⟨_, rfl⟩
  have hT : W.heap[w.heap.size]? = some (.cells #[.int .i64 k, .int .i64 n, .string s] 51 (0, 0)) := by rw [hW]; exact heap_alloc_new w _
  have a0 := blk_get hT 0
  have a1 := blk_get hT 1
  have a2 := blk_get hT 2
  simp at a0 a1 a2
  rw [hW] at a0 a1 a2
  have HW := Lib.hid hW
  have KV := Lib.hid (vValid_c k n s W)
  unfold badV
  clear hW hT
  cases hv : vB (k, n, s)
  all_goals
    rw [hv] at KV
    clear hv
    go_enter Tryz.func129, Tryz.ntmps129
    go_wp2_with fail
    rw [← HW.out]
    refine KV.out.mono ?_
    rintro e w2 ⟨rfl, hg⟩
    have Hg := Lib.hid (grown_trans (w1 := W) (by rw [HW.out]; exact grown_alloc _ _) hg)
    clear hg
    go_wp2_with fail
    go_ret
    exact ⟨rfl, Hg.out⟩
theorem ent_vall1 : ∀ (args : Array Value) (w : World), Sem.run Tryz.prog (callFunc 129 args) w = .ok (.enter 129 args) w := fun _ _ => by kernel_rfl
def IdxVal (l : VRow) (r : Int) : Prop := (r = -1 ∧ l.any badV = false) ∨ ∃ i : Nat, r = i ∧ l.any badV = true
def IdxValRet (l : VRow) (w : World) (e : Ending) (w' : World) : Prop := ∃ r, IdxVal l r ∧ e = .returned (.int .i64 r) ∧ ∃ n os, w' = grow (w.drewN n) os
theorem anyV_yes {l : VRow} {i : Nat} (hi : i < l.length) (h : badV (va l i) = true) : l.any badV = true := List.any_eq_true.2 ⟨_, va_mem hi, h⟩
theorem anyV_no {l : VRow} (h : ∀ i, i < l.length → badV (va l i) = false) : l.any badV = false := by
  rw [List.any_eq_false]
  intro x hx
  obtain ⟨i, hi, rfl⟩ := List.getElem_of_mem hx
  rw [va_at hi, h i hi]
  decide
theorem gw_below {w w' : World} (h : ∃ n os, w' = grow (w.drewN n) os) : Below w.heap.size w w' := by
  obtain ⟨n, os, rfl⟩ := h
  exact below_grow _ _ _
set_option maxRecDepth 100000 in
theorem slIndexValue_c (v : Value) (l : VRow) (w : World) (hs : IsVals w v l) : Calls Tryz.prog 68 #[v, .func (.func 129) #[] #[]] w (IdxValRet l w) := by
  have eg := ent_vall1
  obtain ⟨A, c, rfl, hnc, hc⟩ := hs.form
  go_enter Tryz.func68, Tryz.ntmps68
  go_wp2
  go_loopw [8] (fun i wr => ∃ k : Nat, i = .int .i64 k ∧ k ≤ l.length ∧ Hid (∀ j, j < k → badV (va l j) = false) ∧ ∃ n os, wr = grow (w.drewN n) os) (fun i _ => l.length - (intOf i).toNat)
  case atStart => exact ⟨0, rfl, Nat.zero_le _, Lib.hid (fun j hj => absurd hj (by omega)), grown_same _⟩
  case round =>
    obtain ⟨k, rfl, hk, HA, hg⟩ := hrel
    have Hg := Lib.hid hg
    have hb := gw_below hg
    clear hg
    by_cases hlt : k < l.length
    · obtain ⟨b, off, rfl, hbk⟩ := hs.addr (by omega)
      have c0 := (hs.below hb).c0 k hlt
      have c1 := (hs.below hb).c1 k hlt
      have c2 := (hs.below hb).c2 k hlt
      have hcall := vall1_c (va l k).1 (va l k).2.1 (va l k).2.2 wr
      have hfd : badV (va l k) = true → IdxVal l (k : Int) := fun h => .inr ⟨k, rfl, anyV_yes hlt h⟩
      have hst : badV (va l k) = false → ∀ j, j < k + 1 → badV (va l j) = false := fun h j hj => by
        rcases Nat.eq_or_lt_of_le (show j ≤ k by omega) with e | e
        · rw [e]; exact h
        · exact HA.out j e
      have ee : ((va l k).1, (va l k).2.1, (va l k).2.2) = va l k := rfl
      rw [ee] at hcall
      generalize badV (va l k) = z at hcall hfd hst
      have Hlt := Lib.hid hlt
      clear ee hb hbk
      cases z
      · have Hcall := Lib.hid hcall
        have Hst := Lib.hid (hst rfl)
        clear hcall hst hfd
        go_wp2_with fail
        refine Hcall.out.mono ?_
        rintro e w2 ⟨rfl, hg2⟩
        have Hg3 := Lib.hid (grown_trans Hg.out hg2)
        clear hg2
        go_wp2
        go_roundw
        case rel => exact ⟨k + 1, by go_num, Hlt.out, Hst, Hg3.out⟩
        case measure => have := Hlt.out; simp [intOf]; omega
      · have Hcall := Lib.hid hcall
        have Hfd := Lib.hid (hfd rfl)
        clear hcall hst hfd
        go_wp2_with fail
        refine Hcall.out.mono ?_
        rintro e w2 ⟨rfl, hg2⟩
        have Hg3 := Lib.hid (grown_trans Hg.out hg2)
        clear hg2
        go_wp2
        go_ret
        exact ⟨_, Hfd.out, rfl, Hg3.out⟩
    · obtain rfl : k = l.length := by omega
      have Hr : Hid (IdxVal l (-1)) := Lib.hid (.inl ⟨rfl, anyV_no HA.out⟩)
      clear HA
      go_wp2
      go_ret
      exact ⟨_, Hr.out, rfl, Hg.out⟩
theorem slContainsValue_c (v : Value) (l : VRow) (w : World) (hs : IsVals w v l) : Calls Tryz.prog 28 #[v, .func (.func 129) #[] #[]] w (Grown w (.bool (l.any badV))) := by
  have K := Lib.hid (slIndexValue_c v l w hs)
  obtain ⟨A, c, rfl, _, _⟩ := hs.form
  clear hs
  cases q : l.any badV
  all_goals
    have Q := Lib.hid q; clear q
    go_enter Tryz.func28, Tryz.ntmps28
    go_wp2_with fail
    refine K.out.mono ?_
    rintro e w1 ⟨r, hr, rfl, hb⟩
    rcases hr with ⟨rfl, h⟩ | ⟨i, rfl, h⟩
    all_goals first
      | exact absurd (h.symm.trans Q.out) (by decide)
      | (have i0 : decide ((0 : Int) ≤ (i : Int)) = true := decide_eq_true (by omega)
         have Hb := Lib.hid hb
         clear h hb
         go_wp2_with fail
         go_ret
         exact ⟨rfl, Hb.out⟩)
      | (have Hb := Lib.hid hb
         clear h hb
         go_wp2_with fail
         go_ret
         exact ⟨rfl, Hb.out⟩)
def rowB (r : VRow) : Bool := r.all vB
theorem any_bad (r : VRow) : (!r.any badV) = rowB r := by
  unfold rowB badV
  induction r with
  | nil => rfl
  | cons a r ih => simp only [List.any_cons, List.all_cons, Bool.not_or, Bool.not_not, ih]
theorem vall_c (v : Value) (l : VRow) (w : World) (hs : IsVals w v l) : Calls Tryz.prog 103 #[v] w (Grown w (.bool (rowB l))) := by
  have K := Lib.hid (slContainsValue_c v l w hs)
  obtain ⟨A, c, rfl, _, _⟩ := hs.form
  rw [← any_bad]
  clear hs
  generalize l.any badV = z at K ⊢
  cases z
  all_goals
    go_enter Tryz.func103, Tryz.ntmps103
    go_wp2_with fail
    refine K.out.mono ?_
    rintro e w1 ⟨rfl, hb⟩
    have Hb := Lib.hid hb
    clear hb
    go_wp2_with fail
    go_ret
    exact ⟨rfl, Hb.out⟩
set_option maxRecDepth 100000 in
theorem vCompare_c (x y : Val) (w : World) : Calls Tryz.prog 65 #[encV x, encV y] w (Grown w (.int .i64 (if vB x && vB y then cmpV x y else 0))) := by
  have Ko := Lib.hid fun X => vorder_c x y X
  have K1 := Lib.hid fun X => vValid_c x.1 x.2.1 x.2.2 X
  have K2 := Lib.hid fun X => vValid_c y.1 y.2.1 y.2.2 X
  have ex : (x.1, x.2.1, x.2.2) = x := rfl
  have ey : (y.1, y.2.1, y.2.2) = y := rfl
  rw [ex] at K1
  rw [ey] at K2
  clear ex ey
  obtain ⟨R, hR⟩ : ∃ r, r = (if vB x && vB y then cmpV x y else 0) := ⟨_, rfl⟩
  rw [← hR]
  generalize vB x = bx at K1 hR
  generalize vB y = by_ at K2 hR
  generalize cmpV x y = cr at Ko hR
  obtain ⟨a0, a1, a2⟩ := x
  obtain ⟨b0, b1, b2⟩ := y
  unfold encV at Ko ⊢
  simp only at Ko K1 K2 ⊢
  have HR := Lib.hid hR
  obtain ⟨w1, hw1⟩ : ∃ y, y = w.alloc (.cells #[.int .i64 a0, .int .i64 a1, .string a2] 51) := ⟨_, rfl⟩
  obtain ⟨w0, hw0⟩ : ∃ y, y = w1.alloc (.cells #[.int .i64 b0, .int .i64 b1, .string b2] 51) := ⟨_, rfl⟩
  have hz1 : w1.heap.size = w.heap.size + 1 := by rw [hw1, World.size_alloc]
  have T0 : w0.heap[w.heap.size]? = some (.cells #[.int .i64 a0, .int .i64 a1, .string a2] 51 (0, 0)) := by
    rw [hw0]
    exact (((Below.refl _ _).alloc (Nat.le_refl w1.heap.size) _).block _ (by omega)).trans (by rw [hw1]; exact heap_alloc_new w _)
  have T1 : w0.heap[w.heap.size + 1]? = some (.cells #[.int .i64 b0, .int .i64 b1, .string b2] 51 (0, 0)) := by rw [hw0, ← hz1]; exact heap_alloc_new w1 _
  have hgw : ∃ n os, w0 = grow (w.drewN n) os := by
    rw [hw0]
    refine grown_trans (w1 := w1) ?_ (grown_alloc _ _)
    rw [hw1]
    exact grown_alloc _ _
  have FC : Hid (∀ X, Below w0.heap.size w0 X → X.cell? ⟨w.heap.size, 0, none⟩ = some (.int .i64 a0) ∧ X.cell? ⟨w.heap.size, 1, none⟩ = some (.int .i64 a1) ∧ X.cell? ⟨w.heap.size, 2, none⟩ = some (.string a2) ∧ X.cell? ⟨w.heap.size + 1, 0, none⟩ = some (.int .i64 b0) ∧ X.cell? ⟨w.heap.size + 1, 1, none⟩ = some (.int .i64 b1) ∧ X.cell? ⟨w.heap.size + 1, 2, none⟩ = some (.string b2)) := Lib.hid fun X h => by
    have h0 := (h.block _ (blk_lt T0)).trans T0
    have h1 := (h.block _ (blk_lt T1)).trans T1
    have x0 := blk_get h0 0
    have x1 := blk_get h0 1
    have x2 := blk_get h0 2
    have y0 := blk_get h1 0
    have y1 := blk_get h1 1
    have y2 := blk_get h1 2
    simp at x0 x1 x2 y0 y1 y2
    exact ⟨x0, x1, x2, y0, y1, y2⟩
  have Hw1 := Lib.hid hw1; have Hw0 := Lib.hid hw0; have Hgw := Lib.hid hgw
  obtain ⟨x0, x1, x2, y0, y1, y2⟩ := FC.out w0 (Below.refl _ _)
  rw [hw0, hw1] at x0 x1 x2
  clear hw1 hw0 hgw T0 T1 hz1 hR y0 y1 y2
  cases bx
  · go_enter Tryz.func65, Tryz.ntmps65
    go_wp2_with fail
    rw [← Hw1.out, ← Hw0.out]
    refine (K1.out _).mono ?_
    rintro e w2 ⟨rfl, hg2⟩
    have Hg2 := Lib.hid (grown_trans Hgw.out hg2)
    clear hg2 x0 x1 x2
    go_wp2_with fail
    go_ret
    exact ⟨by rw [HR.out]; rfl, Hg2.out⟩
  · go_enter Tryz.func65, Tryz.ntmps65
    go_wp2_with fail
    rw [← Hw1.out, ← Hw0.out]
    refine (K1.out _).mono ?_
    rintro e w2 ⟨rfl, hg2⟩
    clear x0 x1 x2
    obtain ⟨x0, x1, x2, y0, y1, y2⟩ := FC.out w2 (gw_below hg2)
    have Hg2 := Lib.hid hg2
    clear hg2
    go_wp2_with fail
    refine (K2.out _).mono ?_
    rintro e w3 ⟨rfl, hg3⟩
    clear x0 x1 x2 y0 y1 y2
    obtain ⟨x0, x1, x2, y0, y1, y2⟩ := FC.out w3 (gw_below (grown_trans Hg2.out hg3))
    have Hg3 := Lib.hid (grown_trans Hgw.out (grown_trans Hg2.out hg3))
    clear hg3
    cases by_
    · go_wp2_with fail
      go_ret
      exact ⟨by rw [HR.out]; rfl, Hg3.out⟩
    · go_wp2_with fail
      refine (Ko.out _).mono ?_
      rintro e w4 ⟨rfl, hg4⟩
      have Hg4 := Lib.hid (grown_trans Hg3.out hg4)
      clear hg4
      go_wp2_with fail
      go_ret
      exact ⟨by rw [HR.out]; rfl, Hg4.out⟩
/-! ### the order of rows -/
theorem ent_vorder : ∀ (args : Array Value) (w : World), Sem.run Tryz.prog (callFunc 97 args) w = .ok (.enter 97 args) w := fun _ _ => by kernel_rfl
theorem drop_va {r : VRow} {k : Nat} (h : k < r.length) : r.drop k = va r k :: r.drop (k + 1) := by rw [List.drop_eq_getElem_cons h, va_at h]
theorem cmp_hit {a b : VRow} {k : Nat} (ha : k < a.length) (hb : k < b.length) (h : cmpV (va a k) (va b k) ≠ 0) : cmpL cmpV (a.drop k) (b.drop k) = cmpV (va a k) (va b k) := by
  rw [drop_va ha, drop_va hb]
  unfold cmpL
  rw [if_pos h]
theorem cmp_skip {a b : VRow} {k : Nat} (ha : k < a.length) (hb : k < b.length) (h : cmpV (va a k) (va b k) = 0) : cmpL cmpV (a.drop k) (b.drop k) = cmpL cmpV (a.drop (k + 1)) (b.drop (k + 1)) := by
  rw [drop_va ha, drop_va hb]
  conv => lhs; unfold cmpL
  rw [if_neg (by omega)]
set_option maxRecDepth 100000 in
theorem slCompareFuncV_c (v1 v2 : Value) (a b : VRow) (w : World) (h1 : IsVals w v1 a) (h2 : IsVals w v2 b) : Calls Tryz.prog 105 #[v1, v2, .func (.func 97) #[] #[]] w (Grown w (.int .i64 (cmpR a b))) := by
  have eg := ent_vorder
  obtain ⟨A1, c1, rfl, hn1, hc1⟩ := h1.form
  obtain ⟨A2, c2, rfl, hn2, hc2⟩ := h2.form
  obtain ⟨R, hR⟩ : ∃ r, r = cmpR a b := ⟨_, rfl⟩
  rw [← hR]
  unfold cmpR at hR
  have HR := Lib.hid hR
  clear hR
  go_enter Tryz.func105, Tryz.ntmps105
  go_wp2
  go_loopw [13] (fun i wr => ∃ k : Nat, i = .int .i64 k ∧ k ≤ a.length ∧ k ≤ b.length ∧ Hid (R = cmpL cmpV (a.drop k) (b.drop k)) ∧ ∃ n os, wr = grow (w.drewN n) os) (fun i _ => a.length - (intOf i).toNat)
  case atStart => exact ⟨0, rfl, Nat.zero_le _, Nat.zero_le _, Lib.hid (by simpa using HR.out), grown_same _⟩
  case round =>
    obtain ⟨k, rfl, hk, hk2, HA, hg⟩ := hrel
    have Hg := Lib.hid hg
    have hb := gw_below hg
    clear hg
    by_cases hlt : k < a.length
    · obtain ⟨b1, o1, rfl, hbk1⟩ := h1.addr (by omega)
      have x0 := (h1.below hb).c0 k hlt
      have x1 := (h1.below hb).c1 k hlt
      have x2 := (h1.below hb).c2 k hlt
      by_cases hlt2 : k < b.length
      · obtain ⟨b2, o2, rfl, hbk2⟩ := h2.addr (by omega)
        have hst : cmpV (va a k) (va b k) = 0 → R = cmpL cmpV (a.drop (k + 1)) (b.drop (k + 1)) := fun h => by rw [HA.out, cmp_skip hlt hlt2 h]
        have hfd : cmpV (va a k) (va b k) ≠ 0 → cmpV (va a k) (va b k) = R := fun h => by rw [HA.out, cmp_hit hlt hlt2 h]
        have K := fun X => vorder_c (va a k) (va b k) X
        generalize cmpV (va a k) (va b k) = z at K hst hfd
        unfold encV at K
        have HK := Lib.hid K; have Hst := Lib.hid hst; have Hfd := Lib.hid hfd; have Hlt := Lib.hid hlt; have Hlt2 := Lib.hid hlt2
        have HX : Hid (∀ X, Below wr.heap.size wr X → X.cell? ⟨b2, o2 + k * 3, none⟩ = some (.int .i64 (va b k).1) ∧ X.cell? ⟨b2, o2 + k * 3 + 1, none⟩ = some (.int .i64 (va b k).2.1) ∧ X.cell? ⟨b2, o2 + k * 3 + 2, none⟩ = some (.string (va b k).2.2)) := Lib.hid fun X hX =>
          ⟨((h2.below hb).below hX).c0 k hlt2, ((h2.below hb).below hX).c1 k hlt2, ((h2.below hb).below hX).c2 k hlt2⟩
        obtain ⟨y0, y1, y2⟩ := HX.out (wr.alloc (.cells #[.int .i64 (va a k).1, .int .i64 (va a k).2.1, .string (va a k).2.2] 51)) ((Below.refl _ _).alloc (Nat.le_refl _) _)
        clear K hst hfd HA hbk1 hbk2 hb
        go_wp2_with fail
        refine (HK.out _).mono ?_
        rintro e w2 ⟨rfl, hg2⟩
        have Hg3 := Lib.hid (grown_trans (grown_trans Hg.out (grown_trans (grown_alloc _ _) (grown_alloc _ _))) hg2)
        clear hg2 x0 x1 x2 y0 y1 y2
        cases hz : (z == 0)
        · have Hz := Lib.hid (Hfd.out (fun e => by rw [e] at hz; exact absurd hz (by decide)))
          go_wp2_with fail
          go_ret
          exact ⟨by rw [← Hz.out]; rfl, Hg3.out⟩
        · have Hz := Lib.hid (Hst.out (eq_of_beq hz))
          go_wp2_with fail
          go_roundw
          case rel => exact ⟨k + 1, by go_num, Hlt.out, Hlt2.out, Hz, Hg3.out⟩
          case measure => have := Hlt.out; simp [intOf]; omega
      · obtain rfl : k = b.length := by omega
        have HZ : Hid (R = 1) := Lib.hid (by
          rw [HA.out, drop_va hlt, List.drop_length]
          rfl)
        clear HA hb
        go_wp2_with fail
        go_ret
        exact ⟨by rw [HZ.out]; rfl, grown_trans Hg.out (grown_alloc _ _)⟩
    · obtain rfl : k = a.length := by omega
      have HZ : Hid (R = cmpL cmpV [] (b.drop a.length)) := Lib.hid (by rw [HA.out, List.drop_length])
      clear HA hb
      cases q : decide ((a.length : Int) < (b.length : Int))
      · have HZ : Hid (R = 0) := Lib.hid (by
          have := of_decide_eq_false q
          rw [HZ.out, List.drop_eq_nil_of_le (by omega)]
          rfl)
        have q2 : decide (a.length < b.length) = false := decide_eq_false (by have := of_decide_eq_false q; omega)
        go_wp2_with fail
        go_ret
        exact ⟨by rw [HZ.out]; rfl, Hg.out⟩
      · have HZ : Hid (R = -1) := Lib.hid (by
          have := of_decide_eq_true q
          rw [HZ.out, drop_va (show a.length < b.length by omega)]
          rfl)
        have q2 : decide (a.length < b.length) = true := decide_eq_true (by have := of_decide_eq_true q; omega)
        go_wp2_with fail
        go_ret
        exact ⟨by rw [HZ.out]; rfl, Hg.out⟩
def ordR_ (a b : VRow) : Int := if rowB a && rowB b then cmpR a b else 0
set_option maxRecDepth 100000 in
theorem vOrder_c (v1 v2 : Value) (a b : VRow) (w : World) (h1 : IsVals w v1 a) (h2 : IsVals w v2 b) : Calls Tryz.prog 77 #[v1, v2] w (Grown w (.int .i64 (ordR_ a b))) := by
  have K1 := Lib.hid (vall_c v1 a w h1)
  have K2 : Hid (∀ X, Below w.heap.size w X → Calls Tryz.prog 103 #[v2] X (Grown X (.bool (rowB b)))) := Lib.hid fun X hX => vall_c v2 b X (h2.below hX)
  have K3 : Hid (∀ X, Below w.heap.size w X → Calls Tryz.prog 105 #[v1, v2, .func (.func 97) #[] #[]] X (Grown X (.int .i64 (cmpR a b)))) := Lib.hid fun X hX => slCompareFuncV_c v1 v2 a b X (h1.below hX) (h2.below hX)
  obtain ⟨A1, c1, rfl, hn1, hc1⟩ := h1.form
  obtain ⟨A2, c2, rfl, hn2, hc2⟩ := h2.form
  obtain ⟨R, hR⟩ : ∃ r, r = ordR_ a b := ⟨_, rfl⟩
  rw [← hR]
  unfold ordR_ at hR
  generalize rowB a = x at K1 hR
  generalize rowB b = y at K2 hR
  generalize cmpR a b = z at K3 hR
  have HR := Lib.hid hR
  clear hR h1 h2 hn1 hc1 hn2 hc2
  cases x
  · go_enter Tryz.func77, Tryz.ntmps77
    go_wp2_with fail
    refine K1.out.mono ?_
    rintro e w1 ⟨rfl, hg⟩
    have Hg := Lib.hid hg
    clear hg
    go_wp2_with fail
    go_ret
    exact ⟨by rw [HR.out]; rfl, Hg.out⟩
  · go_enter Tryz.func77, Tryz.ntmps77
    go_wp2_with fail
    refine K1.out.mono ?_
    rintro e w1 ⟨rfl, hg⟩
    have Hg := Lib.hid hg
    clear hg
    go_wp2_with fail
    refine (K2.out _ (gw_below Hg.out)).mono ?_
    rintro e w2 ⟨rfl, hg⟩
    have Hg2 := Lib.hid (grown_trans Hg.out hg)
    clear hg
    cases y
    · go_wp2_with fail
      go_ret
      exact ⟨by rw [HR.out]; rfl, Hg2.out⟩
    · go_wp2_with fail
      refine (K3.out _ (gw_below Hg2.out)).mono ?_
      rintro e w3 ⟨rfl, hg⟩
      have Hg3 := Lib.hid (grown_trans Hg2.out hg)
      clear hg
      go_wp2_with fail
      go_ret
      exact ⟨by rw [HR.out]; rfl, Hg3.out⟩
end Go.Proofs.YtohjgegnamcnlaaGreat
