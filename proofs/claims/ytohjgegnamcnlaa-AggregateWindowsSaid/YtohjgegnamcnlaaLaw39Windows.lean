/- AggregateWindows: moving sums with the window 1 are the sums; with a longer one a row counts as long as it held during the window. -/
import Derived.Test.YtohjgegnamcnlaaRows
import Derived.Test.YtohjgegnamcnlaaAhk
import Derived.Test.YtohjgegnamcnlaaAho
import Derived.Test.YtohjgegnamcnlaaAhm
namespace Go.Proofs.Ytohjgegnamcnlaa
open Go.RowKit Go.Shelf Go.ChangeShapes Go.WideShapes Go.ChangeAt

def bigW (x : Int) : Bool := decide (1099511627776 < x) || decide (x < -1099511627776)
theorem windows1_c (v : Value) (r : VRow) (p q colI : Int) (b : Nat) (w : World) (hs : IsVals w v r) (hc : BoxAt w b (.int .i64 colI)) (h0 : 0 ≤ colI) (h1 : colI.toNat < r.length) : Calls Try.prog 22 #[.agg #[v, .int .i64 p, .int .i64 q], .pointer (some ⟨b, 0, none⟩)] w (Ret w (.bool (bigW (va r colI.toNat).2.1))) := by
  obtain ⟨A, c, rfl, hnc, hcc⟩ := hs.form
  have hb := (Below.refl w.heap.size w).alloc (Nat.le_refl _) (.cells #[.slice A r.length c, .int .i64 p, .int .i64 q] 29)
  have hs2 := hs.below hb
  have hc2 := (hc.block (hb.block _ hc.lt)).cell
  obtain ⟨br, ofr, rfl, _⟩ := hs.addr (by omega)
  have x1 := hs2.c1 colI.toNat h1
  have h2 : colI < (r.length : Int) := by omega
  generalize (va r colI.toNat).2.1 = x at *
  unfold bigW
  have HB := Lib.hid hb
  clear hb hs hs2 hc
  cases q1 : decide ((1099511627776 : Int) < x) <;> cases q2 : decide (x < -1099511627776)
  all_goals
    go_enter Try.func22, Try.ntmps22
    go_wp2_with fail
    go_ret
    exact ⟨rfl, HB.out⟩
theorem ent_windows1 : ∀ (args : Array Value) (w : World), Sem.run Try.prog (callFunc 22 args) w = .ok (.enter 22 args) w := fun _ _ => by kernel_rfl
theorem windows2_c (v vz : Value) (r r2 : VRow) (b : Nat) (w : World) (hs : IsVals w v r) (h2 : IsVals w vz r2) (hc : w.cell? ⟨b, 0, none⟩ = some vz) : Calls Try.prog 25 #[v, .pointer (some ⟨b, 0, none⟩)] w (Ret w (.bool (sameR r r2))) := by
  have K := Lib.hid (r33Same_c v vz r r2 w hs h2)
  obtain ⟨A1, c1, rfl, _, _⟩ := hs.form
  obtain ⟨A2, c2, rfl, _, _⟩ := h2.form
  clear hs h2
  go_enter Try.func25, Try.ntmps25
  go_wp2_with fail
  refine K.out.mono ?_
  rintro e w2 ⟨rfl, hb2⟩
  go_wp2_with fail
  go_ret
  exact ⟨rfl, hb2⟩
theorem ent_windows2 : ∀ (args : Array Value) (w : World), Sem.run Try.prog (callFunc 25 args) w = .ok (.enter 25 args) w := fun _ _ => by kernel_rfl
theorem wfu8_39 {n : Int} (h : (Lit.int .u8 n).wf = true) : 0 ≤ n ∧ n ≤ 255 := by
  simp [Lit.wf, IntKind.min, IntKind.max, IntKind.signed, IntKind.bits] at h
  omega
theorem wfu32_39 {n : Int} (h : (Lit.int .u32 n).wf = true) : 0 ≤ n ∧ n ≤ 4294967295 := by
  simp [Lit.wf, IntKind.min, IntKind.max, IntKind.signed, IntKind.bits] at h
  omega
section
variable {F : List Fct} {k : Nat}
theorem win_num (h : (F.any fun f => bigW (va f.1 k).2.1) = false) : ∀ f ∈ F, -1099511627776 ≤ (va f.1 k).2.1 ∧ (va f.1 k).2.1 ≤ 1099511627776 := fun f hf => by
  have := List.any_eq_false.1 h f hf
  unfold bigW at this
  simp only [Bool.or_eq_true, decide_eq_true_eq, not_or] at this
  omega
theorem win_few (h : fewF F = true) : F.length ≤ 16 := by
  unfold fewF at h
  simp only [Bool.and_eq_true, decide_eq_true_eq] at h
  exact h.1
theorem win_sum (hf : fewF F = true) (h : (F.any fun f => bigW (va f.1 k).2.1) = false) (w t : Int) : -17592186044416 ≤ sumAtT (movF F w) k t ∧ sumAtT (movF F w) k t ≤ 17592186044416 :=
  sum_num (B := 1099511627776) (by omega) (by rw [movF_len]; exact win_few hf) (movF_num (P := fun r => -1099511627776 ≤ (va r k).2.1 ∧ (va r k).2.1 ≤ 1099511627776) (win_num h)) t
theorem win_has (hk : k < (row0 F).length) : hasB F (k : Int) = true := by
  unfold hasB
  rw [decide_eq_true (show (0 : Int) ≤ (k : Int) by omega), decide_eq_true (show (k : Int) < ((row0 F).length : Int) by omega), Bool.and_true, Bool.or_true]
theorem win_mov {w e : Int} {v : Value} {w' : World} (hv : validF F = true) (hf : fewF F = true) (hp : 0 < F.length) (hk : k < (row0 F).length) (h1 : (va (row0 F) k).1 = 1) (h : (F.any fun f => bigW (va f.1 k).2.1) = false) (hw : 1 ≤ w ∧ w ≤ 34560000) (hg : MovSpec F (k : Int) w e v w') :
    e = 0 ∧ ∃ A, NormOf A (DGrp (movF F w) [] 2 k) ∧ A.length ≤ 1000 ∧ IsFs w' v A :=
  mov_sum (colI := (k : Int)) hv hp (win_few hf) (win_has hk) h1 hw (fun t => by
    have := win_sum hf h w t
    show -9223372036854775808 ≤ sumAtT (movF F w) k t ∧ sumAtT (movF F w) k t ≤ 9223372036854775807
    omega) hg
theorem win_grp {e : Int} {v : Value} {w' : World} (hv : validF F = true) (hf : fewF F = true) (hp : 0 < F.length) (hk : k < (row0 F).length) (h1 : (va (row0 F) k).1 = 1) (h : (F.any fun f => bigW (va f.1 k).2.1) = false) (hg : GrpSpec F [] 2 (k : Int) e v w') :
    e = 0 ∧ ∃ A, NormOf A (DGrp F [] 2 k) ∧ A.length ≤ 1000 ∧ IsFs w' v A :=
  grp_sum (colI := (k : Int)) hv hp (win_few hf) (win_has hk) h1 (fun t => by
    have := win_sum hf h 1 t
    rw [movF_one hv] at this
    show -9223372036854775808 ≤ sumAtT F k t ∧ sumAtT F k t ≤ 9223372036854775807
    omega) hg
theorem sumI_app : ∀ a b : List Int, sumI (a ++ b) = sumI a + sumI b
  | [], b => by simp [sumI]
  | x :: a, b => by
    show x + sumI (a ++ b) = x + sumI a + sumI b
    rw [sumI_app a b]
    omega
theorem colN_app (js : List Nat) (j : Nat) : sumI (colN (rowsJ F (js ++ [j])) k) = sumI (colN (rowsJ F js) k) + (va (fc F j).1 k).2.1 := by
  unfold rowsJ colN
  rw [List.map_append, List.map_append, sumI_app]
  simp [sumI]
theorem rj_sum (hf : fewF F = true) (h : (F.any fun f => bigW (va f.1 k).2.1) = false) {js : List Nat} (hj : ∀ j ∈ js, j < F.length) (hl : js.length ≤ F.length) : -17592186044416 ≤ sumI (colN (rowsJ F js) k) ∧ sumI (colN (rowsJ F js) k) ≤ 17592186044416 := by
  have h1 := sumI_bound (B := 1099511627776) (colN (rowsJ F js) k) fun x hx => by
    obtain ⟨r, hr, rfl⟩ := List.mem_map.1 hx
    obtain ⟨j, hjj, rfl⟩ := List.mem_map.1 hr
    exact win_num h _ (fc_mem (hj j hjj))
  have h2 : (colN (rowsJ F js) k).length = js.length := by simp [colN, rowsJ]
  have h3 := win_few hf
  omega
theorem got_nil {w : World} {v : Value} (h : IsRv w v []) : ∃ A c, v = .slice A 0 c := by
  obtain ⟨S, h⟩ := h
  obtain ⟨A, c, rfl, _, _⟩ := h.form
  exact ⟨A, c, rfl⟩
theorem got_one {w : World} {v : Value} {s : Int} (h : IsRv w v [[(1, s, ⟨#[]⟩)]]) : ∃ b o c b1 o1 c1, v = .slice (some ⟨b, o, none⟩) 1 c ∧ w.cell? ⟨b, o, none⟩ = some (.slice (some ⟨b1, o1, none⟩) 1 c1) ∧ w.cell? ⟨b1, o1 + 1, none⟩ = some (.int .i64 s) := by
  obtain ⟨S, h⟩ := h
  obtain ⟨A, c, rfl, _, _⟩ := h.form
  obtain ⟨b, o, rfl, _⟩ := h.addr (by simp)
  have c0 := h.cell 0 (by simp)
  have hv : IsVals w (S 0) [(1, s, ⟨#[]⟩)] := h.2 0 (by simp)
  obtain ⟨A1, c1, hS, _, _⟩ := hv.form
  rw [hS] at hv c0
  obtain ⟨b1, o1, rfl, _⟩ := hv.addr (by simp)
  have x := hv.c1 0 (by simp)
  refine ⟨b, o, c, b1, o1, c1, rfl, ?_, ?_⟩
  · simpa using c0
  · simpa [va] using x
end
set_option maxRecDepth 100000 in
set_option maxHeartbeats 8000000 in
theorem law39Windows_c (v : Value) (F : List Fct) (col win t : Int) (W : World) (hs : IsFs W v F) (hm : MachF F) (hc0 : 0 ≤ col ∧ col ≤ 255) (hw0 : 0 ≤ win ∧ win ≤ 4294967295) : Calls Try.prog 5 #[v, .int .u8 col, .int .u32 win, .int .i64 t] W (Ret W (.bool true)) := by
  have KF : Hid (∀ X, Below W.heap.size W X → Calls Try.prog 9 #[v] X (Ret X (.bool (fewF F)))) := Lib.hid fun X h => few39_c v F X (hs.below h)
  have KV : Hid (∀ X, Below W.heap.size W X → Calls Try.prog 10 #[v] X (Ret X (.bool (validF F)))) := Lib.hid fun X h => r39Valid_c v F X (hs.below h)
  have KM : Hid (F.length < 1000000000 → ∀ X colI w, Below W.heap.size W X → Calls Try.prog 23 #[v, .int .i64 colI, .int .i64 w] X (MovRet F colI w X)) := Lib.hid fun hn X colI w h => aMoving_c v F colI w X (hs.below h) hm hn
  have KG : Hid (F.length < 1000000000 → ∀ X colI, Below W.heap.size W X → Calls Try.prog 11 #[v, .slice none 0 0, .int .i64 2, .int .i64 colI] X (GroupRet F [] 2 colI X)) := Lib.hid fun hn X colI h => aGroup_c v _ F [] 2 colI X (hs.below h) IsInts.nil hm hn
  obtain ⟨S, hs⟩ := hs
  obtain ⟨A, cc, rfl, hnc, hcc⟩ := hs.form
  have KA := Lib.hid (awake39_c W)
  have Hc0 := Lib.hid hc0; have Hw0 := Lib.hid hw0
  clear hm hc0 hw0
  go_enter Try.func5, Try.ntmps5
  go_wp2_with fail
  refine KA.out.mono ?_
  rintro e W1 ⟨rfl, hb1⟩
  go_wp2_with fail
  refine (KF.out W1 hb1).mono ?_
  rintro e W2 ⟨rfl, hb2⟩
  have hw2 := hb1.trans (hb2.mono hb1.size)
  clear hb1 hb2
  cases q1 : fewF F
  · go_wp2_with fail
    go_ret
    exact ⟨rfl, hw2⟩
  have Q1 := Lib.hid q1
  clear q1
  cases q2 : decide ((F.length : Int) < 1)
  rotate_left
  · go_wp2_with fail
    go_ret
    exact ⟨rfl, hw2⟩
  have Q2 := Lib.hid q2
  go_wp2_with fail
  refine (KV.out W2 hw2).mono ?_
  rintro e W3 ⟨rfl, hb3⟩
  have hw3 := hw2.trans (hb3.mono hw2.size)
  clear hb3 hw2
  cases q3 : validF F
  · go_wp2_with fail
    go_ret
    exact ⟨rfl, hw3⟩
  have Q3 := Lib.hid q3
  clear q3
  cases q4 : decide (t < -62135596800)
  rotate_left
  · go_wp2_with fail
    go_ret
    exact ⟨rfl, hw3⟩
  cases q5 : decide ((253402300800 : Int) ≤ t)
  rotate_left
  · go_wp2_with fail
    go_ret
    exact ⟨rfl, hw3⟩
  have Q4 := Lib.hid (of_decide_eq_false q4); have Q5 := Lib.hid (of_decide_eq_false q5)
  have hn1 : 1 ≤ F.length := by have := of_decide_eq_false q2; omega
  have hn2 : 0 < F.length := hn1
  obtain ⟨bf, off, rfl, hbl⟩ := hs.addr hn2
  obtain ⟨A0, p0, hS0, hq0, hq0c⟩ := (hs.2 0 hn2).form
  have hrr : (fc F 0).1 = row0 F := rfl
  rw [hrr] at hS0 hq0
  have hrl : 1 ≤ (row0 F).length := ((valid_rows Q3.out).2 _ (fc_mem hn2)).1.1
  have HZ : Hid (∀ X, Below W.heap.size W X → X.cell? ⟨bf, off, none⟩ = some (.slice A0 (row0 F).length p0)) := Lib.hid fun X hX => by
    have h := (hs.below hX).c0 0 hn2
    simp only [Nat.zero_mul, Nat.add_zero] at h
    rw [hS0] at h
    exact h
  have z0 := HZ.out W3 hw3
  have g0 : IntKind.i64.wrap col = col := by have := Hc0.out; rw [IntKind.wrap_i64]; omega
  obtain ⟨k, hk⟩ : ∃ k : Nat, Int.tmod col ((row0 F).length : Int) = (k : Int) := ⟨(Int.tmod col (row0 F).length).toNat, by
    have := Int.tmod_nonneg ((row0 F).length : Int) Hc0.out.1
    omega⟩
  have hkl : k < (row0 F).length := by
    have := Int.tmod_lt_of_pos col (show (0 : Int) < ((row0 F).length : Int) by omega)
    omega
  have g2 : ¬ ((row0 F).length : Int) = 0 := by omega
  have g3 : ¬ (row0 F).length = 0 := by omega
  obtain ⟨W4, hW4⟩ : ∃ Y, Y = W3.alloc (.cells #[.int .i64 (k : Int)] 3) := ⟨_, rfl⟩
  have hb4 : Below W3.heap.size W3 W4 := by rw [hW4]; exact (Below.refl _ _).alloc (Nat.le_refl _) _
  have hbx : BoxAt W4 W3.heap.size (.int .i64 (k : Int)) := ⟨3, by rw [hW4]; exact heap_alloc_new W3 _⟩
  have HBx : Hid (∀ X, Below W4.heap.size W4 X → BoxAt X W3.heap.size (.int .i64 (k : Int))) := Lib.hid fun X h => hbx.block (h.block _ hbx.lt)
  have hbl4 := hbx.lt
  have hw4 := hw3.trans (hb4.mono hw3.size)
  have HW4 := Lib.hid hW4
  obtain ⟨kd, hkd⟩ : ∃ z, z = (va (row0 F) k).1 := ⟨_, rfl⟩
  have HKd := Lib.hid hkd
  have hr0 := hs.2 0 hn2
  rw [hrr, hS0] at hr0
  obtain ⟨b0, o0, rfl, hb0l⟩ := hr0.addr (by omega)
  have HZ2 : Hid (∀ X, Below W.heap.size W X → X.cell? ⟨b0, o0 + k * 3, none⟩ = some (.int .i64 kd)) := Lib.hid fun X hX => by rw [hkd]; exact (hr0.below hX).c0 k hkl
  have e0 := fun x : BW W4 => bw_cell x hbx.cell hbl4
  have e1 : ∀ x : BW W4, x.1.cell? ⟨bf, off, none⟩ = some (.slice (some ⟨b0, o0, none⟩) (row0 F).length p0) := fun x => HZ.out x.1 (hw4.trans (x.2.mono hw4.size))
  have e2 : ∀ x : BW W4, x.1.cell? ⟨b0, o0 + k * 3, none⟩ = some (.int .i64 kd) := fun x => HZ2.out x.1 (hw4.trans (x.2.mono hw4.size))
  have hrv := valid_rows Q3.out
  have KC : Hid (∀ X, Below W4.heap.size W4 X → Calls Try.prog 19 #[.slice (some ⟨bf, off, none⟩) F.length cc, .func (.func 22) #[] #[.pointer (some ⟨W3.heap.size, 0, none⟩)]] X (Ret X (.bool (F.any fun f => bigW (va f.1 k).2.1)))) := Lib.hid fun X hX => by
    have hwX := hw4.trans (hX.mono hw4.size)
    refine slContainsFP (fun f => bigW (va f.1 k).2.1) 22 #[.pointer (some ⟨W3.heap.size, 0, none⟩)] ent_windows1 _ F S X (hs.below hwX) fun Y i hY hi => ?_
    have hl := (hrv.2 _ (fc_mem hi)).1.2.2
    exact windows1_c (S i) (fc F i).1 (fc F i).2.1 (fc F i).2.2 (k : Int) W3.heap.size Y ((hs.below (hwX.trans (hY.mono hwX.size))).2 i hi) (HBx.out Y (hX.trans (hY.mono hX.size))) (by omega) (by rw [hl]; simpa using hkl)
  have hki : (k : Int) < ((row0 F).length : Int) := by omega
  clear hW4 hb4 hbx hkd hr0 hrr hS0 hrv
  go_wp2_with fail
  rw [← HW4.out]
  clear hk g0 g2 g3 z0
  cases q6 : (kd == 1)
  · have q7 : (kd != 1) = true := by rw [bne, q6]; rfl
    refine wp_region_below (by kernel_rfl) (by kernel_rfl) ?_
    repeat (go_big_quiet_step (fail))
    refine wpQuiet_nil ?_
    rintro w5 ⟨⟨_, hb5⟩, rfl⟩
    have hw5 := hw4.trans (hb5.mono hw4.size)
    clear e0 e1 e2 hb5
    go_wp2_with fail
    go_ret
    exact ⟨rfl, hw5⟩
  have q7 : (kd != 1) = false := by rw [bne, q6]; rfl
  have HOne : Hid ((va (row0 F) k).1 = 1) := Lib.hid (by rw [← HKd.out]; exact eq_of_beq q6)
  cases q10 : F.any fun f => bigW (va f.1 k).2.1
  rotate_left
  · rw [q10] at KC
    clear q10
    refine wp_region_below (by kernel_rfl) (by kernel_rfl) ?_
    repeat (go_big_quiet_step ((go_at_call 19; exact calls_bw _ (KC.out _ (Subtype.property _)))))
    refine wpQuiet_nil ?_
    rintro w5 ⟨⟨_, hb5⟩, rfl⟩
    have hw5 := hw4.trans (hb5.mono hw4.size)
    clear e0 e1 e2 hb5
    go_wp2_with fail
    go_ret
    exact ⟨rfl, hw5⟩
  have Q10 := Lib.hid q10
  rw [q10] at KC
  clear q10
  refine wp_region_below (by kernel_rfl) (by kernel_rfl) ?_
  repeat (go_big_quiet_step ((go_at_call 19; exact calls_bw _ (KC.out _ (Subtype.property _)))))
  refine wpQuiet_nil ?_
  rintro w5 ⟨⟨_, hb5⟩, rfl⟩
  have hw5 := hw4.trans (hb5.mono hw4.size)
  have y0 := (HBx.out w5 hb5).cell
  have H05 := Lib.hid hb5
  clear e0 e1 e2 hb5 KC q6 q7
  go_wp2_with fail
  have hkl2 := Lib.hid hkl
  have hn9 : F.length < 1000000000 := by have := win_few Q1.out; omega
  refine (KM.out hn9 w5 k 1 hw5).mono ?_
  rintro e w6 ⟨v6, c6, rfl, hb6, hsp⟩
  obtain ⟨rfl, A1, hA1, hA1l, hF1⟩ := win_mov Q3.out Q1.out hn2 hkl2.out HOne.out Q10.out (by omega) hsp
  rw [movF_one Q3.out] at hA1
  have HA1 := Lib.hid hA1
  have hw6 := hw5.trans (hb6.mono hw5.size)
  have H06 := Lib.hid (H05.out.trans (hb6.mono H05.out.size))
  have y0 := (HBx.out w6 H06.out).cell
  clear hb6 hsp hw5 H05 hA1
  go_wp2_with fail
  refine (KG.out hn9 w6 k hw6).mono ?_
  rintro e w7 ⟨v7, c7, rfl, hb7, hsp⟩
  obtain ⟨rfl, A2, hA2, hA2l, hF2⟩ := win_grp Q3.out Q1.out hn2 hkl2.out HOne.out Q10.out hsp
  obtain rfl := norm_unique HA1.out hA2
  have hF1 := hF1.below hb7
  have hw7 := hw6.trans (hb7.mono hw6.size)
  have H07 := Lib.hid (H06.out.trans (hb7.mono H06.out.size))
  have y0 := (HBx.out w7 H07.out).cell
  clear hb7 hsp hw6 H06 hA2
  have u0 : IntKind.i64.wrap win = win := by have := Hw0.out; rw [IntKind.wrap_i64]; omega
  obtain ⟨rr, hrr⟩ : ∃ r, Int.tmod win 34560000 = r := ⟨_, rfl⟩
  have hrb : 0 ≤ rr ∧ rr < 34560000 := by
    have h1 := Int.tmod_nonneg (34560000 : Int) Hw0.out.1
    have h2 := Int.tmod_lt_of_pos win (show (0 : Int) < 34560000 by omega)
    omega
  obtain ⟨wn, hwn⟩ : ∃ w, w = 1 + rr := ⟨_, rfl⟩
  have u1 : IntKind.i64.wrap (1 + rr) = wn := by rw [hwn]; exact IntWalk.i64_in _ (by omega)
  have HWn : Hid (1 ≤ wn ∧ wn ≤ 34560000) := Lib.hid (by omega)
  clear hwn hrb
  go_wp2_with fail
  refine (KM.out hn9 w7 k wn hw7).mono ?_
  rintro e w8 ⟨v8, c8, rfl, hb8, hsp⟩
  obtain ⟨rfl, A3, hA3, hA3l, hF3⟩ := win_mov Q3.out Q1.out hn2 hkl2.out HOne.out Q10.out HWn.out hsp
  have HA3 := Lib.hid hA3
  have hF1 := hF1.below hb8
  have hF2 := hF2.below hb8
  have hw8 := hw7.trans (hb8.mono hw7.size)
  have H08 := Lib.hid (H07.out.trans (hb8.mono H07.out.size))
  clear hb8 hsp hw7 H07 hA3 y0 u0 u1 hrr
  have KS := Lib.hid (r39Same_c v6 v7 A1 A1 w8 hF1 hF2)
  have hsm : sameF A1 A1 = true := by simp [sameF]
  rw [hsm] at KS
  clear hsm
  go_wp2_with fail
  refine KS.out.mono ?_
  rintro e w9 ⟨rfl, hb9⟩
  have HF3 : Hid (∀ X, Below w8.heap.size w8 X → IsFs X v8 A3) := Lib.hid fun X h => hF3.below h
  have hw9 := hw8.trans (hb9.mono hw8.size)
  have H09 := Lib.hid (H08.out.trans (hb9.mono H08.out.size))
  have H89 := Lib.hid hb9
  clear hb9 KS hF1 hF2 hF3 hw8
  go_wp2_with fail
  try go_frame
  have HT : Hid (-62135596800 ≤ t ∧ t < 253402300800) := Lib.hid (by have h1 := Q4.out; have h2 := Q5.out; omega)
  have HIn : Hid (∀ X, Below w9.heap.size w9 X → FsIn X (.slice (some ⟨bf, off, none⟩) F.length cc) F S) := Lib.hid fun X h => hs.below (hw9.trans (h.mono hw9.size))
  have HSv := Lib.hid (fun (X : World) (h : Below w9.heap.size w9 X) (J : List Nat) (hJ : ∀ j ∈ J, j < F.length) (o : Value) (ho : X.ownsRow w9.heap.size 25 1 o J.length (J.map S)) => rv_own (F := F) ho (fun j hj => ((HIn.out X h).2 j (hJ j hj))))
  have HY : Hid (∀ X, Below w9.heap.size w9 X → X.cell? ⟨W3.heap.size, 0, none⟩ = some (.int .i64 (k : Int))) := Lib.hid fun X h => (HBx.out X (H09.out.trans (h.mono H09.out.size))).cell
  have h16 := win_few Q1.out
  have HBf : Hid (bf < w9.heap.size) := Lib.hid (Nat.lt_of_lt_of_le hbl hw9.size)
  go_loopw [17, 18, 108] (fun o n i X => ∃ (j : Nat) (js : List Nat), i = .int .i64 (j : Int) ∧ j ≤ F.length ∧ Hid (rowsN (movF F wn) t j = rowsJ F js) ∧ Hid (∀ j ∈ js, j < F.length) ∧ js.length ≤ j ∧ n = .int .i64 (sumI (colN (rowsJ F js) k)) ∧ Hid (X.ownsRow w9.heap.size 25 1 o js.length (js.map S)) ∧ Hid (Below w9.heap.size w9 X)) (fun _ _ i _ => F.length - (intOf i).toNat)
  case atStart => exact ⟨0, [], rfl, Nat.zero_le _, Lib.hid rfl, Lib.hid (fun j hj => absurd hj (by simp)), Nat.le_refl _, rfl, Lib.hid (own_nil _ _ _ _), Lib.hid (Below.refl _ _)⟩
  case round =>
    obtain ⟨j, js, rfl, hj, HR, HJ, hjk, rfl, HO, HB⟩ := hrel
    rename World => X
    obtain ⟨n, hn⟩ : ∃ n, n = sumI (colN (rowsJ F js) k) := ⟨_, rfl⟩
    rw [← hn]
    have HN := Lib.hid hn
    by_cases hlt : j < F.length
    · have hin := HIn.out X HB.out
      have c0 := hin.c0 j hlt
      have c1 := hin.c1 j hlt
      have c2 := hin.c2 j hlt
      have HV := Lib.hid (hin.2 j hlt)
      obtain ⟨A1', p1, hS, _, _⟩ := HV.out.form
      have hst := rowsN_succ (movF F wn) t j
      rw [movF_act hlt HT.out.2, show (fc (movF F wn) j).1 = (fc F j).1 by rw [movF_at hlt], HR.out] at hst
      have hrlen : (fc F j).1.length = (row0 F).length := ((valid_rows Q3.out).2 _ (fc_mem hlt)).1.2.2
      have hvr := HV.out
      rw [hS] at hvr
      obtain ⟨br, ofr, rfl, hbr⟩ := hvr.addr (by rw [hrlen]; omega)
      have HX9 : Hid (∀ Y, Below w9.heap.size w9 Y → Y.cell? ⟨br, ofr + k * 3 + 1, none⟩ = some (.int .i64 (va (fc F j).1 k).2.1)) := Lib.hid fun Y hY => by
        have h := (HIn.out Y hY).2 j hlt
        rw [hS] at h
        exact h.c1 k (by rw [hrlen]; exact hkl2.out)
      have hsb := rj_sum (k := k) Q1.out Q10.out HJ.out (by omega)
      have HJ' : Hid (∀ i ∈ js ++ [j], i < F.length) := Lib.hid fun i hi => by
        rcases List.mem_append.1 hi with e | e
        · exact HJ.out i e
        · rw [List.mem_singleton.1 e]; exact hlt
      have hsb2 := rj_sum (k := k) Q1.out Q10.out HJ'.out (by simp; omega)
      have hca := colN_app (F := F) (k := k) js j
      rw [← hn] at hca hsb
      rw [hca] at hsb2
      have HCa := Lib.hid hca
      have HSk := Lib.hid hS
      rw [hS] at c0
      obtain ⟨⟨row, ⟨s1, s2⟩⟩, hf⟩ : ∃ f, f = fc F j := ⟨_, rfl⟩
      have HF := Lib.hid hf
      rw [← hf] at c1 c2 hst HX9 hsb2 hrlen HCa
      simp only at c1 c2 hst hsb2 hrlen
      have hlen : (fc F j).1.length = row.length := by rw [← hf]
      rw [hlen] at hS c0 HSk
      obtain ⟨x, hx⟩ : ∃ x, x = (va row k).2.1 := ⟨_, rfl⟩
      have HX8 : Hid (∀ Y, Below w9.heap.size w9 Y → Y.cell? ⟨br, ofr + k * 3 + 1, none⟩ = some (.int .i64 x)) := Lib.hid fun Y hY => by rw [hx]; exact HX9.out Y hY
      have HCb : Hid (sumI (colN (rowsJ F (js ++ [j])) k) = n + x) := Lib.hid (by rw [hx]; exact HCa.out)
      rw [← hx] at hsb2
      have hwr : IntKind.i64.wrap (n + x) = n + x := IntWalk.i64_in _ (by omega)
      have hbt := HT.out
      have hbw := HWn.out
      have v1 : IntKind.i64.wrap (t - wn) = t - wn := IntWalk.i64_in _ (by omega)
      have v2 : IntKind.i64.wrap (t - wn + 1) = t - wn + 1 := IntWalk.i64_in _ (by omega)
      have hkr : (k : Int) < (row.length : Int) := by rw [hrlen]; have := hkl2.out; omega
      have hkr2 : k < row.length := by omega
      have hq8 : X.heap.size < (X.alloc (.cells #[.slice (some ⟨br, ofr, none⟩) row.length p1, .int .i64 s1, .int .i64 s2] 29)).heap.size := by simp
      have hbk := heap_alloc_new X (.cells #[.slice (some ⟨br, ofr, none⟩) row.length p1, .int .i64 s1, .int .i64 s2] 29)
      have hbA := (Below.refl X.heap.size X).alloc (Nat.le_refl _) (.cells #[.slice (some ⟨br, ofr, none⟩) row.length p1, .int .i64 s1, .int .i64 s2] 29)
      have HBk := Lib.hid hbk; have HBA := Lib.hid hbA; have Hq8 := Lib.hid hq8
      have HZ0 : Hid ((X.alloc (.cells #[.slice (some ⟨br, ofr, none⟩) row.length p1, .int .i64 s1, .int .i64 s2] 29)).cell? ⟨X.heap.size, 0, none⟩ = some (.slice (some ⟨br, ofr, none⟩) row.length p1)) := Lib.hid (by rw [blk_get hbk 0]; rfl)
      have HBY := Lib.hid (HB.out.trans (hbA.mono HB.out.size))
      have Hlt := Lib.hid hlt
      clear hf hlen hS hin hbk hbA hq8 hvr hbr hsb hsb2 hca HX9 hx HCa hn hbt hbw hrlen
      cases q1 : decide (s1 ≤ t)
      · rw [q1] at hst
        have HR' : Hid (rowsN (movF F wn) t (j + 1) = rowsJ F js) := Lib.hid (by rw [hst]; simp)
        clear hst
        go_wp2_with fail
        go_roundw
        case rel => exact ⟨j + 1, js, by go_num, Hlt.out, HR', HJ, by omega, by rw [HN.out], Lib.hid (own_below HO.out HBA.out (Nat.le_refl _)), HBY⟩
        case measure => have := Hlt.out; simp [intOf]; omega
      cases q2 : decide (t - wn + 1 < s2)
      · rw [q1, q2] at hst
        have HR' : Hid (rowsN (movF F wn) t (j + 1) = rowsJ F js) := Lib.hid (by rw [hst]; simp)
        clear hst
        go_wp2_with fail
        go_roundw
        case rel => exact ⟨j + 1, js, by go_num, Hlt.out, HR', HJ, by omega, by rw [HN.out], Lib.hid (own_below HO.out HBA.out (Nat.le_refl _)), HBY⟩
        case measure => have := Hlt.out; simp [intOf]; omega
      rw [q1, q2] at hst
      have HOY := Lib.hid (own_below HO.out HBA.out (Nat.le_refl _))
      have hrv := HSv.out _ HBY.out js HJ.out _ HOY.out
      have K := Lib.hid (slContainsRP (fun x => decide (x = row)) 25 #[.pointer (some ⟨X.heap.size, 0, none⟩)] ent_windows2 _ (rowsJ F js) _ _ hrv (fun Z i hZ hi => windows2_c _ (.slice (some ⟨br, ofr, none⟩) row.length p1) (vr (rowsJ F js) i) row X.heap.size Z ((hrv.below hZ).2 i hi) (by
        have hv := (HV.out.below HBA.out).below hZ
        rw [HSk.out, ← HF.out] at hv
        exact hv) ((hZ.cell (p := ⟨X.heap.size, 0, none⟩) Hq8.out).trans HZ0.out)))
      have hK2 : (rowsJ F js).any (fun x => decide (x = row)) = hasR (rowsJ F js) row := rfl
      rw [hK2] at K
      obtain ⟨Ao, co, rfl, hlo, _⟩ := hrv.form
      have hjl : (rowsJ F js).length = js.length := by simp [rowsJ]
      rw [hjl] at K HOY HO
      rw [hjl]
      clear hrv hK2 hlo
      cases q3 : hasR (rowsJ F js) row
      · rw [q3] at hst K
        have HR' : Hid (rowsN (movF F wn) t (j + 1) = rowsJ F (js ++ [j])) := Lib.hid (by
          rw [hst, if_pos (by simp)]
          simp [rowsJ, ← HF.out])
        clear hst hjl q3
        go_wp2_with fail
        refine K.out.mono ?_
        rintro e wb ⟨rfl, hb5⟩
        have z0 := (hb5.cell (p := ⟨X.heap.size, 0, none⟩) Hq8.out).trans HZ0.out
        have hblk := hb5.block X.heap.size Hq8.out
        rw [HBk.out] at hblk
        have HBlk := Lib.hid hblk
        have hown5 := own_below HOY.out hb5 (Nat.le_refl _)
        have hsz5 : w9.heap.size ≤ wb.heap.size := Nat.le_trans HBY.out.size hb5.size
        have HB5 := Lib.hid (HBY.out.trans (hb5.mono HBY.out.size))
        have Hsz : Hid (X.heap.size < wb.heap.size) := Lib.hid (Nat.lt_of_lt_of_le Hq8.out hb5.size)
        clear hb5 hblk
        go_wp2_with (at_builtin; refine append1 tRowVs tValuesInfo rfl (by omega) (by omega) rfl _ _ (by rfl) w9.heap.size _ js.length _ [.slice (some ⟨br, ofr, none⟩) row.length p1] (by rfl) hown5 (by rfl) (by rfl) (by rfl) rfl (by simp [Value.oneCell']) (by omega) hsz5 ?_; intro v8' w8' hown8 hb8 hbk8 _; have z8 : w8'.cell? ⟨X.heap.size, 0, none⟩ = some (.slice (some ⟨br, ofr, none⟩) row.length p1) := (by rw [blk_get ((hbk8 X.heap.size Hsz.out (fun e => by have := (World.ownsRow.lt HO.out _ e).2; omega)).trans HBlk.out) 0]; rfl); have y8 := HY.out w8' (HB5.out.trans hb8); have x8 := HX8.out w8' (HB5.out.trans hb8))
        go_roundw
        case rel => exact ⟨j + 1, js ++ [j], by go_num, Hlt.out, HR', HJ', by simp; omega, by rw [HCb.out], Lib.hid (by
            rw [List.map_append, List.length_append]
            simp only [List.map_cons, List.map_nil, HSk.out]
            exact hown8), Lib.hid (HB5.out.trans hb8)⟩
        case measure => have := Hlt.out; simp [intOf]; omega
      · rw [q3] at hst K
        have HR' : Hid (rowsN (movF F wn) t (j + 1) = rowsJ F js) := Lib.hid (by rw [hst]; simp)
        clear hst hjl q3
        go_wp2_with fail
        refine K.out.mono ?_
        rintro e wb ⟨rfl, hb5⟩
        have hown5 := Lib.hid (own_below HOY.out hb5 (Nat.le_refl _))
        have HB5 := Lib.hid (HBY.out.trans (hb5.mono HBY.out.size))
        clear hb5
        go_wp2_with fail
        go_roundw
        case rel => exact ⟨j + 1, js, by go_num, Hlt.out, HR', HJ, by omega, by rw [HN.out], hown5, HB5⟩
        case measure => have := Hlt.out; simp [intOf]; omega
    · obtain rfl : j = F.length := by omega
      have hrows : rowsAt (movF F wn) t = rowsJ F js := by
        unfold rowsAt
        rw [movF_len]
        exact HR.out
      have hsum : sumAtT (movF F wn) k t = n := by
        unfold sumAtT
        rw [hrows, HN.out]
      have hsr : -9223372036854775808 ≤ sumAtT (movF F wn) k t ∧ sumAtT (movF F wn) k t ≤ 9223372036854775807 := by
        have := win_sum Q1.out Q10.out wn t
        omega
      have hrv := HSv.out _ HB.out js HJ.out _ HO.out
      obtain ⟨Ao, co, rfl, _, _⟩ := hrv.form
      have hjl : (rowsJ F js).length = js.length := by simp [rowsJ]
      rw [hjl]
      have K9 := Lib.hid (at39_c v8 A3 t X (HF3.out X (H89.out.trans (HB.out.mono H89.out.size))) (by omega))
      have HRows := Lib.hid hrows; have HSumE := Lib.hid hsum; have HSr := Lib.hid hsr
      have hwX := hw9.trans (HB.out.mono hw9.size)
      clear hrows hsum hsr hrv hjl hn
      by_cases hz : js.length = 0
      · obtain rfl : js = [] := List.length_eq_zero_iff.1 hz
        have hnil : rowsAt A3 t = [] := rows_sum_none HA3.out HRows.out
        rw [hnil] at K9
        clear hnil hz
        go_wp2_with fail
        refine K9.out.mono ?_
        rintro e wA ⟨v21, rfl, hrv, hbA⟩
        obtain ⟨A', c', rfl⟩ := got_nil hrv
        have hwA := hwX.trans (hbA.mono hwX.size)
        clear hbA hrv
        go_wp2_with fail
        go_ret
        exact ⟨rfl, hwA⟩
      · have hone : rowsAt A3 t = [[(1, n, ⟨#[]⟩)]] := by
          have h := rows_sum_some HA3.out HSr.out (by
            rw [HRows.out]
            intro e
            have : (rowsJ F js).length = 0 := by rw [e]; rfl
            simp [rowsJ] at this
            exact hz (by rw [this]; rfl))
          rw [HSumE.out] at h
          exact h
        rw [hone] at K9
        have hz2 : ((js.length : Int) == 0) = false := by simpa using hz
        have hnn : (n == n) = true := beq_self_eq_true n
        clear hone
        go_wp2_with fail
        refine K9.out.mono ?_
        rintro e wA ⟨v21, rfl, hrv, hbA⟩
        obtain ⟨b, o, c, b1, o1, c1, rfl, x1, x2⟩ := got_one hrv
        have hwA := hwX.trans (hbA.mono hwX.size)
        clear hbA hrv
        go_wp2_with fail
        go_ret
        exact ⟨rfl, hwA⟩

set_option maxRecDepth 100000 in
theorem law39Windows_lifted (os : Os) (started : os.Started) (H : Type) (enc : TypeId × Value → H) :
    ReturnsInHanded {} Try.checked os 5 .any (Rows.aggregateWindowsSpec.pre6 enc Try.prog Try.f5 Rows.aggregateWindowsRow.domain false) (Rows.aggregateWindowsSpec.post enc Try.prog Try.f5 false true false false) := by
  refine returnsInHanded_of_change (C := Try.checked) Try.own started (by kernel_rfl) Try.func5
    (ChangeSpec.witness6 (enc := enc) (C := Try.checked) false ⟨#[], #[.slice none 0 0, .int .u8 0, .int .u32 0, .int .i64 0], []⟩ 8 (by kernel_rfl) (by kernel_rfl) (by kernel_rfl) (by kernel_rfl)) ?_
  intro W base args ds gs before hval0 hW hcnd _
  have hval : ∀ (j : Nat) t v, Try.f5.params[j]? = some t → args[j]? = some v → Value.okWide Try.prog W .any base t v := hval0
  have hW' := hW
  obtain ⟨p, q, hA0, hV, rfl, hfz, hnd⟩ := hW
  have hA : DataW.TrodAll enc Try.prog W 0 (fun _ => true) true Try.f5.params.toList args.toList ds p := hA0
  have hA1 := hA0
  rw [Try.params5] at hA hval
  obtain ⟨v0, v1, v2, v3, d0, d1, d2, d3, p0, p1, p2, p3, rfl, rfl, hp, h0, h1, h2, h3⟩ := trodAll_four hA
  obtain ⟨rfl, rfl⟩ := trodVars_none hV
  obtain ⟨l, g0, m0⟩ := open_facts (hval 0 22 v0 rfl rfl) h0
  obtain ⟨column, rfl, rfl, rfl, g1⟩ := open_int Try.underlying5 (hval 1 5 v1 rfl rfl) h1
  obtain ⟨window, rfl, rfl, rfl, g2⟩ := open_int Try.underlying49 (hval 2 49 v2 rfl rfl) h2
  obtain ⟨t, rfl, rfl, rfl, g3⟩ := open_int Try.underlying3 (hval 3 3 v3 rfl rfl) h3
  clear hA0 hval0
  have hlt : ∀ x ∈ p, x.block < W.heap.size := fun x hx => hW'.lt x (by simp [hx])
  refine (law39Windows_c v0 l column window t W g0 m0 (wfu8_39 g1) (wfu32_39 g2)).mono fun e W' ⟨he, hg⟩ => ?_
  subst he
  exact ⟨_, rfl, post_of_below (pa := p) (pv := []) hW' (fun _ _ _ => trodAll_mk1 (shut_bool Try.underlying4 _))
    (fun sp hsp => trodAll_keep Try.laidOut hg (by kernel_rfl) hA1 hlt (fun x hx => hsp x (by simp [hx])))
    (fun _ _ => rfl) rfl hg (ok_one (by kernel_rfl) rfl (okWide_bool_mk Try.underlying4 _))⟩

theorem law39Windows_holds : Rows.AggregateWindowsSaid :=
  OpenClaim.holds_of_wide 5 Try.f5 rfl rfl rfl rfl rfl rfl rfl ⟨rfl, rfl, rfl, rfl, rfl⟩ rfl rfl rfl rfl rfl (by kernel_rfl) Try.func5 (by kernel_rfl)
    (of_decide_eq_true (by kernel_rfl)) (by unfold Func.isWrapper; first | (rw [if_pos (by decide +kernel)]; kernel_rfl) | (rw [if_neg (by decide +kernel)]; exact ⟨rfl, rfl⟩))
    (fun os started H enc _ => law39Windows_lifted os started H enc)
#print axioms law39Windows_holds
end Go.Proofs.Ytohjgegnamcnlaa
