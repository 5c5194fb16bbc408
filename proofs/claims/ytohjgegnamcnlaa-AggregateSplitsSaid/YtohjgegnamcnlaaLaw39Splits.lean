/- AggregateSplits: the total over two adjacent spans is the sum of both totals, and it is that of the sums over time. -/
import Derived.Test.YtohjgegnamcnlaaRows
import Derived.Test.YtohjgegnamcnlaaAhk
import Derived.Test.YtohjgegnamcnlaaAhl
import Derived.Test.YtohjgegnamcnlaaAhj
namespace Go.Proofs.Ytohjgegnamcnlaa
open Go.RowKit Go.Shelf Go.ChangeShapes Go.WideShapes Go.ChangeAt

def bigN (x : Int) : Bool := decide (65536 < x) || decide (x < -65536)
theorem splits1_c (v : Value) (r : VRow) (p q colI : Int) (b : Nat) (w : World) (hs : IsVals w v r) (hc : BoxAt w b (.int .i64 colI)) (h0 : 0 ≤ colI) (h1 : colI.toNat < r.length) : Calls Try.prog 20 #[.agg #[v, .int .i64 p, .int .i64 q], .pointer (some ⟨b, 0, none⟩)] w (Ret w (.bool (bigN (va r colI.toNat).2.1))) := by
  obtain ⟨A, c, rfl, hnc, hcc⟩ := hs.form
  have hb := (Below.refl w.heap.size w).alloc (Nat.le_refl _) (.cells #[.slice A r.length c, .int .i64 p, .int .i64 q] 29)
  have hs2 := hs.below hb
  have hc2 := (hc.block (hb.block _ hc.lt)).cell
  obtain ⟨br, ofr, rfl, _⟩ := hs.addr (by omega)
  have x1 := hs2.c1 colI.toNat h1
  have h2 : colI < (r.length : Int) := by omega
  generalize (va r colI.toNat).2.1 = x at *
  unfold bigN
  have HB := Lib.hid hb
  clear hb hs hs2 hc
  cases q1 : decide ((65536 : Int) < x) <;> cases q2 : decide (x < -65536)
  all_goals
    go_enter Try.func20, Try.ntmps20
    go_wp2_with fail
    go_ret
    exact ⟨rfl, HB.out⟩
theorem ent_splits1 : ∀ (args : Array Value) (w : World), Sem.run Try.prog (callFunc 20 args) w = .ok (.enter 20 args) w := fun _ _ => by kernel_rfl
/-- What is known behind the law's guards. -/
structure SplE (F : List Fct) (colI a b c : Int) : Prop where
  few : fewF F = true
  pos : 0 < F.length
  valid : validF F = true
  ab : a < b
  bc : b < c
  span : -62135596800 ≤ a ∧ c ≤ 253402300800
  len : c - a ≤ 1099511627776
  col : 0 ≤ colI ∧ colI < ((row0 F).length : Int)
  any : (F.any fun f => bigN (va f.1 colI.toNat).2.1) = false
section
variable {F : List Fct} {colI a b c : Int}
theorem SplE.num (h : SplE F colI a b c) : ∀ f ∈ F, -65536 ≤ (va f.1 colI.toNat).2.1 ∧ (va f.1 colI.toNat).2.1 ≤ 65536 := fun f hf => by
  have := List.any_eq_false.1 h.any f hf
  unfold bigN at this
  simp only [Bool.or_eq_true, decide_eq_true_eq, not_or] at this
  omega
theorem SplE.sum (h : SplE F colI a b c) (t : Int) : -1048576 ≤ sumAtT F colI.toNat t ∧ sumAtT F colI.toNat t ≤ 1048576 := by
  have h1 := sumI_bound (B := 65536) (colN (rowsAt F t) colI.toNat) fun x hx => by
    obtain ⟨r, hr, rfl⟩ := List.mem_map.1 hx
    obtain ⟨f, hf, rfl, _⟩ := rowsAt_mem.1 hr
    exact h.num f hf
  have h2 : (colN (rowsAt F t) colI.toNat).length ≤ 16 := by
    have h3 := rowsN_len F t F.length
    have h4 := h.few
    unfold fewF at h4
    simp only [Bool.and_eq_true, decide_eq_true_eq] at h4
    have h5 : (colN (rowsAt F t) colI.toNat).length = (rowsN F t F.length).length := by unfold colN rowsAt; rw [List.length_map]
    omega
  unfold sumAtT
  omega
theorem SplE.tot (h : SplE F colI a b c) {q : Sp} (hq : q.1 < q.2) (hl : q.2 - q.1 ≤ 1099511627776) : -1152921504606846976 ≤ totF F colI.toNat q ∧ totF F colI.toNat q ≤ 1152921504606846976 := by
  have := intg_bound (fun t => h.sum t) q.1 (q.2 - q.1).toNat
  unfold totF
  omega
theorem SplE.has (h : SplE F colI a b c) : hasB F colI = true := by
  unfold hasB
  rw [decide_eq_true h.col.1, decide_eq_true h.col.2, Bool.and_true, Bool.or_true]
theorem SplE.type (h : SplE F colI a b c) {q : Sp} (hq : spT q = true) (hk : (va (row0 F) colI.toNat).1 ≠ 1) : TotS F colI q = (0, 13) :=
  tots_type (by rw [h.valid, h.has, hq]; rfl) ⟨by have := h.pos; omega, hk⟩
theorem SplE.val (h : SplE F colI a b c) {q : Sp} (hq : spT q = true) (hl : q.2 - q.1 ≤ 1099511627776) (hk : (va (row0 F) colI.toNat).1 = 1) : TotS F colI q = (totF F colI.toNat q, 0) := by
  rw [tots_ok (by rw [h.valid, h.has, hq]; rfl) (fun e => e.2 hk)]
  have hs := (spT_ok hq).1
  unfold OkSp at hs
  have := h.tot hs.2.1 hl
  unfold totR
  rw [if_pos (by omega)]
theorem SplE.spans (h : SplE F colI a b c) : spT (a, b) = true ∧ spT (b, c) = true ∧ spT (a, c) = true := by
  have h1 := h.ab; have h2 := h.bc; have h3 := h.span
  unfold spT
  refine ⟨?_, ?_, ?_⟩ <;> (simp only [Bool.and_eq_true, decide_eq_true_eq]; omega)
theorem SplE.grp (h : SplE F colI a b c) (hk : (va (row0 F) colI.toNat).1 = 1) {e : Int} {v : Value} {w' : World} (hg : GrpSpec F [] 2 colI e v w') : e = 0 ∧ ∃ A, NormOf A (DGrp F [] 2 colI.toNat) ∧ A.length ≤ 1000 ∧ IsFs w' v A := by
  unfold GrpSpec at hg
  have hbad : bad1 F 2 colI = false := by unfold bad1; rw [h.valid, h.has]; rfl
  rw [if_neg (by rw [hbad]; decide), if_neg (by have := h.pos; omega), if_neg (by show ¬ (true = false); decide), if_neg (by decide), if_neg (fun e => e.2 hk)] at hg
  rcases hg with ⟨⟨t, r, hr, he⟩, _⟩ | ⟨_, A, hA, _, h2⟩
  · have hm : memG [] (rowsAt F t) (pickR r []) = rowsAt F t := by unfold memG pickR; simp
    rw [hm] at he
    have hs := h.sum t
    unfold sumAtT at hs
    unfold resR at he
    rw [if_neg (by decide), if_pos rfl] at he
    unfold resS at he
    rw [if_pos (by omega)] at he
    exact absurd rfl he
  · rcases h2 with ⟨h3, _⟩ | ⟨h3, h4, h5⟩
    · exfalso
      have h6 := h.few
      unfold fewF at h6
      simp only [Bool.and_eq_true, decide_eq_true_eq] at h6
      rename_i h7
      have : F.length * (2 * F.length) ≤ 16 * (2 * 16) := Nat.mul_le_mul h6.1 (by omega)
      omega
    · exact ⟨h4, A, hA, h3, h5⟩
theorem SplE.vals (h : SplE F colI a b c) {A : List Fct} (hA : NormOf A (DGrp F [] 2 colI.toNat)) : ∀ x ∈ spvs A, -1048576 ≤ x.2 ∧ x.2 ≤ 1048576 := fun x hx => by
  obtain ⟨f, hf, rfl⟩ := List.mem_map.1 hx
  have hs := norm_mem_ok hA f hf
  unfold OkSp at hs
  have hd := (hA.pts f.1 f.2.1).1 ⟨f, hf, rfl, Int.le_refl _, hs.2.1⟩
  have e := ((grp_all rfl).1 hd).2
  have hb := h.sum f.2.1
  rw [sum_res (by unfold sumAtT at hb; omega)] at e
  show -1048576 ≤ (va f.1 0).2.1 ∧ (va f.1 0).2.1 ≤ 1048576
  rw [e]
  exact hb
end
set_option maxRecDepth 100000 in
set_option maxHeartbeats 8000000 in
theorem law39Splits_c (v : Value) (F : List Fct) (colI a b c : Int) (W : World) (hs : IsFs W v F) (hm : MachF F) : Calls Try.prog 4 #[v, .int .i64 colI, .int .i64 a, .int .i64 b, .int .i64 c] W (Ret W (.bool true)) := by
  have KF : Hid (∀ X, Below W.heap.size W X → Calls Try.prog 9 #[v] X (Ret X (.bool (fewF F)))) := Lib.hid fun X h => few39_c v F X (hs.below h)
  have KV : Hid (∀ X, Below W.heap.size W X → Calls Try.prog 10 #[v] X (Ret X (.bool (validF F)))) := Lib.hid fun X h => r39Valid_c v F X (hs.below h)
  have KS : Hid (∀ X, Calls Try.prog 18 #[.agg #[.int .i64 a, .int .i64 c]] X (Ret X (.bool (spT (a, c))))) := Lib.hid fun X => r39Span_c (a, c) X
  obtain ⟨S, hs⟩ := hs
  obtain ⟨A, cc, rfl, hnc, hcc⟩ := hs.form
  have HM := Lib.hid hm
  obtain ⟨W0, hW0⟩ : ∃ Y, Y = W.alloc (.cells #[.int .i64 colI] 3) := ⟨_, rfl⟩
  have hb0 : Below W.heap.size W W0 := by rw [hW0]; exact (Below.refl _ _).alloc (Nat.le_refl _) _
  have hbx : BoxAt W0 W.heap.size (.int .i64 colI) := ⟨3, by rw [hW0]; exact heap_alloc_new W _⟩
  have HBx : Hid (∀ X, Below W0.heap.size W0 X → BoxAt X W.heap.size (.int .i64 colI)) := Lib.hid fun X h => hbx.block (h.block _ hbx.lt)
  have KA := Lib.hid (awake39_c W0)
  have HW0 := Lib.hid hW0
  clear hm hW0 hbx
  go_enter Try.func4, Try.ntmps4
  go_wp2_with fail
  rw [← HW0.out]
  refine KA.out.mono ?_
  rintro e W1 ⟨rfl, hb1⟩
  have hw1 := hb0.trans (hb1.mono hb0.size)
  go_wp2_with fail
  refine (KF.out W1 hw1).mono ?_
  rintro e W2 ⟨rfl, hb2⟩
  have hw2 := hw1.trans (hb2.mono hw1.size)
  have h02 := hb1.trans (hb2.mono hb1.size)
  clear hb0 hb1 hw1 hb2
  cases q1 : fewF F
  · go_wp2_with fail
    go_ret
    exact ⟨rfl, hw2⟩
  have Q1 := Lib.hid q1
  clear q1
  cases q2 : decide ((F.length : Int) < 1)
  rotate_left
  · go_wp2_with fail
    go_ret
    exact ⟨rfl, hw2⟩
  have Q2 := Lib.hid q2
  go_wp2_with fail
  refine (KV.out W2 hw2).mono ?_
  rintro e W3 ⟨rfl, hb3⟩
  have hw3 := hw2.trans (hb3.mono hw2.size)
  have h03 := h02.trans (hb3.mono h02.size)
  clear hb3 hw2 h02
  cases q3 : validF F
  · go_wp2_with fail
    go_ret
    exact ⟨rfl, hw3⟩
  have Q3 := Lib.hid q3
  clear q3
  cases q4 : decide (b ≤ a)
  rotate_left
  · go_wp2_with fail
    go_ret
    exact ⟨rfl, hw3⟩
  cases q5 : decide (c ≤ b)
  rotate_left
  · go_wp2_with fail
    go_ret
    exact ⟨rfl, hw3⟩
  have Q4 := Lib.hid (of_decide_eq_false q4); have Q5 := Lib.hid (of_decide_eq_false q5)
  go_wp2_with fail
  refine (KS.out W3).mono ?_
  rintro e W4 ⟨rfl, hb4⟩
  have hw4 := hw3.trans (hb4.mono hw3.size)
  have h04 := h03.trans (hb4.mono h03.size)
  clear hb4 hw3 h03
  cases q6 : spT (a, c)
  · go_wp2_with fail
    go_ret
    exact ⟨rfl, hw4⟩
  have Q6 := Lib.hid q6
  clear q6
  have hsp := spT_ok Q6.out
  have hac : -62135596800 ≤ a ∧ c ≤ 253402300800 := hsp.2
  have hlt : a < c := by have := hsp.1; unfold OkSp at this; exact this.2.1
  have hwr : IntKind.i64.wrap (c - a) = c - a := IntWalk.i64_in _ (by omega)
  cases q7 : decide ((1099511627776 : Int) < c - a)
  rotate_left
  · go_wp2_with fail
    go_ret
    exact ⟨rfl, hw4⟩
  have Q7 := Lib.hid (of_decide_eq_false q7)
  have y0 := (HBx.out W4 h04).cell
  have hn1 : 1 ≤ F.length := by have := of_decide_eq_false q2; omega
  have hn2 : 0 < F.length := hn1
  obtain ⟨bf, off, rfl, hbl⟩ := hs.addr hn2
  obtain ⟨A0, p0, hS0, hq0, hq0c⟩ := (hs.2 0 hn2).form
  have hrr : (fc F 0).1 = row0 F := rfl
  rw [hrr] at hS0 hq0
  have e0 := fun x : BW W4 => bw_cell x y0 (HBx.out W4 h04).lt
  have e1 : ∀ x : BW W4, x.1.cell? ⟨bf, off, none⟩ = some (.slice A0 (row0 F).length p0) := fun x => by
    have h := (hs.below (hw4.trans (x.2.mono hw4.size))).c0 0 hn2
    simp only [Nat.zero_mul, Nat.add_zero] at h
    rw [hS0] at h
    exact h
  cases q8 : decide (colI < 0)
  rotate_left
  · go_wp2_with fail
    refine wp_region_below (by kernel_rfl) (by kernel_rfl) ?_
    repeat (go_big_quiet_step (fail))
    refine wpQuiet_nil ?_
    rintro w5 ⟨⟨_, hb5⟩, rfl⟩
    have hw5 := hw4.trans (hb5.mono hw4.size)
    clear e0 e1 hb5
    go_wp2_with fail
    go_ret
    exact ⟨rfl, hw5⟩
  cases q9 : decide (((row0 F).length : Int) ≤ colI)
  rotate_left
  · go_wp2_with fail
    refine wp_region_below (by kernel_rfl) (by kernel_rfl) ?_
    repeat (go_big_quiet_step (fail))
    refine wpQuiet_nil ?_
    rintro w5 ⟨⟨_, hb5⟩, rfl⟩
    have hw5 := hw4.trans (hb5.mono hw4.size)
    clear e0 e1 hb5
    go_wp2_with fail
    go_ret
    exact ⟨rfl, hw5⟩
  have hc1 : 0 ≤ colI := by have := of_decide_eq_false q8; omega
  have hc2 : colI < ((row0 F).length : Int) := by have := of_decide_eq_false q9; omega
  have hc3 : colI.toNat < (row0 F).length := by omega
  have HC : Hid (0 ≤ colI ∧ colI < ((row0 F).length : Int)) := Lib.hid ⟨hc1, hc2⟩
  have hrv := valid_rows Q3.out
  have KC : Hid (∀ X, Below W4.heap.size W4 X → Calls Try.prog 19 #[.slice (some ⟨bf, off, none⟩) F.length cc, .func (.func 20) #[] #[.pointer (some ⟨W.heap.size, 0, none⟩)]] X (Ret X (.bool (F.any fun f => bigN (va f.1 colI.toNat).2.1)))) := Lib.hid fun X hX => by
    have hwX := hw4.trans (hX.mono hw4.size)
    have h0X := h04.trans (hX.mono h04.size)
    refine slContainsFP (fun f => bigN (va f.1 colI.toNat).2.1) 20 #[.pointer (some ⟨W.heap.size, 0, none⟩)] ent_splits1 _ F S X (hs.below hwX) fun Y i hY hi => ?_
    have hl := (hrv.2 _ (fc_mem hi)).1.2.2
    exact splits1_c (S i) (fc F i).1 (fc F i).2.1 (fc F i).2.2 colI W.heap.size Y ((hs.below (hwX.trans (hY.mono hwX.size))).2 i hi) (HBx.out Y (h0X.trans (hY.mono h0X.size))) hc1 (by rw [hl]; exact hc3)
  clear hrv hc1 hc2 hc3
  cases q10 : F.any fun f => bigN (va f.1 colI.toNat).2.1
  rotate_left
  · rw [q10] at KC
    clear q10
    go_wp2_with fail
    refine wp_region_below (by kernel_rfl) (by kernel_rfl) ?_
    repeat (go_big_quiet_step ((go_at_call 19; exact calls_bw _ (KC.out _ (Subtype.property _)))))
    refine wpQuiet_nil ?_
    rintro w5 ⟨⟨_, hb5⟩, rfl⟩
    have hw5 := hw4.trans (hb5.mono hw4.size)
    clear e0 e1 hb5
    go_wp2_with fail
    go_ret
    exact ⟨rfl, hw5⟩
  have Q10 := Lib.hid q10
  rw [q10] at KC
  clear q10
  go_wp2_with fail
  refine wp_region_below (by kernel_rfl) (by kernel_rfl) ?_
  repeat (go_big_quiet_step ((go_at_call 19; exact calls_bw _ (KC.out _ (Subtype.property _)))))
  refine wpQuiet_nil ?_
  rintro w5 ⟨⟨_, hb5⟩, rfl⟩
  have hw5 := hw4.trans (hb5.mono hw4.size)
  have h05 := h04.trans (hb5.mono h04.size)
  clear e0 e1 hb5 KC y0 hw4 h04
  have KT : Hid (∀ X (q : Sp), Below W.heap.size W X → Calls Try.prog 21 #[.slice (some ⟨bf, off, none⟩) F.length cc, .int .i64 colI, .agg #[.int .i64 q.1, .int .i64 q.2]] X (Ret X (.tuple #[.int .i64 (TotS F colI q).1, .int .i64 (TotS F colI q).2]))) := Lib.hid fun X q h => aTotal_c _ F colI q X ⟨S, hs.below h⟩ HM.out (by have := (valid_rows Q3.out).1; omega)
  have hE : SplE F colI a b c := ⟨Q1.out, hn2, Q3.out, by have := Q4.out; omega, by have := Q5.out; omega, hac, by have := Q7.out; omega, HC.out, Q10.out⟩
  have HE := Lib.hid hE
  obtain ⟨kd, hkd⟩ : ∃ k, k = (va (row0 F) colI.toNat).1 := ⟨_, rfl⟩
  have HKd := Lib.hid hkd
  have HZ : Hid (∀ X, Below W.heap.size W X → ∃ b0 o0, X.cell? ⟨bf, off, none⟩ = some (.slice (some ⟨b0, o0, none⟩) (row0 F).length p0) ∧ X.cell? ⟨b0, o0 + colI.toNat * 3, none⟩ = some (.int .i64 kd)) := Lib.hid fun X hX => by
    have hin := hs.below hX
    have d0 := hin.c0 0 hn2
    simp only [Nat.zero_mul, Nat.add_zero] at d0
    have hr := hin.2 0 hn2
    rw [hrr, hS0] at hr
    rw [hS0] at d0
    obtain ⟨b0, o0, rfl, _⟩ := hr.addr (by have := HC.out; omega)
    exact ⟨b0, o0, d0, by rw [hkd]; exact hr.c0 colI.toNat (by have := HC.out; omega)⟩
  have KG : Hid (∀ X, Below W.heap.size W X → Calls Try.prog 11 #[.slice (some ⟨bf, off, none⟩) F.length cc, .slice none 0 0, .int .i64 2, .int .i64 colI] X (GroupRet F [] 2 colI X)) := Lib.hid fun X h => aGroup_c _ _ F [] 2 colI X ⟨S, hs.below h⟩ IsInts.nil HM.out (by have := (valid_rows Q3.out).1; omega)
  clear hS0 hrr hkd hE q2 q4 q5 q7 q8 q9 hwr
  have y0 := (HBx.out w5 h05).cell
  obtain ⟨t1, ht1⟩ : ∃ t, t = TotS F colI (a, b) := ⟨_, rfl⟩
  obtain ⟨t2, ht2⟩ : ∃ t, t = TotS F colI (b, c) := ⟨_, rfl⟩
  obtain ⟨t3, ht3⟩ : ∃ t, t = TotS F colI (a, c) := ⟨_, rfl⟩
  have KT1 := Lib.hid (KT.out w5 (a, b) hw5)
  rw [← ht1] at KT1
  have HT1 := Lib.hid ht1; have HT2 := Lib.hid ht2; have HT3 := Lib.hid ht3
  clear ht1 ht2 ht3
  go_wp2_with fail
  refine KT1.out.mono ?_
  rintro e w6 ⟨rfl, hb6⟩
  have hw6 := hw5.trans (hb6.mono hw5.size)
  have h06 := h05.trans (hb6.mono h05.size)
  have y0 := (HBx.out w6 h06).cell
  have KT2 := Lib.hid (KT.out w6 (b, c) hw6)
  rw [← HT2.out] at KT2
  clear hb6 hw5 h05 KT1
  go_wp2_with fail
  refine KT2.out.mono ?_
  rintro e w7 ⟨rfl, hb7⟩
  have hw7 := hw6.trans (hb7.mono hw6.size)
  have h07 := h06.trans (hb7.mono h06.size)
  have y0 := (HBx.out w7 h07).cell
  have KT3 := Lib.hid (KT.out w7 (a, c) hw7)
  rw [← HT3.out] at KT3
  clear hb7 hw6 h06 KT2
  go_wp2_with fail
  refine KT3.out.mono ?_
  rintro e w8 ⟨rfl, hb8⟩
  have hw8 := hw7.trans (hb8.mono hw7.size)
  have h08 := h07.trans (hb8.mono h07.size)
  have y0 := (HBx.out w8 h08).cell
  clear hb8 hw7 h07 KT3 KT
  obtain ⟨b0, o0, d0, z0⟩ := HZ.out w8 hw8
  obtain ⟨g1, g2⟩ := HC.out
  have g3 : colI.toNat < (row0 F).length := by omega
  obtain ⟨p1, p2, p3⟩ := HE.out.spans
  have hl1 := HE.out.len; have hl2 := HE.out.ab; have hl3 := HE.out.bc
  cases k1 : (kd == 1)
  · have hne : (va (row0 F) colI.toNat).1 ≠ 1 := by rw [← HKd.out]; intro e; rw [e] at k1; cases k1
    have k2 : (kd != 1) = true := by rw [bne, k1]; rfl
    have e1 := HT1.out.trans (HE.out.type p1 hne)
    have e2 := HT2.out.trans (HE.out.type p2 hne)
    have e3 := HT3.out.trans (HE.out.type p3 hne)
    subst e1 e2 e3
    clear p1 p2 p3 hne
    go_wp2_with fail
    go_quiet (fail)
    have hbq : Below W.heap.size W (w8.drewN nq) := hw8.trans (below_grow w8 nq #[] |> fun h => by simpa [Go.Sort.grow_empty] using h.mono hw8.size)
    clear d0 z0 y0
    go_wp2_with fail
    go_ret
    exact ⟨rfl, hbq⟩
  · have hone : (va (row0 F) colI.toNat).1 = 1 := by rw [← HKd.out]; exact eq_of_beq k1
    have k2 : (kd != 1) = false := by rw [bne, k1]; rfl
    have e1 := HT1.out.trans (HE.out.val p1 (by simp only; omega) hone)
    have e2 := HT2.out.trans (HE.out.val p2 (by simp only; omega) hone)
    have e3 := HT3.out.trans (HE.out.val p3 (by simp only; omega) hone)
    have hadd := totF_split F colI.toNat hl2 hl3
    have hb3 := HE.out.tot (q := (a, c)) hlt hl1
    have HOne := Lib.hid hone
    obtain ⟨x, hx⟩ : ∃ x, x = totF F colI.toNat (a, b) := ⟨_, rfl⟩
    obtain ⟨y, hy⟩ : ∃ x, x = totF F colI.toNat (b, c) := ⟨_, rfl⟩
    obtain ⟨z, hz⟩ : ∃ x, x = totF F colI.toNat (a, c) := ⟨_, rfl⟩
    rw [← hx] at e1 hadd
    rw [← hy] at e2 hadd
    rw [← hz] at e3 hadd hb3
    have HZz := Lib.hid hz
    subst e1 e2 e3
    have hxy : IntKind.i64.wrap (x + y) = z := by rw [hadd]; exact IntWalk.i64_in _ (by omega)
    have k3 : (z != z) = false := by simp
    clear p1 p2 p3 hone hx hy hz hadd
    go_wp2_with fail
    go_quiet (fail)
    have hbq : Below W.heap.size W (w8.drewN nq) := hw8.trans (below_grow w8 nq #[] |> fun h => by simpa [Go.Sort.grow_empty] using h.mono hw8.size)
    have y0 : (w8.drewN nq).cell? ⟨W.heap.size, 0, none⟩ = some (.int .i64 colI) := y0
    generalize w8.drewN nq = w9 at *
    clear d0 z0
    go_wp2_with fail
    refine (KG.out w9 hbq).mono ?_
    rintro e wa ⟨v10, c10, rfl, hb10, hsp⟩
    obtain ⟨rfl, B, hB, hBl, hBf⟩ := HE.out.grp HOne.out hsp
    have hwa := hbq.trans (hb10.mono hbq.size)
    obtain ⟨SB, hBf⟩ := hBf
    obtain ⟨AB, cB, rfl, hnB, hcB⟩ := hBf.form
    have HNm := Lib.hid hB; have HVals := Lib.hid (HE.out.vals hB); have HLen := Lib.hid (rows_len1 hB)
    have HSum := Lib.hid (sI_sum hB (fun t => by have := HE.out.sum t; omega) (a, c))
    clear hB hsp hb10 hbq
    go_wp2_with fail
    have hsvl : (spvs B).length = B.length := by simp [spvs]
    have HSvl := Lib.hid hsvl
    have HDf : Hid (∀ t r s, DGrp F [] 2 colI.toNat r t → DGrp F [] 2 colI.toNat s t → r = s) := Lib.hid fun t r s => grp_one
    have HBd : Hid (∀ k, -1152921504606846976 ≤ sI a (c - a).toNat ((spvs B).take k) ∧ sI a (c - a).toNat ((spvs B).take k) ≤ 1152921504606846976) := Lib.hid fun k => by
      have := sI_bound HNm.out HDf.out (B := 1048576) (by omega) HVals.out a (c - a).toNat k
      omega
    clear hsvl
    try go_frame
    go_loopw [19, 153] (fun nn i Y => ∃ k : Nat, i = .int .i64 (k : Int) ∧ k ≤ B.length ∧ nn = .int .i64 (sI a (c - a).toNat ((spvs B).take k)) ∧ Below wa.heap.size wa Y) (fun _ i _ => B.length - (intOf i).toNat)
    case atStart => exact ⟨0, rfl, Nat.zero_le _, rfl, Below.refl _ _⟩
    case round =>
      obtain ⟨k, rfl, hk, rfl, hbY⟩ := hrel
      rename World => Y
      by_cases hkl : k < B.length
      · obtain ⟨bB, oB, rfl, hbB⟩ := hBf.addr (by omega)
        have hin := hBf.below hbY
        have c0 := hin.c0 k hkl
        have c1 := hin.c1 k hkl
        have c2 := hin.c2 k hkl
        have hr := hin.2 k hkl
        have hl1' := HLen.out _ (fc_mem hkl)
        obtain ⟨Ar, cr, hSr, hnr, hcr⟩ := hr.form
        rw [hSr] at c0 hr
        obtain ⟨br, ofr, rfl, hbr⟩ := hr.addr (by omega)
        have v1 := hr.c1 0 (by omega)
        rw [Nat.zero_mul, Nat.add_zero] at v1
        have hspB := norm_mem_ok HNm.out _ (fc_mem hkl)
        unfold OkSp at hspB
        have hT : (spvs B).take (k + 1) = (spvs B).take k ++ [((fc B k).2, (va (fc B k).1 0).2.1)] := by
          have hk2 : k < (spvs B).length := by rw [HSvl.out]; exact hkl
          rw [List.take_succ_eq_append_getElem hk2]
          have : (spvs B)[k] = ((fc B k).2, (va (fc B k).1 0).2.1) := by simp only [spvs, List.getElem_map, fc_at hkl]
          rw [this]
        have hvb := HVals.out ((fc B k).2, (va (fc B k).1 0).2.1) (List.mem_map.2 ⟨_, fc_mem hkl, rfl⟩)
        have hb1 := HBd.out k
        have hb2 := HBd.out (k + 1)
        rw [hT, sI_append] at hb2
        have hstep : sI a (c - a).toNat ((spvs B).take (k + 1)) = sI a (c - a).toNat ((spvs B).take k) + (va (fc B k).1 0).2.1 * clipC (fc B k).2 a (c - a).toNat := by
          rw [hT, sI_append]
          show _ + ((va (fc B k).1 0).2.1 * clipC (fc B k).2 a (c - a).toNat + 0) = _
          omega
        have hb2' : -1152921504606846976 ≤ sI a (c - a).toNat ((spvs B).take k) + (va (fc B k).1 0).2.1 * clipC (fc B k).2 a (c - a).toNat ∧ sI a (c - a).toNat ((spvs B).take k) + (va (fc B k).1 0).2.1 * clipC (fc B k).2 a (c - a).toNat ≤ 1152921504606846976 := by
          have := HBd.out (k + 1)
          rw [hstep] at this
          exact this
        have HStep := Lib.hid hstep
        clear hb2 hT hstep hin
        have hlen1 : (fc B k).1.length = 1 := hl1'
        rw [hlen1] at c0
        obtain ⟨⟨s, t⟩, hst⟩ : ∃ q, q = (fc B k).2 := ⟨_, rfl⟩
        rw [← hst] at c1 c2 hspB hb2' HStep
        simp only at c1 c2 hspB
        obtain ⟨x9, hx9⟩ : ∃ x, x = (va (fc B k).1 0).2.1 := ⟨_, rfl⟩
        rw [← hx9] at v1 hvb hb2' HStep
        simp only at hvb
        generalize sI a (c - a).toNat ((spvs B).take k) = m at *
        have hclip : clipC (s, t) a (c - a).toNat = max 0 (min t c - max s a) := by
          unfold clipC
          have : a + ((c - a).toNat : Int) = c := by omega
          rw [this]
        rw [hclip] at hb2' HStep
        have hvB : br < Y.heap.size := hbr
        clear hst hx9 hclip hl1' hlen1 hr hnr hSr
        have hbA := (Below.refl Y.heap.size Y).alloc (Nat.le_refl _) (.cells #[.slice (some ⟨br, ofr, none⟩) 1 cr, .int .i64 s, .int .i64 t] 29)
        have hbk := heap_alloc_new Y (.cells #[.slice (some ⟨br, ofr, none⟩) 1 cr, .int .i64 s, .int .i64 t] 29)
        have hq8 : Y.heap.size < (Y.alloc (.cells #[.slice (some ⟨br, ofr, none⟩) 1 cr, .int .i64 s, .int .i64 t] 29)).heap.size := by simp
        have v1 := (hbA.cell (p := ⟨br, ofr + 1, none⟩) hvB).trans v1
        have HY2 := Lib.hid (hbY.trans (hbA.mono hbY.size))
        go_wp2_with fail
        generalize Y.alloc (.cells #[.slice (some ⟨br, ofr, none⟩) 1 cr, .int .i64 s, .int .i64 t] 29) = Y2 at *
        have hvB2 : br < Y2.heap.size := Nat.lt_of_lt_of_le hvB hbA.size
        have e0 := fun x : BW Y2 => bw_cell x (blk_get hbk 0) hq8
        have e1 := fun x : BW Y2 => bw_cell x (blk_get hbk 1) hq8
        have e2 := fun x : BW Y2 => bw_cell x (blk_get hbk 2) hq8
        simp at e0 e1 e2
        clear c0 c1 c2 hbA
        refine wp_region_below (by kernel_rfl) (by kernel_rfl) ?_
        repeat (go_big_quiet_step (fail))
        refine wpQuiet_nil ?_
        rintro Y3 ⟨⟨_, hb3'⟩, rfl⟩
        have hq8' : Y.heap.size < Y2.heap.size := hq8
        have c0 : Y3.cell? ⟨Y.heap.size, 0, none⟩ = some (.slice (some ⟨br, ofr, none⟩) 1 cr) := e0 ⟨Y3, hb3'⟩
        have v1 : Y3.cell? ⟨br, ofr + 1, none⟩ = some (.int .i64 x9) := (hb3'.cell (p := ⟨br, ofr + 1, none⟩) hvB2).trans v1
        have hbY3 := Lib.hid (HY2.out.trans (hb3'.mono (Nat.le_trans hbY.size (Nat.le_of_lt hq8))))
        clear e0 e1 e2 hbk hb3'
        cases kk : decide (max a s < min c t)
        · have hz0 : max (0 : Int) (min t c - max s a) = 0 := by have := of_decide_eq_false kk; omega
          have hst : sI a (c - a).toNat ((spvs B).take (k + 1)) = m := by rw [HStep.out, hz0, Int.mul_zero, Int.add_zero]
          have HSt := Lib.hid hst
          clear hst hz0 hb1 hb2'
          go_wp2_with fail
          go_roundw
          case rel => exact ⟨k + 1, by go_num, hkl, by rw [HSt.out], hbY3.out⟩
          case measure => simp [intOf]; omega
        · have hz0 : max (0 : Int) (min t c - max s a) = min c t - max a s := by have := of_decide_eq_true kk; omega
          rw [hz0] at hb2' HStep
          have hw1 : IntKind.i64.wrap (min c t - max a s) = min c t - max a s := IntWalk.i64_in _ (by omega)
          have hd1 : 0 ≤ min c t - max a s ∧ min c t - max a s ≤ 1099511627776 := by have := of_decide_eq_true kk; omega
          have hw2 : IntKind.i64.wrap (x9 * (min c t - max a s)) = x9 * (min c t - max a s) := IntWalk.i64_in _ (by omega)
          have hw3 : IntKind.i64.wrap (m + x9 * (min c t - max a s)) = m + x9 * (min c t - max a s) := IntWalk.i64_in _ (by omega)
          clear hz0 hd1 hb1 hb2'
          go_wp2_with fail
          go_roundw
          case rel => exact ⟨k + 1, by go_num, hkl, by rw [HStep.out], hbY3.out⟩
          case measure => simp [intOf]; omega
      · obtain rfl : k = B.length := by omega
        have e1 : (spvs B).take B.length = spvs B := List.take_of_length_le (by rw [HSvl.out]; exact Nat.le_refl _)
        have hfin : sI a (c - a).toNat (spvs B) = totF F colI.toNat (a, c) := HSum.out
        rw [e1, hfin, ← HZz.out]
        have hbo := hwa.trans (hbY.mono hwa.size)
        clear e1 hfin
        have k4 : (z == z) = true := beq_self_eq_true z
        go_wp2_with fail
        go_ret
        exact ⟨rfl, hbo⟩

section
open Go.ChangeShapes
variable {H : Type} {enc : TypeId × Value → H} {P : Program} {w : World} {base : Nat} {spare : Nat → Bool} {held : Bool}
theorem trodAll_five {t t' t'' t3 t4 : TypeId} {args : Array Value} {ds : List (DataW H)} {ps : List MemPlace} (h : DataW.TrodAll enc P w base spare held [t, t', t'', t3, t4] args.toList ds ps) :
    ∃ v v' v'' v3 v4 d d' d'' d3 d4 p p' p'' p3 p4, args = #[v, v', v'', v3, v4] ∧ ds = [d, d', d'', d3, d4] ∧ ps = p ++ p' ++ p'' ++ p3 ++ p4 ∧ DataW.Trod enc P w base spare held t v d p ∧ DataW.Trod enc P w base spare held t' v' d' p' ∧ DataW.Trod enc P w base spare held t'' v'' d'' p'' ∧ DataW.Trod enc P w base spare held t3 v3 d3 p3 ∧ DataW.Trod enc P w base spare held t4 v4 d4 p4 := by
  obtain ⟨v, vs, d, ds', p, q, hargs, rfl, rfl, hd, hrest⟩ := trodAll_cons h
  obtain ⟨v', vs', d', ds'', p', q', rfl, rfl, rfl, hd', hrest'⟩ := trodAll_cons hrest
  obtain ⟨v'', vs'', d'', ds''', p'', q'', rfl, rfl, rfl, hd'', hrest''⟩ := trodAll_cons hrest'
  obtain ⟨v3, vs3, d3, ds3, p3, q3, rfl, rfl, rfl, hd3, hrest3⟩ := trodAll_cons hrest''
  obtain ⟨v4, vs4, d4, ds4, p4, q4, rfl, rfl, rfl, hd4, hrest4⟩ := trodAll_cons hrest3
  obtain ⟨rfl, rfl, rfl⟩ := trodAll_nil hrest4
  exact ⟨v, v', v'', v3, v4, d, d', d'', d3, d4, p, p', p'', p3, p4, by cases args; simp_all, rfl, by simp, hd, hd', hd'', hd3, hd4⟩
end

set_option maxRecDepth 100000 in
theorem law39Splits_lifted (os : Os) (started : os.Started) (H : Type) (enc : TypeId × Value → H) :
    ReturnsInHanded {} Try.checked os 4 .any (Rows.aggregateSplitsSpec.pre6 enc Try.prog Try.f4 Rows.aggregateSplitsRow.domain false) (Rows.aggregateSplitsSpec.post enc Try.prog Try.f4 false true false false) := by
  refine returnsInHanded_of_change (C := Try.checked) Try.own started (by kernel_rfl) Try.func4
    (ChangeSpec.witness6 (enc := enc) (C := Try.checked) false ⟨#[], #[.slice none 0 0, .int .i64 0, .int .i64 0, .int .i64 0, .int .i64 0], []⟩ 8 (by kernel_rfl) (by kernel_rfl) (by kernel_rfl) (by kernel_rfl)) ?_
  intro W base args ds gs before hval0 hW hcnd _
  have hval : ∀ (j : Nat) t v, Try.f4.params[j]? = some t → args[j]? = some v → Value.okWide Try.prog W .any base t v := hval0
  have hW' := hW
  obtain ⟨p, q, hA0, hV, rfl, hfz, hnd⟩ := hW
  have hA : DataW.TrodAll enc Try.prog W 0 (fun _ => true) true Try.f4.params.toList args.toList ds p := hA0
  have hA1 := hA0
  rw [Try.params4] at hA hval
  obtain ⟨v0, v1, v2, v3, v4, d0, d1, d2, d3, d4, p0, p1, p2, p3, p4, rfl, rfl, hp, h0, h1, h2, h3, h4⟩ := trodAll_five hA
  obtain ⟨rfl, rfl⟩ := trodVars_none hV
  obtain ⟨l, g0, m0⟩ := open_facts (hval 0 22 v0 rfl rfl) h0
  obtain ⟨column, rfl, rfl, rfl, g1⟩ := open_int Try.underlying3 (hval 1 3 v1 rfl rfl) h1
  obtain ⟨a, rfl, rfl, rfl, g2⟩ := open_int Try.underlying3 (hval 2 3 v2 rfl rfl) h2
  obtain ⟨b, rfl, rfl, rfl, g3⟩ := open_int Try.underlying3 (hval 3 3 v3 rfl rfl) h3
  obtain ⟨c, rfl, rfl, rfl, g4⟩ := open_int Try.underlying3 (hval 4 3 v4 rfl rfl) h4
  clear hA0 hval0
  have hlt : ∀ x ∈ p, x.block < W.heap.size := fun x hx => hW'.lt x (by simp [hx])
  refine (law39Splits_c v0 l column a b c W g0 m0).mono fun e W' ⟨he, hg⟩ => ?_
  subst he
  exact ⟨_, rfl, post_of_below (pa := p) (pv := []) hW' (fun _ _ _ => trodAll_mk1 (shut_bool Try.underlying4 _))
    (fun sp hsp => trodAll_keep Try.laidOut hg (by kernel_rfl) hA1 hlt (fun x hx => hsp x (by simp [hx])))
    (fun _ _ => rfl) rfl hg (ok_one (by kernel_rfl) rfl (okWide_bool_mk Try.underlying4 _))⟩

theorem law39Splits_holds : Rows.AggregateSplitsSaid :=
  OpenClaim.holds_of_wide 4 Try.f4 rfl rfl rfl rfl rfl rfl rfl ⟨rfl, rfl, rfl, rfl, rfl⟩ rfl rfl rfl rfl rfl (by kernel_rfl) Try.func4 (by kernel_rfl)
    (of_decide_eq_true (by kernel_rfl)) (by unfold Func.isWrapper; first | (rw [if_pos (by decide +kernel)]; kernel_rfl) | (rw [if_neg (by decide +kernel)]; exact ⟨rfl, rfl⟩))
    (fun os started H enc _ => law39Splits_lifted os started H enc)
#print axioms law39Splits_holds
end Go.Proofs.Ytohjgegnamcnlaa
