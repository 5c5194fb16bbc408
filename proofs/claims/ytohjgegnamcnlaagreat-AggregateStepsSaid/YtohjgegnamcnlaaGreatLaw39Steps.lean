/- AggregateSteps: the greatest step is at the runs of Most; the counts of groups add up to the steps. -/
import Derived.Test.YtohjgegnamcnlaaGreatRows
import Derived.Test.YtohjgegnamcnlaaGreatAhk
import Derived.Test.YtohjgegnamcnlaaGreatAhm
import Derived.Test.YtohjgegnamcnlaaGreatAiF
import Derived.Test.YtohjgegnamcnlaaGreatAiH
namespace Go.Proofs.YtohjgegnamcnlaaGreat
open Go.RowKit Go.Shelf Go.ChangeShapes Go.WideShapes Go.ChangeAt

theorem wfu8_39 {n : Int} (h : (Lit.int .u8 n).wf = true) : 0 ≤ n ∧ n ≤ 255 := by
  simp [Lit.wf, IntKind.min, IntKind.max, IntKind.signed, IntKind.bits] at h
  omega
theorem steps_few {F : List Fct} (h : fewF F = true) : F.length ≤ 16 := by
  unfold fewF at h
  simp only [Bool.and_eq_true, decide_eq_true_eq] at h
  exact h.1
theorem one_int (w : World) (k : Int) : IsInts (w.alloc (.cells #[.int .i64 k] 3)) (.slice (some ⟨w.heap.size, 0, none⟩) 1 1) [k] := by
  refine ⟨some ⟨w.heap.size, 0, none⟩, 1, rfl, by simp, by omega, fun _ => ⟨w.heap.size, 0, rfl, by simp, fun i j hi hj => ?_⟩⟩
  have hi2 : i < 1 := hi
  obtain rfl : i = 0 := by omega
  obtain rfl : j = 0 := by omega
  rw [blk_get (heap_alloc_new w _)]
  simp [intCell, iv]
theorem steps_key {n k : Nat} (h : k < n) : keyedB n [(k : Int)] = true := by
  refine range_all fun i hi => ?_
  obtain rfl : i = 0 := by simpa using hi
  have h2 : iv [(k : Int)] 0 = (k : Int) := by simp [iv]
  unfold keyB
  rw [h2, decide_eq_true (show (0 : Int) ≤ (k : Int) by omega), decide_eq_true (show (k : Int) < (n : Int) by omega)]
  rfl
theorem rowsN_len (F : List Fct) (t : Int) : ∀ k, (rowsN F t k).length ≤ k
  | 0 => Nat.le_refl _
  | k + 1 => by
    have := rowsN_len F t k
    rw [rowsN_succ]
    split
    · rw [List.length_append]
      show _ + 1 ≤ _
      omega
    · omega
set_option maxRecDepth 100000 in
set_option maxHeartbeats 16000000 in
theorem law39Steps_c (v : Value) (F : List Fct) (col : Int) (W : World) (hs : IsFs W v F) (hm : MachF F) (hc0 : 0 ≤ col ∧ col ≤ 255) : Calls Tryz.prog 6 #[v, .int .u8 col] W (Ret W (.bool true)) := by
  have KF : Hid (∀ X, Below W.heap.size W X → Calls Tryz.prog 9 #[v] X (Ret X (.bool (fewF F)))) := Lib.hid fun X h => few39_c v F X (hs.below h)
  have KV : Hid (∀ X, Below W.heap.size W X → Calls Tryz.prog 18 #[v] X (Ret X (.bool (validF F)))) := Lib.hid fun X h => r39Valid_c v F X (hs.below h)
  have KS : Hid (F.length < 1000000000 → ∀ X, Below W.heap.size W X → Calls Tryz.prog 15 #[v] X (GroupRet F [] 1 0 X)) := Lib.hid fun hn X h => aSteps_c v F X (hs.below h) hm hn
  have KM : Hid (F.length ≤ 100 → ∀ X, Below W.heap.size W X → Calls Tryz.prog 19 #[v] X (MostRet F X)) := Lib.hid fun hn X h => aMost_c v F X (hs.below h) hm hn
  have KG : Hid (F.length < 1000000000 → ∀ X vk ks, Below W.heap.size W X → IsInts X vk ks → Calls Tryz.prog 10 #[v, vk, .int .i64 1, .int .i64 0] X (GroupRet F ks 1 0 X)) := Lib.hid fun hn X vk ks h hk => aGroup_c v vk F ks 1 0 X (hs.below h) hk hm hn
  obtain ⟨S, hs⟩ := hs
  obtain ⟨A, cc, rfl, hnc, hcc⟩ := hs.form
  have KA := Lib.hid (awake39_c W)
  have Hc0 := Lib.hid hc0
  clear hm hc0
  go_enter Tryz.func6, Tryz.ntmps6
  go_wp2_with fail
  refine KA.out.mono ?_
  rintro e W1 ⟨rfl, hb1⟩
  go_wp2_with fail
  refine (KF.out W1 hb1).mono ?_
  rintro e W2 ⟨rfl, hb2⟩
  have hw2 := hb1.trans (hb2.mono hb1.size)
  clear hb1 hb2
  cases q1 : fewF F
  · go_wp2_with fail
    go_ret
    exact ⟨rfl, hw2⟩
  have Q1 := Lib.hid q1
  clear q1
  cases q2 : decide ((F.length : Int) < 1)
  rotate_left
  · go_wp2_with fail
    go_ret
    exact ⟨rfl, hw2⟩
  have Q2 := Lib.hid q2
  go_wp2_with fail
  refine (KV.out W2 hw2).mono ?_
  rintro e W3 ⟨rfl, hb3⟩
  have hw3 := hw2.trans (hb3.mono hw2.size)
  clear hb3 hw2
  cases q3 : validF F
  · go_wp2_with fail
    go_ret
    exact ⟨rfl, hw3⟩
  have Q3 := Lib.hid q3
  clear q3
  have hn1 : 1 ≤ F.length := by have := of_decide_eq_false q2; omega
  have hn2 : 0 < F.length := hn1
  have h16 : F.length ≤ 16 := steps_few Q1.out
  obtain ⟨bf, off, rfl, hbl⟩ := hs.addr hn2
  obtain ⟨A0, p0, hS0, hq0, hq0c⟩ := (hs.2 0 hn2).form
  have hrr : (fc F 0).1 = row0 F := rfl
  rw [hrr] at hS0 hq0
  have hrl := ((valid_rows Q3.out).2 _ (fc_mem hn2)).1
  rw [hrr] at hrl
  have HZ : Hid (∀ X, Below W.heap.size W X → X.cell? ⟨bf, off, none⟩ = some (.slice A0 (row0 F).length p0)) := Lib.hid fun X hX => by
    have h := (hs.below hX).c0 0 hn2
    simp only [Nat.zero_mul, Nat.add_zero] at h
    rw [hS0] at h
    exact h
  have g0 : IntKind.i64.wrap col = col := by have := Hc0.out; rw [IntKind.wrap_i64]; omega
  obtain ⟨k, hk⟩ : ∃ k : Nat, Int.tmod col ((row0 F).length : Int) = (k : Int) := ⟨(Int.tmod col (row0 F).length).toNat, by
    have := Int.tmod_nonneg ((row0 F).length : Int) Hc0.out.1
    omega⟩
  have hkl : k < (row0 F).length := by
    have := Int.tmod_lt_of_pos col (show (0 : Int) < ((row0 F).length : Int) by omega)
    omega
  have g2 : ¬ ((row0 F).length : Int) = 0 := by omega
  have g3 : ¬ (row0 F).length = 0 := by omega
  have Hkl := Lib.hid hkl
  have hn9 : F.length < 1000000000 := by omega
  have hn8 : F.length ≤ 100 := by omega
  have Hn2 := Lib.hid hn2; have H16 := Lib.hid h16; have Hn9 := Lib.hid hn9; have Hn8 := Lib.hid hn8
  have HRm : Hid (∀ t, (rowsAt F t).length ≤ 16) := Lib.hid fun t => Nat.le_trans (rowsN_len F t _) H16.out
  clear hrr hS0 hq0 hq0c hrl hkl hn9 hn8
  go_wp2_with fail
  refine (KS.out Hn9.out W3 hw3).mono ?_
  rintro e W4 ⟨v4, e4, rfl, hb4, hsp⟩
  obtain ⟨rfl, A1, hA1, hA1l, S1, hF1⟩ := grp_count Q3.out Hn2.out H16.out (by simp [keyedB]) (by simp) hsp
  have HA1 := Lib.hid hA1; have HA1l := Lib.hid hA1l
  have hw4 := hw3.trans (hb4.mono hw3.size)
  obtain ⟨Aa, ka, rfl, _, _⟩ := hF1.form
  clear hsp hA1 hw3 hb4 hA1l
  go_wp2_with fail
  refine (KM.out Hn8.out W4 hw4).mono ?_
  rintro e W5 ⟨v5, n, L, rfl, hL, hb5, hms⟩
  rw [if_pos Q3.out] at hms
  have hF1 := hF1.below hb5
  have hw5 := hw4.trans (hb5.mono hw4.size)
  have HMs := Lib.hid hms
  have hnp := most_pos hms Q3.out Hn2.out
  obtain ⟨A5, k5, rfl, _, _⟩ := RowsIn.form hL
  have z0 := HZ.out W5 hw5
  obtain ⟨W6, hW6⟩ : ∃ Y, Y = W5.alloc (.cells #[.int .i64 (k : Int)] 3) := ⟨_, rfl⟩
  have hb6 : Below W5.heap.size W5 W6 := by rw [hW6]; exact (Below.refl _ _).alloc (Nat.le_refl _) _
  have hk6 : IsInts W6 (.slice (some ⟨W5.heap.size, 0, none⟩) 1 1) [(k : Int)] := by rw [hW6]; exact one_int W5 k
  have hw6 := hw5.trans (hb6.mono hw5.size)
  have HW6 := Lib.hid hW6
  have K2 := Lib.hid (KG.out Hn9.out W6 _ _ hw6 hk6)
  have HL := Lib.hid (RowsIn.below hL hb6)
  have hF1 := hF1.below hb6
  have Hnp := Lib.hid hnp
  clear hb5 hms hw4 hw5 hW6 hb6 hk6 hL hnp
  go_wp2_with fail
  rw [← HW6.out]
  clear hk g0 g2 g3 z0
  refine K2.out.mono ?_
  rintro e W7 ⟨v7, e7, rfl, hb7, hsp⟩
  obtain ⟨rfl, A2, hA2, hA2l, hF2⟩ := grp_count Q3.out Hn2.out H16.out (steps_key Hkl.out) (by simp) hsp
  have HA2 := Lib.hid hA2
  have hw7 := hw6.trans (hb7.mono hw6.size)
  have HF1 := Lib.hid (hF1.below hb7)
  have HL7 := Lib.hid (RowsIn.below HL.out hb7)
  have hc1 : decide ((n : Int) < 1) = false := decide_eq_false (by have := Hnp.out; omega)
  have KB : Hid (∀ X t, Below W7.heap.size W7 X → Calls Tryz.prog 20 #[v7, .int .i64 t] X (AtRet (rowsAt A2 t) X)) := Lib.hid fun X t h => at39_c v7 A2 t X (hF2.below h) (by omega)
  have HW7 := Lib.hid hw7
  clear hb7 hsp hA2 hw6 K2 hF1 HL hs hbl hw7 hF2 hA2l
  go_wp2_with fail
  try go_frame
  go_loopw [12, 70] (fun o i X => ∃ i' : Nat, i = .int .i64 (i' : Int) ∧ i' ≤ A1.length ∧ Hid (X.ownsRow W7.heap.size 34 2 o (topS A1 n i').length (flat (topS A1 n i'))) ∧ Hid (Below W7.heap.size W7 X)) (fun _ i _ => A1.length - (intOf i).toNat)
  case atStart => exact ⟨0, rfl, Nat.zero_le _, Lib.hid (by rw [topS_zero]; exact own_nil _ _ _ _), Lib.hid (Below.refl _ _)⟩
  case round =>
    obtain ⟨i, rfl, hi, HO, HB⟩ := hrel
    rename World => X
    obtain ⟨Ao, co, hoe, _, _⟩ := RowsIn.form (spans_of_own HO.out)
    obtain ⟨nl, hnl⟩ : ∃ z, z = (topS A1 n i).length := ⟨_, rfl⟩
    rw [← hnl] at hoe
    subst hoe
    by_cases hlt : i < A1.length
    · obtain ⟨b1, o1, rfl, hb1⟩ := HF1.out.addr (by omega)
      have hin := HF1.out.below HB.out
      have c0 := hin.c0 i hlt
      have c1 := hin.c1 i hlt
      have c2 := hin.c2 i hlt
      have hvr := hin.2 i hlt
      have hrow := steps_row HA1.out (fc_mem hlt)
      have hty := fun h => topS_yes (n := n) hlt h
      have htn := fun h => topS_no (n := n) hlt h
      obtain ⟨⟨row, ⟨s1, s2⟩⟩, hf⟩ : ∃ f, f = fc A1 i := ⟨_, rfl⟩
      rw [← hf] at c1 c2 hvr hrow hty htn
      simp only at c1 c2 hvr hrow hty htn
      obtain ⟨rfl, hcp⟩ := hrow
      obtain ⟨Ar, cr, hSr, hlr, hcr⟩ := hvr.form
      have hSr2 : S1 i = .slice Ar 1 cr := hSr
      have c0' : X.cell? ⟨b1, o1 + i * 3, none⟩ = some (.slice Ar 1 cr) := by rw [← hSr2]; exact c0
      rw [hSr2] at hvr
      obtain ⟨br, ofr, rfl, hbr⟩ := IsVals.addr (A := Ar) (c := cr) (r := [(1, ((rowsAt F s1).length : Int), ⟨#[]⟩)]) hvr (Nat.zero_lt_succ _)
      have HN1 : Hid (∀ Q, Below W7.heap.size W7 Q → Q.cell? ⟨br, ofr + 1, none⟩ = some (.int .i64 ((rowsAt F s1).length : Int))) := Lib.hid fun Q h => by
        have h1 := (HF1.out.below h).2 i hlt
        rw [hSr2, ← hf] at h1
        have := IsVals.c1 (r := [(1, ((rowsAt F s1).length : Int), ⟨#[]⟩)]) (c := cr) h1 0 (Nat.zero_lt_succ _)
        simp only [Nat.zero_mul, Nat.add_zero] at this
        exact this
      have hle := HMs.out.le s1
      obtain ⟨X1, hX1⟩ : ∃ Y, Y = X.alloc (.cells #[.slice (some ⟨br, ofr, none⟩) 1 cr, .int .i64 s1, .int .i64 s2] 49) := ⟨_, rfl⟩
      have hbX : Below X.heap.size X X1 := by rw [hX1]; exact (Below.refl _ _).alloc (Nat.le_refl _) _
      have hbx : X1.heap[X.heap.size]? = some (.cells #[.slice (some ⟨br, ofr, none⟩) 1 cr, .int .i64 s1, .int .i64 s2] 49 (0, 0)) := by rw [hX1]; exact heap_alloc_new X _
      have hxl := blk_lt hbx
      have hX1s : X1.heap.size = X.heap.size + 1 := by rw [hX1]; simp
      have hBX1 := HB.out.trans (hbX.mono HB.out.size)
      have n1 := HN1.out X1 hBX1
      have n0 := HN1.out X HB.out
      have HO1 := Lib.hid (own_below HO.out hbX (Nat.le_refl _))
      have Hlt := Lib.hid hlt; have Hnl := Lib.hid hnl
      have HX1 := Lib.hid hX1; have HBX1 := Lib.hid hBX1; have HBk := Lib.hid hbx; have HX1s := Lib.hid hX1s
      have HOb : Hid (∀ g, Value.ownBlock (.slice Ao nl co) = some g → g < X.heap.size) := Lib.hid fun g hg => (World.ownsRow.lt HO.out g hg).2
      have HTy := Lib.hid hty; have HTn := Lib.hid htn
      have d1 : decide (((rowsAt F s1).length : Int) < 1) = false := decide_eq_false (by omega)
      have d2 : decide ((n : Int) < ((rowsAt F s1).length : Int)) = false := decide_eq_false (by omega)
      have d1n : decide ((rowsAt F s1).length < 1) = false := decide_eq_false (by omega)
      have d2n : decide (n < (rowsAt F s1).length) = false := decide_eq_false (by omega)
      clear hX1 hbX hbx hBX1 hX1s hf hvr hin hSr hSr2 hcp hle hty htn c0 hlr hnl hxl hlt
      by_cases hcn : ((rowsAt F s1).length : Int) = (n : Int)
      · have g1 : (((rowsAt F s1).length : Int) == (n : Int)) = true := by rw [hcn]; simp
        have Hcn := Lib.hid hcn
        have HTop := Lib.hid (HTy.out hcn)
        have hown1 := HO1.out
        rw [← Hnl.out] at hown1
        have hown1e := hown1
        rw [HX1.out] at hown1e
        have hsz1e := HBX1.out.size
        rw [HX1.out] at hsz1e
        have hnl9 : nl < 900000000 := by rw [Hnl.out]; have := topS_len A1 n i; have := HA1l.out; omega
        clear hcn hown1
        go_wp2_with (at_builtin; refine append1 tSpans tSpanInfo rfl (by omega) (by omega) rfl _ _ (by rfl) W7.heap.size _ nl (flat (topS A1 n i)) [.int .i64 s1, .int .i64 s2] (by rfl) hown1e (by rfl) (by simp) (by rfl) rfl (by simp [Value.oneCell']) hnl9 hsz1e ?_; intro v8 P hown8 hb8 hbk8 _; rw [← HX1.out] at hb8; have hp0 := hbk8 X.heap.size (by rw [← HX1.out, HX1s.out]; omega) (fun e => absurd (HOb.out _ e) (Nat.lt_irrefl _)); rw [← HX1.out, HBk.out] at hp0; have p0 := blk_get hp0 0; have p1 := blk_get hp0 1; simp at p0 p1)
        have HXP : Hid (P.cell? ⟨X.heap.size, 0, none⟩ = some (.slice (some ⟨br, ofr, none⟩) 1 cr)) := Lib.hid p0
        have HXl : Hid (X.heap.size < P.heap.size) := Lib.hid (blk_lt hp0)
        have HBP := Lib.hid (HBX1.out.trans hb8)
        have HOP : Hid (P.ownsRow W7.heap.size 34 2 v8 (topS A1 n (i + 1)).length (flat (topS A1 n (i + 1)))) := Lib.hid (by
          rw [HTop.out, flat_snoc, List.length_append, ← Hnl.out]
          exact hown8)
        clear hown8 hb8 hbk8 hp0 p0 p1 hown1e hsz1e hnl9 g1 n0 n1 c0' c1 c2
        refine (KB.out P s1 HBP.out).mono ?_
        rintro e P1 ⟨o2, rfl, ⟨S2, hR2⟩, hb2⟩
        obtain ⟨Ar2, cr2, rfl, hlr2, hcr2⟩ := hR2.form
        have HBP1 := Lib.hid (HBP.out.trans (hb2.mono HBP.out.size))
        have HOP1 := Lib.hid (own_below HOP.out hb2 (Nat.le_refl _))
        have HX1 : Hid (∀ Q, Below P1.heap.size P1 Q → Q.cell? ⟨X.heap.size, 0, none⟩ = some (.slice (some ⟨br, ofr, none⟩) 1 cr)) := Lib.hid fun Q h => ((hb2.trans (h.mono hb2.size)).cell (p := ⟨X.heap.size, 0, none⟩) HXl.out).trans HXP.out
        have HCk := Lib.hid (cnt_ok HA2.out s1)
        have HR2 := Lib.hid hR2
        have hRm : (rowsAt F s1).length ≤ 1000 := by have := HRm.out s1; omega
        have HRm1 := Lib.hid hRm
        clear hb2 hR2 hRm
        generalize rowsAt F s1 = R at *
        generalize rowsAt A2 s1 = R2 at *
        go_wp2_with fail
        try go_frame
        go_loopw [15, 113] (fun m i Q => ∃ q : Nat, m = .int .i64 (sumC k R ((keysC R2).take q) : Int) ∧ i = .int .i64 (q : Int) ∧ q ≤ R2.length ∧ Hid (Below P1.heap.size P1 Q)) (fun _ i _ => R2.length - (intOf i).toNat)
        case atStart => exact ⟨0, by simp [sumC], rfl, Nat.zero_le _, Lib.hid (Below.refl _ _)⟩
        case round =>
          obtain ⟨q, rfl, rfl, hq, HBQ⟩ := hrel
          rename World => Q
          by_cases hlq : q < R2.length
          · obtain ⟨ba, ofa, rfl, hba⟩ := HR2.out.addr (by omega)
            have hin := HR2.out.below HBQ.out
            have a0 := hin.cell q hlq
            have hvr := hin.2 q hlq
            obtain ⟨k0, hx⟩ := HCk.out.row _ (vr_mem hlq)
            have hnx := sumC_next (c := k) (R := R) hlq
            have hle := sumC_le HCk.out (q + 1)
            rw [hx] at hvr hnx
            have hk00 : va [k0, (1, ((keyC k R k0).length : Int), ⟨#[]⟩)] 0 = k0 := rfl
            rw [hk00] at hnx
            obtain ⟨Aw, cw, hSw, hlw, hcw⟩ := hvr.form
            have hSw2 : S2 q = .slice Aw 2 cw := hSw
            rw [hSw2] at a0 hvr
            obtain ⟨bw, ow, rfl, hbw⟩ := IsVals.addr (A := Aw) (c := cw) (r := [k0, (1, ((keyC k R k0).length : Int), ⟨#[]⟩)]) hvr (Nat.zero_lt_succ _)
            have w1 := IsVals.c1 (r := [k0, (1, ((keyC k R k0).length : Int), ⟨#[]⟩)]) (c := cw) hvr 1 (Nat.succ_lt_succ (Nat.zero_lt_succ _))
            have hv1 : (va [k0, (1, ((keyC k R k0).length : Int), ⟨#[]⟩)] 1).2.1 = ((keyC k R k0).length : Int) := rfl
            rw [hv1] at w1
            simp only [Nat.one_mul] at w1
            generalize (keyC k R k0).length = nk at *
            have hwr : IntKind.i64.wrap ((sumC k R ((keysC R2).take q) : Int) + (nk : Int)) = (sumC k R ((keysC R2).take q) : Int) + (nk : Int) := IntWalk.i64_in _ (by have := HRm1.out; omega)
            have Hlq := Lib.hid hlq; have Hnx := Lib.hid hnx
            clear hvr hin hx hSw hSw2 hk00 hlw hbw hle hnx hv1
            go_wp2_with fail
            go_roundw
            case rel => exact ⟨q + 1, by rw [Hnx.out]; go_num, by go_num, Hlq.out, HBQ⟩
            case measure => have := Hlq.out; simp [intOf]; omega
          · obtain rfl : q = R2.length := by omega
            have hsum : sumC k R ((keysC R2).take R2.length) = R.length := by rw [keysC_all]; exact HCk.out.sum
            rw [hsum]
            have g0 : ((R.length : Int) != (R.length : Int)) = false := by simp
            have xq := HX1.out Q HBQ.out
            have hBW := HBP1.out.trans (HBQ.out.mono HBP1.out.size)
            have zq := HN1.out Q hBW
            have HO' := Lib.hid (own_below HOP1.out HBQ.out (Nat.le_refl _))
            have HBW := Lib.hid hBW
            clear hsum hBW
            go_wp2_with fail
            go_roundw
            case rel => exact ⟨i + 1, by go_num, Hlt.out, HO', HBW⟩
            case measure => have := Hlt.out; simp [intOf]; omega
      · have g1 : (((rowsAt F s1).length : Int) == (n : Int)) = false := by rw [beq_eq_false_iff_ne]; exact hcn
        have HTop := Lib.hid (HTn.out hcn)
        have x0 := blk_get HBk.out 0
        simp at x0
        have HXP : Hid (X1.cell? ⟨X.heap.size, 0, none⟩ = some (.slice (some ⟨br, ofr, none⟩) 1 cr)) := Lib.hid x0
        have HXl : Hid (X.heap.size < X1.heap.size) := Lib.hid (blk_lt HBk.out)
        have HBP := HBX1
        have HOP : Hid (X1.ownsRow W7.heap.size 34 2 (.slice Ao nl co) (topS A1 n (i + 1)).length (flat (topS A1 n (i + 1)))) := Lib.hid (by rw [HTop.out]; exact HO1.out)
        clear hcn x0
        go_wp2_with fail
        rw [← HX1.out]
        clear g1 n0 n1 c0' c1 c2
        refine (KB.out X1 s1 HBP.out).mono ?_
        rintro e P1 ⟨o2, rfl, ⟨S2, hR2⟩, hb2⟩
        obtain ⟨Ar2, cr2, rfl, hlr2, hcr2⟩ := hR2.form
        have HBP1 := Lib.hid (HBP.out.trans (hb2.mono HBP.out.size))
        have HOP1 := Lib.hid (own_below HOP.out hb2 (Nat.le_refl _))
        have HX1 : Hid (∀ Q, Below P1.heap.size P1 Q → Q.cell? ⟨X.heap.size, 0, none⟩ = some (.slice (some ⟨br, ofr, none⟩) 1 cr)) := Lib.hid fun Q h => ((hb2.trans (h.mono hb2.size)).cell (p := ⟨X.heap.size, 0, none⟩) HXl.out).trans HXP.out
        have HCk := Lib.hid (cnt_ok HA2.out s1)
        have HR2 := Lib.hid hR2
        have hRm : (rowsAt F s1).length ≤ 1000 := by have := HRm.out s1; omega
        have HRm1 := Lib.hid hRm
        clear hb2 hR2 hRm
        generalize rowsAt F s1 = R at *
        generalize rowsAt A2 s1 = R2 at *
        go_wp2_with fail
        try go_frame
        go_loopw [15, 113] (fun m i Q => ∃ q : Nat, m = .int .i64 (sumC k R ((keysC R2).take q) : Int) ∧ i = .int .i64 (q : Int) ∧ q ≤ R2.length ∧ Hid (Below P1.heap.size P1 Q)) (fun _ i _ => R2.length - (intOf i).toNat)
        case atStart => exact ⟨0, by simp [sumC], rfl, Nat.zero_le _, Lib.hid (Below.refl _ _)⟩
        case round =>
          obtain ⟨q, rfl, rfl, hq, HBQ⟩ := hrel
          rename World => Q
          by_cases hlq : q < R2.length
          · obtain ⟨ba, ofa, rfl, hba⟩ := HR2.out.addr (by omega)
            have hin := HR2.out.below HBQ.out
            have a0 := hin.cell q hlq
            have hvr := hin.2 q hlq
            obtain ⟨k0, hx⟩ := HCk.out.row _ (vr_mem hlq)
            have hnx := sumC_next (c := k) (R := R) hlq
            have hle := sumC_le HCk.out (q + 1)
            rw [hx] at hvr hnx
            have hk00 : va [k0, (1, ((keyC k R k0).length : Int), ⟨#[]⟩)] 0 = k0 := rfl
            rw [hk00] at hnx
            obtain ⟨Aw, cw, hSw, hlw, hcw⟩ := hvr.form
            have hSw2 : S2 q = .slice Aw 2 cw := hSw
            rw [hSw2] at a0 hvr
            obtain ⟨bw, ow, rfl, hbw⟩ := IsVals.addr (A := Aw) (c := cw) (r := [k0, (1, ((keyC k R k0).length : Int), ⟨#[]⟩)]) hvr (Nat.zero_lt_succ _)
            have w1 := IsVals.c1 (r := [k0, (1, ((keyC k R k0).length : Int), ⟨#[]⟩)]) (c := cw) hvr 1 (Nat.succ_lt_succ (Nat.zero_lt_succ _))
            have hv1 : (va [k0, (1, ((keyC k R k0).length : Int), ⟨#[]⟩)] 1).2.1 = ((keyC k R k0).length : Int) := rfl
            rw [hv1] at w1
            simp only [Nat.one_mul] at w1
            generalize (keyC k R k0).length = nk at *
            have hwr : IntKind.i64.wrap ((sumC k R ((keysC R2).take q) : Int) + (nk : Int)) = (sumC k R ((keysC R2).take q) : Int) + (nk : Int) := IntWalk.i64_in _ (by have := HRm1.out; omega)
            have Hlq := Lib.hid hlq; have Hnx := Lib.hid hnx
            clear hvr hin hx hSw hSw2 hk00 hlw hbw hle hnx hv1
            go_wp2_with fail
            go_roundw
            case rel => exact ⟨q + 1, by rw [Hnx.out]; go_num, by go_num, Hlq.out, HBQ⟩
            case measure => have := Hlq.out; simp [intOf]; omega
          · obtain rfl : q = R2.length := by omega
            have hsum : sumC k R ((keysC R2).take R2.length) = R.length := by rw [keysC_all]; exact HCk.out.sum
            rw [hsum]
            have g0 : ((R.length : Int) != (R.length : Int)) = false := by simp
            have xq := HX1.out Q HBQ.out
            have hBW := HBP1.out.trans (HBQ.out.mono HBP1.out.size)
            have zq := HN1.out Q hBW
            have HO' := Lib.hid (own_below HOP1.out HBQ.out (Nat.le_refl _))
            have HBW := Lib.hid hBW
            clear hsum hBW
            go_wp2_with fail
            go_roundw
            case rel => exact ⟨i + 1, by go_num, Hlt.out, HO', HBW⟩
            case measure => have := Hlt.out; simp [intOf]; omega
    · obtain rfl : i = A1.length := by omega
      have Hnl := Lib.hid hnl
      clear hnl
      have K := Lib.hid (slEqualSpan_c (.slice Ao nl co) (.slice A5 L.length k5) (topS A1 n A1.length) L X (spans_of_own HO.out) (RowsIn.below HL7.out HB.out))
      have hsl : sameL (topS A1 n A1.length) L = true := by rw [steps_top HA1.out HMs.out]; exact (sameL_iff _ _).2 rfl
      rw [hsl] at K
      clear hsl
      go_wp2_with fail
      refine K.out.mono ?_
      rintro e Z ⟨rfl, hbz⟩
      go_wp2_with fail
      go_ret
      exact ⟨rfl, HW7.out.trans ((HB.out.trans (hbz.mono HB.out.size)).mono HW7.out.size)⟩

set_option maxRecDepth 100000 in
theorem law39Steps_lifted (os : Os) (started : os.Started) (H : Type) (enc : TypeId × Value → H) :
    ReturnsInHanded {} Tryz.checked os 6 .any (Rows.aggregateStepsSpec.pre6 enc Tryz.prog Tryz.f6 Rows.aggregateStepsRow.domain false) (Rows.aggregateStepsSpec.post enc Tryz.prog Tryz.f6 false true false false) := by
  refine returnsInHanded_of_change (C := Tryz.checked) Tryz.own started (by kernel_rfl) Tryz.func6
    (ChangeSpec.witness6 (enc := enc) (C := Tryz.checked) false ⟨#[], #[.slice none 0 0, .int .u8 0], []⟩ 8 (by kernel_rfl) (by kernel_rfl) (by kernel_rfl) (by kernel_rfl)) ?_
  intro W base args ds gs before hval0 hW hcnd _
  have hval : ∀ (j : Nat) t v, Tryz.f6.params[j]? = some t → args[j]? = some v → Value.okWide Tryz.prog W .any base t v := hval0
  have hW' := hW
  obtain ⟨p, q, hA0, hV, rfl, hfz, hnd⟩ := hW
  have hA : DataW.TrodAll enc Tryz.prog W 0 (fun _ => true) true Tryz.f6.params.toList args.toList ds p := hA0
  have hA1 := hA0
  rw [Tryz.params6] at hA hval
  obtain ⟨v0, v1, d0, d1, p0, p1, rfl, rfl, hp, h0, h1⟩ := trodAll_two hA
  obtain ⟨rfl, rfl⟩ := trodVars_none hV
  obtain ⟨l, g0, m0⟩ := open_facts (hval 0 22 v0 rfl rfl) h0
  obtain ⟨key, rfl, rfl, rfl, g1⟩ := open_int Tryz.underlying5 (hval 1 5 v1 rfl rfl) h1
  clear hA0 hval0
  have hlt : ∀ x ∈ p, x.block < W.heap.size := fun x hx => hW'.lt x (by simp [hx])
  refine (law39Steps_c v0 l key W g0 m0 (wfu8_39 g1)).mono fun e W' ⟨he, hg⟩ => ?_
  subst he
  exact ⟨_, rfl, post_of_below (pa := p) (pv := []) hW' (fun _ _ _ => trodAll_mk1 (shut_bool Tryz.underlying4 _))
    (fun sp hsp => trodAll_keep Tryz.laidOut hg (by kernel_rfl) hA1 hlt (fun x hx => hsp x (by simp [hx])))
    (fun _ _ => rfl) rfl hg (ok_one (by kernel_rfl) rfl (okWide_bool_mk Tryz.underlying4 _))⟩

theorem law39Steps_holds : Rows.AggregateStepsSaid :=
  OpenClaim.holds_of_wide 6 Tryz.f6 rfl rfl rfl rfl rfl rfl rfl ⟨rfl, rfl, rfl, rfl, rfl⟩ rfl rfl rfl rfl rfl (by kernel_rfl) Tryz.func6 (by kernel_rfl)
    (of_decide_eq_true (by kernel_rfl)) (by unfold Func.isWrapper; first | (rw [if_pos (by decide +kernel)]; kernel_rfl) | (rw [if_neg (by decide +kernel)]; exact ⟨rfl, rfl⟩))
    (fun os started H enc _ => law39Steps_lifted os started H enc)
#print axioms law39Steps_holds
end Go.Proofs.YtohjgegnamcnlaaGreat
