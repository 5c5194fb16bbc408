/- AggregateForm: results are normal: ascending lists of values with canonical runs each; the order of the facts, and how one of them is divided, does not matter. -/
import Derived.Deep.RegionHeld3
import Derived.Deep.DeepCutAuto
import Derived.Deep.CutRange
import Derived.Test.YtohjgegnamcnlaaRows
import Derived.Test.YtohjgegnamcnlaaAiD
import Derived.Test.YtohjgegnamcnlaaAhv
import Derived.Test.YtohjgegnamcnlaaAhx
import Derived.Test.YtohjgegnamcnlaaAiC
namespace Go.Proofs.Ytohjgegnamcnlaa
open Go.RowKit Go.Shelf Go.ChangeShapes Go.WideShapes Go.ChangeAt

theorem form_few {F : List Fct} (h : fewF F = true) : F.length ≤ 16 := by
  unfold fewF at h
  simp only [Bool.and_eq_true, decide_eq_true_eq] at h
  exact h.1
set_option maxRecDepth 100000 in
set_option maxHeartbeats 16000000 in
theorem law39Form_c (v vk : Value) (F : List Fct) (ks : List Int) (fn col cut : Int) (W : World) (hs : IsFs W v F) (hk : IsInts W vk ks) (hm : MachF F) : Calls Try.prog 7 #[v, vk, .int .i64 fn, .int .i64 col, .int .i64 cut] W (Ret W (.bool true)) := by
  have KF : Hid (∀ X, Below W.heap.size W X → Calls Try.prog 9 #[v] X (Ret X (.bool (fewF F)))) := Lib.hid fun X h => few39_c v F X (hs.below h)
  have KV : Hid (∀ X, Below W.heap.size W X → Calls Try.prog 10 #[v] X (Ret X (.bool (validF F)))) := Lib.hid fun X h => r39Valid_c v F X (hs.below h)
  have KG : Hid (F.length < 1000000000 → ∀ X, Below W.heap.size W X → Calls Try.prog 11 #[v, vk, .int .i64 fn, .int .i64 col] X (GroupRet F ks fn col X)) := Lib.hid fun hn X h => aGroup_c v vk F ks fn col X (hs.below h) (hk.below h) hm hn
  have KT : Hid (F.length < 1000000000 → ∀ X, Below W.heap.size W X → Calls Try.prog 26 #[v, .int .i64 col] X (TopRet F col X)) := Lib.hid fun hn X h => aTop_c v F col X (hs.below h) hm hn
  have KT2 : Hid (∀ X v2 F2, Below W.heap.size W X → IsFs X v2 F2 → MachF F2 → F2.length < 1000000000 → Calls Try.prog 26 #[v2, .int .i64 col] X (TopRet F2 col X)) := Lib.hid fun X v2 F2 h h2 hm2 hn => aTop_c v2 F2 col X h2 hm2 hn
  have KG2 : Hid (∀ X v2 F2, Below W.heap.size W X → IsFs X v2 F2 → MachF F2 → F2.length < 1000000000 → Calls Try.prog 11 #[v2, vk, .int .i64 fn, .int .i64 col] X (GroupRet F2 ks fn col X)) := Lib.hid fun X v2 F2 h h2 hm2 hn => aGroup_c v2 vk F2 ks fn col X h2 (hk.below h) hm2 hn
  obtain ⟨S, hs⟩ := hs
  have KCl : Hid (F.length ≤ 100000 → ∀ X, Below W.heap.size W X → Calls Try.prog 29 #[v] X (CloneFRet F S X)) := Lib.hid fun hn X h => slCloneFact_c v F S X (hs.below h) hn
  obtain ⟨A, cc, rfl, hnc, hcc⟩ := hs.form
  obtain ⟨Ak, ck, rfl, hnk, hck⟩ := hk.form
  have KA := Lib.hid (awake39_c W)
  have Hm := Lib.hid hm; have HS := Lib.hid hs
  clear hm hk hs
  go_enter Try.func7, Try.ntmps7
  go_wp2_with fail
  refine KA.out.mono ?_
  rintro e W1 ⟨rfl, hb1⟩
  go_wp2_with fail
  refine (KF.out W1 hb1).mono ?_
  rintro e W2 ⟨rfl, hb2⟩
  have hw2 := hb1.trans (hb2.mono hb1.size)
  clear hb1 hb2
  cases q1 : fewF F
  · go_wp2_with fail
    go_ret
    exact ⟨rfl, hw2⟩
  have Q1 := Lib.hid q1
  clear q1
  cases q2 : decide ((F.length : Int) < 1)
  rotate_left
  · go_wp2_with fail
    go_ret
    exact ⟨rfl, hw2⟩
  have Q2 := Lib.hid q2
  cases q4 : decide ((15 : Int) < (F.length : Int))
  rotate_left
  · go_wp2_with fail
    go_ret
    exact ⟨rfl, hw2⟩
  have Q4 := Lib.hid q4
  go_wp2_with fail
  refine (KV.out W2 hw2).mono ?_
  rintro e W3 ⟨rfl, hb3⟩
  have hw3 := hw2.trans (hb3.mono hw2.size)
  clear hb3 hw2
  cases q3 : validF F
  · go_wp2_with fail
    go_ret
    exact ⟨rfl, hw3⟩
  have Q3 := Lib.hid q3
  clear q3
  cases q5 : decide ((10 : Int) < (ks.length : Int))
  rotate_left
  · go_wp2_with fail
    go_ret
    exact ⟨rfl, hw3⟩
  have hn1 : 1 ≤ F.length := by have := of_decide_eq_false q2; omega
  have hn2 : 0 < F.length := hn1
  have h15 : F.length ≤ 15 := by have := of_decide_eq_false q4; omega
  have HSame := Lib.hid (other_same hn2 h15 Q3.out cut)
  have HMo := Lib.hid (other_mach hn2 (cut := cut) Hm.out)
  have HOl := Lib.hid (other_len hn2 cut)
  have hrl : ∀ f ∈ F, 0 < f.1.length := fun f hf => ((valid_rows Q3.out).2 f hf).1.1
  have Hrl := Lib.hid hrl
  clear hrl
  go_wp2_with fail
  refine (KCl.out (by omega) W3 hw3).mono ?_
  rintro e W4 ⟨vc, rfl, hown, hb4⟩
  have hfx := clone_own hown (fun i hi => (HS.out.below hw3).2 i hi) Hrl.out hb4
  have KR := Lib.hid (slReverseFact_c vc (fxL F S) W4 W3.heap.size hfx (by rw [fxL_len]; omega))
  obtain ⟨Ac, cpc, hfc⟩ := hfx.form
  rw [fxL_len] at hfc
  subst hfc
  clear hown hfx
  go_wp2_with fail
  refine KR.out.mono ?_
  rintro e W5 ⟨rfl, hfx5, hb5⟩
  have hw5 := hw3.trans ((hb4.trans hb5).mono hw3.size)
  obtain ⟨x0, G1, hG⟩ : ∃ x G, (fxL F S).reverse = x :: G := by
    cases h : (fxL F S).reverse with
    | nil =>
      have := congrArg List.length h
      rw [List.length_reverse, fxL_len] at this
      simp only [List.length_nil] at this
      omega
    | cons x G => exact ⟨x, G, rfl⟩
  have hGl : G1.length + 1 = F.length := by
    have := congrArg List.length hG
    rw [List.length_reverse, fxL_len] at this
    simpa using this.symm
  have hmap : (x0 :: G1).map (·.2) = F.reverse := by rw [← hG, List.map_reverse, fxL_map]
  rw [hG] at hfx5
  obtain ⟨g, cap, hgc, hg1, hg2, hg3, hg4⟩ := own_formG hfx5.own (Nat.zero_lt_succ _)
  injection hgc with hgA hgn hgcap
  subst hgA hgcap
  have hcel := World.ownsRow.cells hfx5.own (g := g) rfl
  have hx0 := hfx5.row x0 (List.mem_cons_self ..)
  obtain ⟨⟨vx, ⟨rx, sx1, sx2⟩⟩, hx0e⟩ : ∃ x, x = x0 := ⟨_, rfl⟩
  rw [← hx0e] at hx0 hcel
  obtain ⟨Ax, cx, hvx, hlx, hcx⟩ := hx0.1.form
  simp only at hvx
  subst hvx
  have c0 : W5.cell? ⟨g, 0, none⟩ = some (.slice Ax rx.length cx) := by
    have := hcel 0 (.slice Ax rx.length cx) rfl
    rw [Addr.add_lit] at this
    exact this
  have c1 : W5.cell? ⟨g, 1, none⟩ = some (.int .i64 sx1) := by
    have := hcel 1 (.int .i64 sx1) rfl
    rw [Addr.add_lit] at this
    exact this
  have c2 : W5.cell? ⟨g, 2, none⟩ = some (.int .i64 sx2) := by
    have := hcel 2 (.int .i64 sx2) rfl
    rw [Addr.add_lit] at this
    exact this
  have HFx := Lib.hid hfx5; have HG := Lib.hid hG; have HMap := Lib.hid hmap; have HX0 := Lib.hid hx0; have HXe := Lib.hid hx0e
  have HGl := Lib.hid hGl
  clear hfx5 hG hmap hx0 hx0e hcel hgn hGl
  go_upto_region 7 with fail
  have kb : Below W5.heap.size W5 W5 := Below.refl _ _
  have FB : Hid (∀ Q, Below W5.heap.size W5 Q → Q.cell? ⟨g, 0, none⟩ = some (.slice Ax rx.length cx) ∧ Q.cell? ⟨g, 1, none⟩ = some (.int .i64 sx1) ∧ Q.cell? ⟨g, 2, none⟩ = some (.int .i64 sx2)) := Lib.hid fun Q h => ⟨(h.cell (p := ⟨g, 0, none⟩) hg2).trans c0, (h.cell (p := ⟨g, 1, none⟩) hg2).trans c1, (h.cell (p := ⟨g, 2, none⟩) hg2).trans c2⟩
  have hL6 : ((W5.alloc (.cells #[.slice Ax rx.length cx, .int .i64 sx1, .int .i64 sx2] 29)).alloc (.cells #[.slice Ax rx.length cx, .int .i64 sx1, .int .i64 sx2] 29)).drew.heap[W5.heap.size]? = some (.cells #[.slice Ax rx.length cx, .int .i64 sx1, .int .i64 sx2] 29 (0, 0)) :=
    (((Below.refl (W5.heap.size + 1) (W5.alloc (.cells #[.slice Ax rx.length cx, .int .i64 sx1, .int .i64 sx2] 29))).alloc (by simp) (.cells #[.slice Ax rx.length cx, .int .i64 sx1, .int .i64 sx2] 29)).block W5.heap.size (by omega)).trans (heap_alloc_new W5 _)
  have hH6 : ((W5.alloc (.cells #[.slice Ax rx.length cx, .int .i64 sx1, .int .i64 sx2] 29)).alloc (.cells #[.slice Ax rx.length cx, .int .i64 sx1, .int .i64 sx2] 29)).drew.heap[W5.heap.size + 1]? = some (.cells #[.slice Ax rx.length cx, .int .i64 sx1, .int .i64 sx2] 29 (0, 0)) := by
    have := heap_alloc_new (W5.alloc (.cells #[.slice Ax rx.length cx, .int .i64 sx1, .int .i64 sx2] 29)) (.cells #[.slice Ax rx.length cx, .int .i64 sx1, .int .i64 sx2] 29)
    rw [show (W5.alloc (.cells #[.slice Ax rx.length cx, .int .i64 sx1, .int .i64 sx2] 29)).heap.size = W5.heap.size + 1 by simp] at this
    exact this
  have hB6 : Below W5.heap.size W5 ((W5.alloc (.cells #[.slice Ax rx.length cx, .int .i64 sx1, .int .i64 sx2] 29)).alloc (.cells #[.slice Ax rx.length cx, .int .i64 sx1, .int .i64 sx2] 29)).drew := ((kb.alloc kb.size _).alloc (by simp) _).drew
  have HL6 := Lib.hid hL6; have HH6 := Lib.hid hH6; have HB6 := Lib.hid hB6
  clear hL6 hH6 hB6
  go_cut [12, 13] (fun s12 s13 wx => ∃ b12 b13 : Nat, s12 = .pointer (some ⟨b12, 0, none⟩) ∧ s13 = .pointer (some ⟨b13, 0, none⟩) ∧ b12 ≠ b13 ∧ W5.heap.size ≤ b12 ∧ W5.heap.size ≤ b13 ∧ Hid (wx.heap[b12]? = some (.cells #[.slice Ax rx.length cx, .int .i64 sx1, .int .i64 sx2] 29 (0, 0))) ∧ Hid (wx.heap[b13]? = some (.cells #[.slice Ax rx.length cx, .int .i64 sx1, .int .i64 sx2] 29 (0, 0))) ∧ Hid (Below W5.heap.size W5 wx))
  case first =>
    go_region_held3 (fun Q => Q.cell? ⟨g, 0, none⟩ = some (.slice Ax rx.length cx) ∧ Q.cell? ⟨g, 1, none⟩ = some (.int .i64 sx1) ∧ Q.cell? ⟨g, 2, none⟩ = some (.int .i64 sx2)) ((first | exact FB.out _ kb | exact FB.out _ kb.drew | exact FB.out _ (kb.drew.alloc kb.drew.size _) | exact FB.out _ (kb.alloc kb.size _) | exact FB.out _ ((kb.alloc kb.size _).alloc (by simp) _) | exact FB.out _ ((kb.drew.alloc kb.size _).alloc (by simp) _))) (fail)
    all_goals
      go_wp2_with fail
      go_meet
      first
        | exact ⟨W5.heap.size, W5.heap.size + 1, rfl, rfl, by omega, by omega, by omega, HL6, HH6, HB6⟩
        | exact ⟨W5.heap.size + 1, W5.heap.size, rfl, rfl, by omega, by omega, by omega, HH6, HL6, HB6⟩
  case rest =>
    obtain ⟨b12, b13, rfl, rfl, hne, h12, h13, H12, H13, HB7⟩ := hcut
    clear HL6 HH6 HB6 kb FB c0 c1 c2
    rename World => W6
    have y1 := blk_get H12.out 1
    have y2 := blk_get H12.out 2
    simp at y1 y2
    have hb12 := blk_lt H12.out
    have hb13 := blk_lt H13.out
    go_upto_region 9 with fail
    go_cut [74] (fun s74 wx => s74 = .bool (decide (sx1 < cut) && decide (cut < sx2)) ∧ wx = W6.alloc (.cells #[.int .i64 sx1, .int .i64 sx2] 27))
    case first =>
      cases q7 : decide (sx1 < cut) <;> cases q8 : decide (cut < sx2)
      all_goals
        go_wp2_with fail
        go_meet
        exact ⟨by rw [q7, q8]; rfl, rfl⟩
    case rest =>
      obtain ⟨rfl, hw7⟩ := hcut
      rename World => W7
      have hb67 : Below W6.heap.size W6 W7 := by rw [hw7]; exact (Below.refl _ _).alloc (Nat.le_refl _) _
      have h12' := (hb67.block _ hb12).trans H12.out
      have h13' := (hb67.block _ hb13).trans H13.out
      have HB8 := Lib.hid (HB7.out.trans (hb67.mono HB7.out.size))
      clear hw7 hb67 H12 H13 HB7 y1 y2 hb12 hb13
      have x1 := blk_get h12' 2
      have f1 := blk_soft h12' 2
      have h13s := (blk_oth (W := W7) (b := b12) (k := b13) (Ne.symm hne) 2 (.int .i64 cut)).trans h13'
      have x2 := blk_get h13s 1
      have f2 := blk_soft h13s 1
      simp at x1 x2
      have r13 := blk_set h13s 1 (.int .i64 cut)
      have r12 := (blk_oth (W := W7.setCell ⟨b12, 2, none⟩ (.int .i64 cut)) (b := b13) (k := b12) hne 1 (.int .i64 cut)).trans (blk_set h12' 2 (.int .i64 cut))
      have rb := (HB8.out.setCell (p := ⟨b12, 2, none⟩) h12 (.int .i64 cut)).setCell (p := ⟨b13, 1, none⟩) h13 (.int .i64 cut)
      have R12 := Lib.hid r12; have R13 := Lib.hid r13; have RB := Lib.hid rb; have H12 := Lib.hid h12'; have H13 := Lib.hid h13'
      obtain ⟨f0, hf0⟩ : ∃ f : Fct, f = (rx, (sx1, sx2)) := ⟨_, rfl⟩
      have HF0 := Lib.hid hf0
      clear r12 r13 rb h12' h13' h13s hf0
      go_upto_if 74 with fail
      go_cut [] (fun wx => Hid (wx.heap[b12]? = some (.cells #[.slice Ax rx.length cx, .int .i64 (cutA f0 cut).2.1, .int .i64 (cutA f0 cut).2.2] 29 (0, 0))) ∧ Hid (wx.heap[b13]? = some (.cells #[.slice Ax rx.length cx, .int .i64 (cutB f0 cut).2.1, .int .i64 (cutB f0 cut).2.2] 29 (0, 0))) ∧ Hid (Below W5.heap.size W5 wx))
      case first =>
        by_cases hc : sx1 < cut ∧ cut < sx2
        · have hc1 := hc.1
          have hc2 := hc.2
          have hA : cutA f0 cut = (rx, (sx1, cut)) := by rw [HF0.out]; unfold cutA; rw [if_pos hc]
          have hB : cutB f0 cut = (rx, (cut, sx2)) := by rw [HF0.out]; unfold cutB; rw [if_pos hc]
          have HA := Lib.hid hA; have HB := Lib.hid hB; have Hc := Lib.hid hc
          clear hA hB hc
          go_wp2_with fail
          go_meet
          exact ⟨Lib.hid (by rw [HA.out]; exact R12.out), Lib.hid (by rw [HB.out]; exact R13.out), RB⟩
        · have hA : cutA f0 cut = (rx, (sx1, sx2)) := by rw [HF0.out]; unfold cutA; rw [if_neg hc]
          have hB : cutB f0 cut = (rx, (sx1, sx2)) := by rw [HF0.out]; unfold cutB; rw [if_neg hc]
          have HA := Lib.hid hA; have HB := Lib.hid hB
          have hc' : (decide (sx1 < cut) && decide (cut < sx2)) = false := by
            rw [Bool.and_eq_false_iff]
            by_cases h1 : sx1 < cut
            · exact .inr (decide_eq_false fun h2 => hc ⟨h1, h2⟩)
            · exact .inl (decide_eq_false h1)
          clear hA hB
          rw [hc']
          go_wp2_with fail
          go_meet
          exact ⟨Lib.hid (by rw [HA.out]; exact H12.out), Lib.hid (by rw [HB.out]; exact H13.out), HB8⟩
      case rest =>
        obtain ⟨C12, C13, HB9⟩ := hcut
        rename World => W8
        clear R12 R13 RB H12 H13 HB8 x1 f1 x2 f2
        have hrow := cut_row f0 cut
        have hf0r : f0.1 = rx := by rw [HF0.out]
        rw [hf0r] at hrow
        obtain ⟨⟨ra, ⟨a1, a2⟩⟩, hfa⟩ : ∃ f, f = cutA f0 cut := ⟨_, rfl⟩
        obtain ⟨⟨rb, ⟨c1, c2⟩⟩, hfb⟩ : ∃ f, f = cutB f0 cut := ⟨_, rfl⟩
        rw [← hfa] at C12 hrow
        rw [← hfb] at C13 hrow
        simp only at C12 C13 hrow
        obtain ⟨rfl, rfl⟩ := hrow
        have hx0f : x0.2 = f0 := by rw [← HXe.out, HF0.out]
        have hrevD : F.reverse.drop 1 = G1.map (·.2) := by rw [← HMap.out]; rfl
        have hrev0 : fc F.reverse 0 = f0 := by rw [← HMap.out, ← hx0f]; rfl
        have HOt : Hid ((G1 ++ [(Value.slice Ax rb.length cx, (rb, (c1, c2))), (Value.slice Ax rb.length cx, (rb, (a1, a2)))]).map (·.2) = otherF F cut) := Lib.hid (by
          unfold otherF
          rw [hrevD, hrev0, ← hfa, ← hfb, List.map_append]
          rfl)
        have hb58 := HB9.out
        have HHold : Hid (∀ Q, Below W8.heap.size W8 Q → ∀ j u, (G1.flatMap encFx)[j]? = some u → Q.cell? ⟨g, 3 + j, none⟩ = some u) := Lib.hid fun Q hQ j u hu => by
          have hcel := World.ownsRow.cells HFx.out.own (g := g) rfl (3 + j) u (by
            rw [List.flatMap_cons, List.getElem?_append_right (by simp [encFx])]
            have : 3 + j - (encFx x0).length = j := by simp [encFx]
            rw [this]
            exact hu)
          rw [Addr.add_lit, Nat.zero_add] at hcel
          exact ((hb58.trans (hQ.mono hb58.size)).cell (p := ⟨g, 3 + j, none⟩) hg2).trans hcel
        have HHrow : Hid (∀ Q, Below W8.heap.size W8 Q → ∀ q ∈ G1 ++ [(Value.slice Ax rb.length cx, (rb, (c1, c2))), (Value.slice Ax rb.length cx, (rb, (a1, a2)))], IsVals Q q.1 q.2.1 ∧ ∀ b, sblk q.1 = some b → b < Q.heap.size) := Lib.hid fun Q hQ q hq => by
          have hBQ := hb58.trans (hQ.mono hb58.size)
          rcases List.mem_append.1 hq with h | h
          · have h1 := HFx.out.row q (List.mem_cons_of_mem _ h)
            exact ⟨h1.1.below hBQ, fun b hb => Nat.lt_of_lt_of_le (h1.2 b hb).1 hBQ.size⟩
          · have h1 := HX0.out
            rcases List.mem_cons.1 h with rfl | h
            · exact ⟨h1.1.below hBQ, fun b hb => Nat.lt_of_lt_of_le (h1.2 b hb).1 hBQ.size⟩
            · rw [List.mem_singleton] at h
              subst h
              exact ⟨h1.1.below hBQ, fun b hb => Nat.lt_of_lt_of_le (h1.2 b hb).1 hBQ.size⟩
        have HHnew : Hid (∀ (Q : World) (b : Nat), Q.heap[b]? = some (.cells #[.slice Ax rb.length cx, .int .i64 c1, .int .i64 c2, .slice Ax rb.length cx, .int .i64 a1, .int .i64 a2] 29 (0, 0)) → ∀ j u, (encFx (Value.slice Ax rb.length cx, (rb, (c1, c2))) ++ encFx (Value.slice Ax rb.length cx, (rb, (a1, a2))))[j]? = some u → Q.cell? ⟨b, j, none⟩ = some u) := Lib.hid fun Q b hQ j u hu => by
          rw [blk_get hQ]
          rw [← hu, ← Array.getElem?_toList]
          rfl
        have HGn : Hid (G1.length = F.length - 1) := Lib.hid (by have := HGl.out; omega)
        have hcap : F.length ≤ cpc := by have h := hg3; rw [List.length_cons, HGl.out] at h; exact h
        have hcapi : (F.length : Int) ≤ (cpc : Int) := by omega
        have hn1i : (1 : Int) ≤ (F.length : Int) := by omega
        have z0 := blk_get C12.out 0
        have z1 := blk_get C12.out 1
        have z2 := blk_get C12.out 2
        have z3 := blk_get C13.out 0
        have z4 := blk_get C13.out 1
        have z5 := blk_get C13.out 2
        simp at z0 z1 z2 z3 z4 z5
        have hl12 := blk_lt C12.out
        have hl13 := blk_lt C13.out
        have kb : Below W8.heap.size W8 W8 := Below.refl _ _
        have FB : Hid (∀ Q, Below W8.heap.size W8 Q → Q.cell? ⟨b12, 0, none⟩ = some (.slice Ax rb.length cx) ∧ Q.cell? ⟨b12, 1, none⟩ = some (.int .i64 a1) ∧ Q.cell? ⟨b12, 2, none⟩ = some (.int .i64 a2) ∧ Q.cell? ⟨b13, 0, none⟩ = some (.slice Ax rb.length cx) ∧ Q.cell? ⟨b13, 1, none⟩ = some (.int .i64 c1) ∧ Q.cell? ⟨b13, 2, none⟩ = some (.int .i64 c2)) := Lib.hid fun Q h => ⟨(h.cell (p := ⟨b12, 0, none⟩) hl12).trans z0, (h.cell (p := ⟨b12, 1, none⟩) hl12).trans z1, (h.cell (p := ⟨b12, 2, none⟩) hl12).trans z2, (h.cell (p := ⟨b13, 0, none⟩) hl13).trans z3, (h.cell (p := ⟨b13, 1, none⟩) hl13).trans z4, (h.cell (p := ⟨b13, 2, none⟩) hl13).trans z5⟩
        have hQ1 : Below W8.heap.size W8 (W8.alloc (.cells #[.slice Ax rb.length cx, .int .i64 c1, .int .i64 c2, .slice Ax rb.length cx, .int .i64 a1, .int .i64 a2] 29)) := kb.alloc kb.size _
        have hq1 := heap_alloc_new W8 (.cells #[.slice Ax rb.length cx, .int .i64 c1, .int .i64 c2, .slice Ax rb.length cx, .int .i64 a1, .int .i64 a2] 29)
        have HQ1 := Lib.hid hQ1; have Hq1 := Lib.hid hq1; have HFa := Lib.hid hfa; have HFb := Lib.hid hfb
        have HFin : Hid (∀ v9 w9, OwnsFx w9 (W8.alloc (.cells #[.slice Ax rb.length cx, .int .i64 c1, .int .i64 c2, .slice Ax rb.length cx, .int .i64 a1, .int .i64 a2] 29)).heap.size v9 (G1 ++ [(Value.slice Ax rb.length cx, (rb, (c1, c2))), (Value.slice Ax rb.length cx, (rb, (a1, a2)))]) → Below W8.heap.size W8 w9 → ∃ A2 k2, v9 = .slice A2 (F.length + 1) k2 ∧ Hid (IsFs w9 (.slice A2 (F.length + 1) k2) (otherF F cut)) ∧ Hid (Below W5.heap.size W5 w9)) := Lib.hid fun v9 w9 h hb => by
          obtain ⟨A2, k2, e⟩ := h.form
          have hl : (G1 ++ [(Value.slice Ax rb.length cx, (rb, (c1, c2))), (Value.slice Ax rb.length cx, (rb, (a1, a2)))]).length = F.length + 1 := by
            rw [List.length_append]
            show G1.length + 2 = F.length + 1
            have := HGl.out
            omega
          rw [hl] at e
          have hfs := h.fs
          rw [HOt.out, e] at hfs
          exact ⟨A2, k2, e, Lib.hid hfs, Lib.hid (hb58.trans (hb.mono hb58.size))⟩
        clear hf0r hx0f hrevD hrev0 hb58 z0 z1 z2 z3 z4 z5 hQ1 hq1 hfa hfb hg3
        go_upto_region 11 with fail
        go_cut [11] (fun s11 wx => ∃ A2 k2, s11 = .slice A2 (F.length + 1) k2 ∧ Hid (IsFs wx (.slice A2 (F.length + 1) k2) (otherF F cut)) ∧ Hid (Below W5.heap.size W5 wx))
        case first =>
          by_cases hone : F.length = 1
          · have HOne := Lib.hid hone
            have h1 : (F.length = 1) = True := eq_true hone
            have HHold0 : Hid (∀ (Q : World) j u, (G1.flatMap encFx)[j]? = some u → Q.cell? ⟨g, 0 + j, none⟩ = some u) := Lib.hid fun Q j u hu => by
              have : G1 = [] := List.length_eq_zero_iff.1 (by have := HGn.out; omega)
              rw [this] at hu
              simp at hu
            clear hone
            go_region_held3 (fun Q => Q.cell? ⟨b12, 0, none⟩ = some (.slice Ax rb.length cx) ∧ Q.cell? ⟨b12, 1, none⟩ = some (.int .i64 a1) ∧ Q.cell? ⟨b12, 2, none⟩ = some (.int .i64 a2) ∧ Q.cell? ⟨b13, 0, none⟩ = some (.slice Ax rb.length cx) ∧ Q.cell? ⟨b13, 1, none⟩ = some (.int .i64 c1) ∧ Q.cell? ⟨b13, 2, none⟩ = some (.int .i64 c2)) ((first | exact FB.out _ kb | exact FB.out _ kb.drew | exact FB.out _ (kb.drew.alloc kb.drew.size _) | exact FB.out _ (kb.alloc kb.size _) | exact HS9)) (first
              | (refine append_full_fx (.tmp 86) (.tmp 89) (by rfl) G1 _ _ HGn.out (by rfl) (HHold0.out _) (by rfl) (HHnew.out _ _ Hq1.out) (by have := HGn.out; omega) (HHrow.out _ HQ1.out) (fun v9 w9 hown9 hb9 => ?_); have HS9 := FB.out _ (HQ1.out.trans (hb9.mono HQ1.out.size)))
              | (refine append_full_fx (.tmp 86) (.tmp 89) (by rfl) G1 _ _ HGn.out (by rfl) (HHold0.out _) (by rfl) (HHnew.out _ _ Hq1.out) (by have := HGn.out; omega) (HHrow.out _ HQ1.out.drew) (fun v9 w9 hown9 hb9 => ?_); have HS9 := FB.out _ (HQ1.out.drew.trans (hb9.mono HQ1.out.drew.size))))
            all_goals
              go_wp2_with fail
              go_meet
              exact HFin.out _ _ hown9 (by first | exact HQ1.out.trans (hb9.mono HQ1.out.size) | exact HQ1.out.drew.trans (hb9.mono HQ1.out.drew.size))
          · go_region_held3 (fun Q => Q.cell? ⟨b12, 0, none⟩ = some (.slice Ax rb.length cx) ∧ Q.cell? ⟨b12, 1, none⟩ = some (.int .i64 a1) ∧ Q.cell? ⟨b12, 2, none⟩ = some (.int .i64 a2) ∧ Q.cell? ⟨b13, 0, none⟩ = some (.slice Ax rb.length cx) ∧ Q.cell? ⟨b13, 1, none⟩ = some (.int .i64 c1) ∧ Q.cell? ⟨b13, 2, none⟩ = some (.int .i64 c2)) ((first | exact FB.out _ kb | exact FB.out _ kb.drew | exact FB.out _ (kb.drew.alloc kb.drew.size _) | exact FB.out _ (kb.alloc kb.size _) | exact HS9)) (first
              | (refine append_full_fx (.tmp 86) (.tmp 89) (by rfl) G1 _ _ HGn.out (by rfl) (HHold.out _ HQ1.out) (by rfl) (HHnew.out _ _ Hq1.out) (by have := HGn.out; omega) (HHrow.out _ HQ1.out) (fun v9 w9 hown9 hb9 => ?_); have HS9 := FB.out _ (HQ1.out.trans (hb9.mono HQ1.out.size)))
              | (refine append_full_fx (.tmp 86) (.tmp 89) (by rfl) G1 _ _ HGn.out (by rfl) (HHold.out _ HQ1.out.drew) (by rfl) (HHnew.out _ _ Hq1.out) (by have := HGn.out; omega) (HHrow.out _ HQ1.out.drew) (fun v9 w9 hown9 hb9 => ?_); have HS9 := FB.out _ (HQ1.out.drew.trans (hb9.mono HQ1.out.drew.size))))
            all_goals
              go_wp2_with fail
              go_meet
              exact HFin.out _ _ hown9 (by first | exact HQ1.out.trans (hb9.mono HQ1.out.size) | exact HQ1.out.drew.trans (hb9.mono HQ1.out.drew.size))
        case rest =>
          obtain ⟨A2, k2, rfl, HFo, HB10⟩ := hcut
          rename World => W9
          have hw9 : Below W.heap.size W W9 := hw5.trans (HB10.out.mono hw5.size)
          have hn9 : F.length < 1000000000 := by omega
          have hfo9 := HFo.out
          have hol : (otherF F cut).length < 1000000000 := by rw [HOl.out]; omega
          have HOl2 := Lib.hid hol; have Hn9 := Lib.hid hn9
          clear HHold HHrow HHnew HFin HOt HQ1 Hq1 C12 C13 HB9 FB kb hb4 hb5 hw5 HG HMap HX0 HXe HFx KR hg1 hg2 hg4 hcap hcapi hn1i hl12 hl13 hol hn9 hlx hcx h12 h13 hne
          go_wp2_with fail
          refine (KG.out Hn9.out W9 hw9).mono ?_
          rintro e Wa ⟨va, ea, rfl, hba, hspa⟩
          have hwa := hw9.trans (hba.mono hw9.size)
          have hfoa := hfo9.below hba
          have Hspa := Lib.hid hspa
          clear hfo9 hba hspa hw9
          go_wp2_with fail
          refine (KG2.out Wa _ (otherF F cut) hwa hfoa HMo.out HOl2.out).mono ?_
          rintro e Wb ⟨vb, eb, rfl, hbb, hspb⟩
          obtain ⟨rfl, L1, D1, hN1, hL1, hT1, hF1, hF2⟩ := form_grp HSame.out Hspa.out hspb
          have hF1 := hF1.below hbb
          have hwb := hwa.trans (hbb.mono hwa.size)
          have hfob := hfoa.below hbb
          obtain ⟨S1, hF1⟩ := hF1
          obtain ⟨S2, hF2⟩ := hF2
          obtain ⟨Aa, ka, rfl, _, _⟩ := hF1.form
          obtain ⟨Ab, kb', rfl, _, _⟩ := hF2.form
          have HN1 := Lib.hid hN1; have HT1 := Lib.hid hT1
          clear hfoa hbb hspb Hspa hwa hN1 hT1
          go_wp2_with fail
          refine (KT.out Hn9.out Wb hwb).mono ?_
          rintro e Wc ⟨vd, ec, rfl, hbc, hspc⟩
          have hwc := hwb.trans (hbc.mono hwb.size)
          have hfoc := hfob.below hbc
          have hF1 := hF1.below hbc
          have hF2 := hF2.below hbc
          have Hspc := Lib.hid hspc
          clear hfob hbc hspc hwb
          go_wp2_with fail
          refine (KT2.out Wc _ (otherF F cut) hwc hfoc HMo.out HOl2.out).mono ?_
          rintro e Wd ⟨ve, ed, rfl, hbd, hspd⟩
          obtain ⟨rfl, L2, D2, hN2, hL2, hT2, hF3, hF4⟩ := form_top HSame.out Hspc.out hspd
          have hF3 := hF3.below hbd
          have hwd := hwc.trans (hbd.mono hwc.size)
          have hF1 := hF1.below hbd
          have hF2 := hF2.below hbd
          obtain ⟨S3, hF3⟩ := hF3
          obtain ⟨S4, hF4⟩ := hF4
          obtain ⟨Ac, kc, rfl, _, _⟩ := hF3.form
          obtain ⟨Ad, kd, rfl, _, _⟩ := hF4.form
          have HN2 := Lib.hid hN2; have HT2 := Lib.hid hT2
          have hsm1 : sameF L1 L1 = true := by simp [sameF]
          have hsm2 : sameF L2 L2 = true := by simp [sameF]
          have K1 := Lib.hid (r39Same_c _ _ L1 L1 Wd ⟨S1, hF1⟩ ⟨S2, hF2⟩)
          have K2 : Hid (∀ X, Below Wd.heap.size Wd X → Calls Try.prog 24 #[.slice Ac L2.length kc, .slice Ad L2.length kd] X (Ret X (.bool (sameF L2 L2)))) := Lib.hid fun X h => r39Same_c _ _ L2 L2 X ⟨S3, hF3.below h⟩ ⟨S4, hF4.below h⟩
          rw [hsm1] at K1
          rw [hsm2] at K2
          have e1 : (ea != ea) = false := by simp
          have e2 : (ec != ec) = false := by simp
          have HF1 := Lib.hid hF1; have HF3 := Lib.hid hF3
          have HL1 := Lib.hid hL1; have HL2 := Lib.hid hL2
          clear hfoc hbd hspd Hspc hwc hN2 hT2 hsm1 hsm2 hF1 hF2 hF3 hF4 hL1 hL2
          go_wp2_with fail
          refine K1.out.mono ?_
          rintro e We ⟨rfl, hbe⟩
          have HBe := Lib.hid hbe
          clear hbe
          go_wp2_with fail
          refine (K2.out We HBe.out).mono ?_
          rintro e Wf ⟨rfl, hbf⟩
          have HBf := Lib.hid (HBe.out.trans (hbf.mono HBe.out.size))
          clear hbf e1 e2 K1 K2
          obtain ⟨Wg, hWg⟩ : ∃ Y, Y = Wf.alloc (.cells #[.slice Aa L1.length ka, .slice Ac L2.length kc] 22) := ⟨_, rfl⟩
          have hbg : Below Wf.heap.size Wf Wg := by rw [hWg]; exact (Below.refl _ _).alloc (Nat.le_refl _) _
          have hcg : Wg.heap[Wf.heap.size]? = some (.cells #[.slice Aa L1.length ka, .slice Ac L2.length kc] 22 (0, 0)) := by rw [hWg]; exact heap_alloc_new Wf _
          have HWg := Lib.hid hWg
          have hbdg := HBf.out.trans (hbg.mono HBf.out.size)
          have HEl : Hid (∀ Y m, Below Wg.heap.size Wg Y → m < 2 → ∃ (Ax' : Option Addr) (L : List Fct) (D : VRow → Int → Prop) (kx : Nat) (Sx : Nat → Value), Y.cell? ⟨Wf.heap.size, m, none⟩ = some (.slice Ax' L.length kx) ∧ Hid (NormOf L D) ∧ L.length ≤ 1000 ∧ Hid (∀ f ∈ L, SmR f.1) ∧ Hid (FsIn Y (.slice Ax' L.length kx) L Sx)) := Lib.hid fun Y m h hm2 => by
            have hb := (h.block _ (blk_lt hcg)).trans hcg
            have hd := hbdg.trans (h.mono hbdg.size)
            rcases (show m = 0 ∨ m = 1 by omega) with rfl | rfl
            · exact ⟨Aa, L1, D1, ka, S1, by rw [blk_get hb 0]; rfl, HN1, HL1.out, HT1, Lib.hid (HF1.out.below hd)⟩
            · exact ⟨Ac, L2, D2, kc, S3, by rw [blk_get hb 1]; rfl, HN2, HL2.out, HT2, Lib.hid (HF3.out.below hd)⟩
          have HWd := Lib.hid (hwd.trans (hbdg.mono hwd.size))
          clear hWg hbg hcg hbdg hwd
          go_wp2_with fail
          rw [← HWg.out]
          try go_frame
          go_loopw [143] (fun i X => ∃ m : Nat, i = .int .i64 (m : Int) ∧ m ≤ 2 ∧ Hid (Below Wg.heap.size Wg X)) (fun i _ => 2 - (intOf i).toNat)
          case atStart => exact ⟨0, rfl, by omega, Lib.hid (Below.refl _ _)⟩
          case round =>
            obtain ⟨m, rfl, hm2, HBX⟩ := hrel
            rename World => X
            by_cases hml : m < 2
            · obtain ⟨Al, L, D, kl, Sl, hce, HN, hLl, HT, HFs⟩ := HEl.out X m HBX.out hml
              have Hml := Lib.hid hml; have HLl := Lib.hid hLl
              have hmi : (m : Int) < 2 := by omega
              clear hLl
              go_wp2_with fail
              clear hce
              try go_frame
              go_loopw [25] (fun i Y => ∃ q : Nat, i = .int .i64 (q : Int) ∧ q ≤ L.length ∧ Hid (0 < q → q < L.length → (fc L q).1 ≠ (fc L (q - 1)).1) ∧ Hid (Below X.heap.size X Y)) (fun i _ => L.length - (intOf i).toNat)
              case atStart => exact ⟨0, rfl, Nat.zero_le _, Lib.hid (fun h => absurd h (by omega)), Lib.hid (Below.refl _ _)⟩
              case round =>
                obtain ⟨q, rfl, hq, HDf, HBY⟩ := hrel
                rename World => Y
                by_cases hql : q < L.length
                · obtain ⟨bl, ol, rfl, hbl⟩ := HFs.out.addr (by omega)
                  have Hql := Lib.hid hql
                  have Hbl := Lib.hid hbl
                  clear hbl
                  go_wp2_with fail
                  try go_frame
                  go_loopw [25, 26] (fun i o Z => ∃ j : Nat, i = .int .i64 (j : Int) ∧ q ≤ j ∧ j ≤ L.length ∧ Hid (∀ f ∈ seg L q j, f.1 = (fc L q).1) ∧ Hid (Z.ownsRow Y.heap.size 27 2 o ((seg L q j).map (·.2)).length (flat ((seg L q j).map (·.2)))) ∧ Hid (Below Y.heap.size Y Z)) (fun i _ _ => L.length - (intOf i).toNat)
                  case atStart => exact ⟨q, rfl, Nat.le_refl _, hq, Lib.hid (fun f hf => by rw [seg_self] at hf; exact absurd hf (by simp)), Lib.hid (by rw [seg_self]; exact own_nil _ _ _ _), Lib.hid (Below.refl _ _)⟩
                  case round =>
                    obtain ⟨j, rfl, hqj, hjl, HSg, HOw, HBZ⟩ := hrel
                    rename World => Z
                    have hbXZ := HBY.out.trans (HBZ.out.mono HBY.out.size)
                    have hll : ((seg L q j).map (·.2)).length = j - q := by rw [List.length_map, seg_len hqj hjl]
                    obtain ⟨Ao, co, hoe, _, _⟩ := RowsIn.form (spans_of_own HOw.out)
                    rw [hll] at hoe
                    subst hoe
                    clear hll
                    by_cases hjL : j < L.length
                    · have hin := HFs.out.below hbXZ
                      have c0 := hin.c0 j hjL
                      have c1 := hin.c1 j hjL
                      have c2 := hin.c2 j hjL
                      have d0 := hin.c0 q Hql.out
                      have hvj := hin.2 j hjL
                      have hvq := hin.2 q Hql.out
                      obtain ⟨Aj, kj, hSj, _, _⟩ := hvj.form
                      obtain ⟨Aq, kq, hSq, _, _⟩ := hvq.form
                      rw [hSj] at c0 hvj
                      rw [hSq] at d0 hvq
                      have K := Lib.hid fun (Q : World) (h : Below Z.heap.size Z Q) => r33Same_c _ _ (fc L j).1 (fc L q).1 Q (hvj.below h) (hvq.below h)
                      have HZs : Hid (sameR (fc L j).1 (fc L q).1 = true → (fc L j).1 = (fc L q).1) := Lib.hid fun h => of_decide_eq_true h
                      have HZd : Hid (sameR (fc L j).1 (fc L q).1 = false → (fc L j).1 ≠ (fc L q).1) := Lib.hid fun h => of_decide_eq_false h
                      generalize sameR (fc L j).1 (fc L q).1 = z at K HZs HZd
                      have hji : (j : Int) < (L.length : Int) := by omega
                      have hqi : (q : Int) < (L.length : Int) := by have := Hql.out; omega
                      have f1 : decide ((j : Int) < (L.length : Int)) = true := decide_eq_true hji
                      have hblZ : bl < Z.heap.size := Nat.lt_of_lt_of_le Hbl.out hbXZ.size
                      have e0 := fun x : BW Z => bw_cell x c0 hblZ
                      have e1 := fun x : BW Z => bw_cell x d0 hblZ
                      have Hj := Lib.hid hjL
                      clear hvj hvq hSj hSq hin c0 d0
                      go_wp2_with fail
                      refine wp_region_below (by kernel_rfl) (by kernel_rfl) ?_
                      repeat (go_big_quiet_step ((go_at_call 16; exact calls_bw _ (K.out _ (Subtype.property _)))))
                      refine wpQuiet_nil ?_
                      rintro Z5 ⟨⟨_, hb5⟩, rfl⟩
                      have c1 := (hb5.cell (p := ⟨bl, ol + j * 3 + 1, none⟩) hblZ).trans c1
                      have c2 := (hb5.cell (p := ⟨bl, ol + j * 3 + 2, none⟩) hblZ).trans c2
                      clear e0 e1
                      have HOw := Lib.hid (own_below HOw.out hb5 (Nat.le_refl _))
                      have HBZ5 := Lib.hid (HBZ.out.trans (hb5.mono HBZ.out.size))
                      clear hb5
                      cases z
                      · as_aux_lemma =>
                          have hne := HZd.out rfl
                          have hqj2 : q < j := by
                            rcases Nat.eq_or_lt_of_le hqj with e | e
                            · rw [e] at hne; exact absurd rfl hne
                            · exact e
                          have Hlt := Lib.hid hqj2
                          have HNe : Hid (0 < j → j < L.length → (fc L j).1 ≠ (fc L (j - 1)).1) := Lib.hid fun _ _ e => by
                            have h1 : fc L (j - 1) ∈ seg L q j := by
                              have := seg_succ (A := L) (k := q) (i := j - 1) (by omega) (by omega)
                              rw [show j - 1 + 1 = j by omega] at this
                              rw [this]
                              exact List.mem_append_right _ (List.mem_singleton.2 rfl)
                            exact hne (e.trans (HSg.out _ h1))
                          clear hne hqj2 c1 c2
                          have hval : validB ((seg L q j).map (·.2)) = true := seg_valid HN.out HLl.out HSg.out
                          have KV : Hid (∀ Q, Below Z5.heap.size Z5 Q → Calls Try.prog 31 #[.slice Ao (j - q) co] Q (Ret Q (.bool true))) := Lib.hid fun Q h => by
                            have := rValid_c (.slice Ao (j - q) co) ((seg L q j).map (·.2)) Q (spans_of_own (own_below HOw.out h (Nat.le_refl _)))
                            rw [hval] at this
                            exact this
                          have hbXP := HBY.out.trans (HBZ5.out.mono HBY.out.size)
                          have hin := HFs.out.below hbXP
                          have hblP : bl < Z5.heap.size := Nat.lt_of_lt_of_le Hbl.out hbXP.size
                          have HbXP := Lib.hid hbXP
                          by_cases hq0 : q = 0
                          · have g0 : decide ((0 : Int) < (q : Int)) = false := decide_eq_false (by omega); have g0n : decide (0 < q) = false := decide_eq_false (by omega)
                            have Hq0 := Lib.hid hq0
                            clear hq0 hval hin
                            go_wp2_with fail
                            refine wp_region_below (by kernel_rfl) (by kernel_rfl) ?_
                            repeat (go_big_quiet_step ((go_at_call 31; exact calls_bw _ (KV.out _ (Subtype.property _)))))
                            refine wpQuiet_nil ?_
                            rintro P6 ⟨⟨_, hb6⟩, rfl⟩
                            have HP6 := Lib.hid (HbXP.out.trans (hb6.mono HbXP.out.size))
                            clear hb6
                            go_wp2_with fail
                            go_roundw
                            case rel => exact ⟨j, rfl, hjl, Lib.hid HNe.out, HP6⟩
                            case measure => have := Hlt.out; have := Hql.out; simp [intOf]; omega
                          · obtain ⟨p, hp⟩ : ∃ p, p + 1 = q := ⟨q - 1, by omega⟩
                            have hpl : p < L.length := by have := Hql.out; omega
                            have g0 : decide ((0 : Int) < (q : Int)) = true := decide_eq_true (by omega); have g0n : decide (0 < q) = true := decide_eq_true (by omega)
                            have g1 : IntKind.i64.wrap ((q : Int) - 1) = (p : Int) := by
                              rw [show (q : Int) - 1 = (p : Int) by omega]
                              exact IntWalk.i64_in _ (by have := HLl.out; omega)
                            have g2 : (p : Int) < (L.length : Int) := by omega
                            have g3 : (q : Int) < (L.length : Int) := by have := Hql.out; omega
                            have c0 := hin.c0 p hpl
                            have d0 := hin.c0 q Hql.out
                            have hvp := hin.2 p hpl
                            have hvq := hin.2 q Hql.out
                            obtain ⟨Ap, kp, hSp, _, _⟩ := hvp.form
                            obtain ⟨Aq, kq, hSq, _, _⟩ := hvq.form
                            rw [hSp] at c0 hvp
                            rw [hSq] at d0 hvq
                            have hord : cmpR (fc L p).1 (fc L q).1 < 0 := by
                              have h := HDf.out (by omega) Hql.out
                              rw [← hp] at h ⊢
                              exact norm_next HN.out (by have := Hql.out; omega) h
                            have hsm := HT.out _ (fc_mem hpl)
                            have KO : Hid (∀ Q, Below Z5.heap.size Z5 Q → Calls Try.prog 32 #[.slice Ap (fc L p).1.length kp, .slice Aq (fc L q).1.length kq] Q (Ret Q (.int .i64 (cmpR (fc L p).1 (fc L q).1)))) := Lib.hid fun Q h => r33Order_c _ _ _ _ Q (hvp.below h) (hvq.below h) hsm
                            generalize cmpR (fc L p).1 (fc L q).1 = d at KO hord
                            have g4 : decide ((0 : Int) ≤ d) = false := decide_eq_false (by omega)
                            have e0 := fun x : BW Z5 => bw_cell x c0 hblP
                            have e1 := fun x : BW Z5 => bw_cell x d0 hblP
                            have Hp := Lib.hid hp
                            clear hval hin hvp hvq hSp hSq hsm hp hq0 c0 d0
                            go_wp2_with fail
                            refine wp_region_below (by kernel_rfl) (by kernel_rfl) ?_
                            repeat (go_big_quiet_step (first | (go_at_call 31; exact calls_bw _ (KV.out _ (Subtype.property _))) | (go_at_call 32; exact calls_bw _ (KO.out _ (Subtype.property _)))))
                            refine wpQuiet_nil ?_
                            rintro P6 ⟨⟨_, hb6⟩, rfl⟩
                            have HP6 := Lib.hid (HbXP.out.trans (hb6.mono HbXP.out.size))
                            clear hb6 e0 e1
                            go_wp2_with fail
                            go_roundw
                            case rel => exact ⟨j, rfl, hjl, Lib.hid HNe.out, HP6⟩
                            case measure => have := Hlt.out; have := Hql.out; simp [intOf]; omega
                      · as_aux_lemma =>
                          have hsame := HZs.out rfl
                          have hss := seg_succ (A := L) hqj Hj.out
                          have HSg2 : Hid (∀ f ∈ seg L q (j + 1), f.1 = (fc L q).1) := Lib.hid fun f hf => by
                            rw [hss] at hf
                            rcases List.mem_append.1 hf with h | h
                            · exact HSg.out f h
                            · rw [List.mem_singleton] at h; rw [h]; exact hsame
                          have HSs : Hid ((seg L q (j + 1)).map (·.2) = (seg L q j).map (·.2) ++ [((fc L j).2.1, (fc L j).2.2)]) := Lib.hid (by rw [hss, List.map_append]; rfl)
                          have hsl : ((seg L q j).map (·.2)).length < 1000000000 := by
                            rw [List.length_map, seg_len hqj hjl]
                            have := HLl.out
                            omega
                          have Hqj := Lib.hid (Nat.le_succ_of_le hqj)
                          have hwr : IntKind.i64.wrap ((j : Int) + 1) = (j : Int) + 1 := IntWalk.i64_in _ (by have := HLl.out; omega)
                          generalize (fc L j).2.1 = p1 at *
                          generalize (fc L j).2.2 = p2 at *
                          have hown5 := HOw.out
                          have hbz := HBZ5.out.size
                          clear hsame hss
                          go_wp2_with (at_builtin; refine append_span tSpans tSpanInfo (by rfl) (.tmp 169) (.tmp 175) (by rfl) Y.heap.size _ ((seg L q j).map (·.2)) _ _ (by rfl) hown5 (by rfl) (by omega) hbz ?_; intro v3 w3 hown3 hb3)
                          have HB3 := Lib.hid (HBZ5.out.trans hb3)
                          have HO3 := Lib.hid hown3
                          clear hown5 hown3 hb3 hbz hsl c1 c2
                          go_wp2_with fail
                          go_roundw
                          case rel => exact ⟨j + 1, by go_num, Hqj.out, Hj.out, HSg2, Lib.hid (by rw [HSs.out]; exact HO3.out), HB3⟩
                          case measure => have := Hj.out; simp [intOf]; omega
                    · as_aux_lemma =>
                        obtain rfl : j = L.length := by omega
                        have f1 : decide ((L.length : Int) < (L.length : Int)) = false := decide_eq_false (by omega)
                        go_wp2_with fail
                        refine wp_region_below (by kernel_rfl) (by kernel_rfl) ?_
                        repeat (go_big_quiet_step (fail))
                        refine wpQuiet_nil ?_
                        rintro Z5 ⟨⟨_, hb5⟩, rfl⟩
                        have HOw := Lib.hid (own_below HOw.out hb5 (Nat.le_refl _))
                        have HBZ5 := Lib.hid (HBZ.out.trans (hb5.mono HBZ.out.size))
                        clear hb5
                        have Hlt := Hql
                        have HNe : Hid (0 < L.length → L.length < L.length → (fc L L.length).1 ≠ (fc L (L.length - 1)).1) := Lib.hid fun _ h => absurd h (Nat.lt_irrefl _)
                        have hval : validB ((seg L q L.length).map (·.2)) = true := seg_valid HN.out HLl.out HSg.out
                        have KV : Hid (∀ Q, Below Z5.heap.size Z5 Q → Calls Try.prog 31 #[.slice Ao (L.length - q) co] Q (Ret Q (.bool true))) := Lib.hid fun Q h => by
                          have := rValid_c (.slice Ao (L.length - q) co) ((seg L q L.length).map (·.2)) Q (spans_of_own (own_below HOw.out h (Nat.le_refl _)))
                          rw [hval] at this
                          exact this
                        have hbXP := HBY.out.trans (HBZ5.out.mono HBY.out.size)
                        have hin := HFs.out.below hbXP
                        have hblP : bl < Z5.heap.size := Nat.lt_of_lt_of_le Hbl.out hbXP.size
                        have HbXP := Lib.hid hbXP
                        by_cases hq0 : q = 0
                        · have g0 : decide ((0 : Int) < (q : Int)) = false := decide_eq_false (by omega); have g0n : decide (0 < q) = false := decide_eq_false (by omega)
                          have Hq0 := Lib.hid hq0
                          clear hq0 hval hin
                          go_wp2_with fail
                          refine wp_region_below (by kernel_rfl) (by kernel_rfl) ?_
                          repeat (go_big_quiet_step ((go_at_call 31; exact calls_bw _ (KV.out _ (Subtype.property _)))))
                          refine wpQuiet_nil ?_
                          rintro P6 ⟨⟨_, hb6⟩, rfl⟩
                          have HP6 := Lib.hid (HbXP.out.trans (hb6.mono HbXP.out.size))
                          clear hb6
                          go_wp2_with fail
                          go_roundw
                          case rel => exact ⟨L.length, rfl, Nat.le_refl _, Lib.hid HNe.out, HP6⟩
                          case measure => have := Hlt.out; have := Hql.out; simp [intOf]; omega
                        · obtain ⟨p, hp⟩ : ∃ p, p + 1 = q := ⟨q - 1, by omega⟩
                          have hpl : p < L.length := by have := Hql.out; omega
                          have g0 : decide ((0 : Int) < (q : Int)) = true := decide_eq_true (by omega); have g0n : decide (0 < q) = true := decide_eq_true (by omega)
                          have g1 : IntKind.i64.wrap ((q : Int) - 1) = (p : Int) := by
                            rw [show (q : Int) - 1 = (p : Int) by omega]
                            exact IntWalk.i64_in _ (by have := HLl.out; omega)
                          have g2 : (p : Int) < (L.length : Int) := by omega
                          have g3 : (q : Int) < (L.length : Int) := by have := Hql.out; omega
                          have c0 := hin.c0 p hpl
                          have d0 := hin.c0 q Hql.out
                          have hvp := hin.2 p hpl
                          have hvq := hin.2 q Hql.out
                          obtain ⟨Ap, kp, hSp, _, _⟩ := hvp.form
                          obtain ⟨Aq, kq, hSq, _, _⟩ := hvq.form
                          rw [hSp] at c0 hvp
                          rw [hSq] at d0 hvq
                          have hord : cmpR (fc L p).1 (fc L q).1 < 0 := by
                            have h := HDf.out (by omega) Hql.out
                            rw [← hp] at h ⊢
                            exact norm_next HN.out (by have := Hql.out; omega) h
                          have hsm := HT.out _ (fc_mem hpl)
                          have KO : Hid (∀ Q, Below Z5.heap.size Z5 Q → Calls Try.prog 32 #[.slice Ap (fc L p).1.length kp, .slice Aq (fc L q).1.length kq] Q (Ret Q (.int .i64 (cmpR (fc L p).1 (fc L q).1)))) := Lib.hid fun Q h => r33Order_c _ _ _ _ Q (hvp.below h) (hvq.below h) hsm
                          generalize cmpR (fc L p).1 (fc L q).1 = d at KO hord
                          have g4 : decide ((0 : Int) ≤ d) = false := decide_eq_false (by omega)
                          have e0 := fun x : BW Z5 => bw_cell x c0 hblP
                          have e1 := fun x : BW Z5 => bw_cell x d0 hblP
                          have Hp := Lib.hid hp
                          clear hval hin hvp hvq hSp hSq hsm hp hq0 c0 d0
                          go_wp2_with fail
                          refine wp_region_below (by kernel_rfl) (by kernel_rfl) ?_
                          repeat (go_big_quiet_step (first | (go_at_call 31; exact calls_bw _ (KV.out _ (Subtype.property _))) | (go_at_call 32; exact calls_bw _ (KO.out _ (Subtype.property _)))))
                          refine wpQuiet_nil ?_
                          rintro P6 ⟨⟨_, hb6⟩, rfl⟩
                          have HP6 := Lib.hid (HbXP.out.trans (hb6.mono HbXP.out.size))
                          clear hb6 e0 e1
                          go_wp2_with fail
                          go_roundw
                          case rel => exact ⟨L.length, rfl, Nat.le_refl _, Lib.hid HNe.out, HP6⟩
                          case measure => have := Hlt.out; have := Hql.out; simp [intOf]; omega
                · obtain rfl : q = L.length := by omega
                  go_wp2_with fail
                  go_roundw
                  case rel => exact ⟨m + 1, by go_num, Hml.out, Lib.hid (HBX.out.trans (HBY.out.mono HBX.out.size))⟩
                  case measure => have := Hml.out; simp [intOf]; omega
            · obtain rfl : m = 2 := by omega
              go_wp2_with fail
              go_ret
              exact ⟨rfl, HWd.out.trans (HBX.out.mono HWd.out.size)⟩

section
open Go.ChangeShapes
variable {H : Type} {enc : TypeId × Value → H} {P : Program} {w : World} {base : Nat} {spare : Nat → Bool} {held : Bool}
theorem trodAll_five {t t' t'' t3 t4 : TypeId} {args : Array Value} {ds : List (DataW H)} {ps : List MemPlace} (h : DataW.TrodAll enc P w base spare held [t, t', t'', t3, t4] args.toList ds ps) :
    ∃ v v' v'' v3 v4 d d' d'' d3 d4 p p' p'' p3 p4, args = #[v, v', v'', v3, v4] ∧ ds = [d, d', d'', d3, d4] ∧ ps = p ++ p' ++ p'' ++ p3 ++ p4 ∧ DataW.Trod enc P w base spare held t v d p ∧ DataW.Trod enc P w base spare held t' v' d' p' ∧ DataW.Trod enc P w base spare held t'' v'' d'' p'' ∧ DataW.Trod enc P w base spare held t3 v3 d3 p3 ∧ DataW.Trod enc P w base spare held t4 v4 d4 p4 := by
  obtain ⟨v, vs, d, ds', p, q, hargs, rfl, rfl, hd, hrest⟩ := trodAll_cons h
  obtain ⟨v', vs', d', ds'', p', q', rfl, rfl, rfl, hd', hrest'⟩ := trodAll_cons hrest
  obtain ⟨v'', vs'', d'', ds''', p'', q'', rfl, rfl, rfl, hd'', hrest''⟩ := trodAll_cons hrest'
  obtain ⟨v3, vs3, d3, ds3, p3, q3, rfl, rfl, rfl, hd3, hrest3⟩ := trodAll_cons hrest''
  obtain ⟨v4, vs4, d4, ds4, p4, q4, rfl, rfl, rfl, hd4, hrest4⟩ := trodAll_cons hrest3
  obtain ⟨rfl, rfl, rfl⟩ := trodAll_nil hrest4
  exact ⟨v, v', v'', v3, v4, d, d', d'', d3, d4, p, p', p'', p3, p4, by cases args; simp_all, rfl, by simp, hd, hd', hd'', hd3, hd4⟩
end

set_option maxRecDepth 100000 in
theorem law39Form_lifted (os : Os) (started : os.Started) (H : Type) (enc : TypeId × Value → H) :
    ReturnsInHanded {} Try.checked os 7 .any (Rows.aggregateFormSpec.pre6 enc Try.prog Try.f7 Rows.aggregateFormRow.domain false) (Rows.aggregateFormSpec.post enc Try.prog Try.f7 false true false false) := by
  refine returnsInHanded_of_change (C := Try.checked) Try.own started (by kernel_rfl) Try.func7
    (ChangeSpec.witness6 (enc := enc) (C := Try.checked) false ⟨#[], #[.slice none 0 0, .slice none 0 0, .int .i64 0, .int .i64 0, .int .i64 0], []⟩ 8 (by kernel_rfl) (by kernel_rfl) (by kernel_rfl) (by kernel_rfl)) ?_
  intro W base args ds gs before hval0 hW hcnd _
  have hval : ∀ (j : Nat) t v, Try.f7.params[j]? = some t → args[j]? = some v → Value.okWide Try.prog W .any base t v := hval0
  have hW' := hW
  obtain ⟨p, q, hA0, hV, rfl, hfz, hnd⟩ := hW
  have hA : DataW.TrodAll enc Try.prog W 0 (fun _ => true) true Try.f7.params.toList args.toList ds p := hA0
  have hA1 := hA0
  rw [Try.params7] at hA hval
  obtain ⟨v0, v1, v2, v3, v4, d0, d1, d2, d3, d4, p0, p1, p2, p3, p4, rfl, rfl, hp, h0, h1, h2, h3, h4⟩ := trodAll_five hA
  obtain ⟨rfl, rfl⟩ := trodVars_none hV
  obtain ⟨l, g0, m0⟩ := open_facts (hval 0 22 v0 rfl rfl) h0
  obtain ⟨keys, g1⟩ := open_ints39 (hval 1 33 v1 rfl rfl) h1
  obtain ⟨function, rfl, rfl, rfl, g2⟩ := open_int Try.underlying3 (hval 2 3 v2 rfl rfl) h2
  obtain ⟨column, rfl, rfl, rfl, g3⟩ := open_int Try.underlying3 (hval 3 3 v3 rfl rfl) h3
  obtain ⟨cut, rfl, rfl, rfl, g4⟩ := open_int Try.underlying3 (hval 4 3 v4 rfl rfl) h4
  clear hA0 hval0
  have hlt : ∀ x ∈ p, x.block < W.heap.size := fun x hx => hW'.lt x (by simp [hx])
  refine (law39Form_c v0 v1 l keys function column cut W g0 g1 m0).mono fun e W' ⟨he, hg⟩ => ?_
  subst he
  exact ⟨_, rfl, post_of_below (pa := p) (pv := []) hW' (fun _ _ _ => trodAll_mk1 (shut_bool Try.underlying4 _))
    (fun sp hsp => trodAll_keep Try.laidOut hg (by kernel_rfl) hA1 hlt (fun x hx => hsp x (by simp [hx])))
    (fun _ _ => rfl) rfl hg (ok_one (by kernel_rfl) rfl (okWide_bool_mk Try.underlying4 _))⟩

theorem law39Form_holds : Rows.AggregateFormSaid :=
  OpenClaim.holds_of_wide 7 Try.f7 rfl rfl rfl rfl rfl rfl rfl ⟨rfl, rfl, rfl, rfl, rfl⟩ rfl rfl rfl rfl rfl (by kernel_rfl) Try.func7 (by kernel_rfl)
    (of_decide_eq_true (by kernel_rfl)) (by unfold Func.isWrapper; first | (rw [if_pos (by decide +kernel)]; kernel_rfl) | (rw [if_neg (by decide +kernel)]; exact ⟨rfl, rfl⟩))
    (fun os started H enc _ => law39Form_lifted os started H enc)
#print axioms law39Form_holds
end Go.Proofs.Ytohjgegnamcnlaa
