/- Law 39: the visitor of aggregate.Most. -/
import Derived.Test.YtohjgegnamcnlaaGreatAiE
namespace Go.Proofs.YtohjgegnamcnlaaGreat
open Go.RowKit Go.Shelf

def MostJ (base z1 : Nat) (w0 : World) (bm bo : Nat) (Vs : List Vis) (W : World) : Prop :=
  Below base w0 W ∧ BoxAt W bm (.int .i64 (mostV Vs : Int)) ∧ ∃ o, BoxAt W bo o ∧ W.ownsRow z1 34 2 o (mostL Vs).length (flat (mostL Vs))
theorem mostJ_keep {base zs z1 : Nat} {w0 : World} {bm bo : Nat} (h0 : base ≤ w0.heap.size) (hbz : base ≤ zs) (hx : bm < zs ∧ bo < zs) (Vs : List Vis) (W W' : World) (h : MostJ base z1 w0 bm bo Vs W) (hk : Oz zs z1 W W') : MostJ base z1 w0 bm bo Vs W' := by
  obtain ⟨h1, h2, o, h3, h4⟩ := h
  refine ⟨hk.below h1 h0 hbz, h2.block (hk.oth bm h2.lt (by omega)), o, h3.block (hk.oth bo h3.lt (by omega)), own_blocks h4 fun g hg => ?_⟩
  have := World.ownsRow.lt h4 g hg
  exact hk.oth g this.2 (by omega)
def MostVRet (base zs z1 : Nat) (w0 : World) (bm bo : Nat) (X : World) (Vs : List Vis) (e : Ending) (w' : World) : Prop :=
  ∃ c : Int, e = .returned (.int .i64 c) ∧ Kv base zs z1 X w' ∧ if c = 0 then MostJ base z1 w0 bm bo Vs w' else False
theorem BoxAt.soft {W : World} {b : Nat} {v : Value} (h : BoxAt W b v) : W.frozen? ⟨b, 0, none⟩ = false := by
  obtain ⟨t, h⟩ := h
  exact blk_soft h 0
theorem BoxAt.put {W : World} {b : Nat} {v : Value} (h : BoxAt W b v) (u : Value) : BoxAt (W.setCell ⟨b, 0, none⟩ u) b u := by
  obtain ⟨t, h⟩ := h
  exact ⟨t, blk_set h 0 u⟩
theorem BoxAt.oth {W : World} {b c : Nat} {v : Value} (h : BoxAt W b v) (hne : b ≠ c) (u : Value) : BoxAt (W.setCell ⟨c, 0, none⟩ u) b v := h.block (blk_oth hne 0 u)
set_option maxRecDepth 100000 in
set_option maxHeartbeats 8000000 in
theorem amost1_c {F : List Fct} {S : Nat → Value} {base zs z1 : Nat} {w0 : World} {bm bo : Nat} (hz1 : zs ≤ z1) (hx : bm < zs ∧ bo < zs) (hlo : base ≤ bm ∧ base ≤ bo) (hne : bm ≠ bo) (hbz : base ≤ zs)
    (X : World) (v : Value) (js : List Nat) (Vs : List Vis) (s : Sp) (hJ : MostJ base z1 w0 bm bo Vs X) (hzX : z1 ≤ X.heap.size) (hown : ∃ q, X.ownsRow q 47 1 v js.length (js.map S)) (hVl : Vs.length ≤ 2000) :
    Calls Tryz.prog 59 #[.agg #[.int .i64 s.1, .int .i64 s.2], v, .pointer (some ⟨bm, 0, none⟩), .pointer (some ⟨bo, 0, none⟩)] X (MostVRet base zs z1 w0 bm bo X (Vs ++ [(s, rowsJ F js)])) := by
  obtain ⟨q, hown⟩ := hown
  obtain ⟨A, c, rfl, _, _⟩ := RowsIn.form (rj_own hown)
  obtain ⟨hb0, hbm, o, hbo, ho⟩ := hJ
  have hn : (rowsJ F js).length = js.length := by simp [rowsJ]
  have hll := mostL_len Vs
  have hmore : mostV Vs < js.length → mostV (Vs ++ [(s, rowsJ F js)]) = js.length ∧ mostL (Vs ++ [(s, rowsJ F js)]) = [s] := fun h => ⟨by rw [mostV_app, hn]; omega, mostL_more (by rw [hn]; exact h)⟩
  have hsame : mostV Vs = js.length → mostV (Vs ++ [(s, rowsJ F js)]) = mostV Vs ∧ mostL (Vs ++ [(s, rowsJ F js)]) = mostL Vs ++ [(s.1, s.2)] := fun h => ⟨by rw [mostV_app, hn]; omega, mostL_same (by rw [hn]; exact h)⟩
  have hless : js.length < mostV Vs → mostV (Vs ++ [(s, rowsJ F js)]) = mostV Vs ∧ mostL (Vs ++ [(s, rowsJ F js)]) = mostL Vs := fun h => ⟨by rw [mostV_app, hn]; omega, mostL_less (by rw [hn]; exact h)⟩
  have Hmore := Lib.hid hmore; have Hsame := Lib.hid hsame; have Hless := Lib.hid hless
  clear hmore hsame hless hn hown
  have HJ0 := Lib.hid hb0
  generalize mostV Vs = mv at *
  generalize mostL Vs = L at *
  obtain ⟨s1, s2⟩ := s
  simp only at Hmore Hsame Hless
  have y0 := hbm.cell
  have f0 := hbm.soft
  have y1 := hbo.cell
  have f1 := hbo.soft
  have hbml := hbm.lt
  have hbol := hbo.lt
  have HBm := Lib.hid hbm; have HBo := Lib.hid hbo; have HO := Lib.hid ho
  clear hbm hbo ho hb0
  rcases Nat.lt_trichotomy mv js.length with hc | hc | hc
  · have c1 : decide ((mv : Int) < (js.length : Int)) = true := decide_eq_true (by omega)
    have c1n : decide (mv < js.length) = true := decide_eq_true hc
    have hbm2 := HBm.out.put (.int .i64 (js.length : Int))
    have hbo2 := HBo.out.oth (Ne.symm hne) (.int .i64 (js.length : Int))
    have k1 := hbo2.cell
    have k2 := hbo2.soft
    have hbm3 := hbm2.oth hne (.slice none 0 0)
    have hbo3 := hbo2.put (.slice none 0 0)
    obtain ⟨W2, hW2⟩ : ∃ Y, Y = ((X.setCell ⟨bm, 0, none⟩ (.int .i64 (js.length : Int))).setCell ⟨bo, 0, none⟩ (.slice none 0 0)).alloc (.cells #[.int .i64 s1, .int .i64 s2] 34) := ⟨_, rfl⟩
    have hbA := (Below.refl _ ((X.setCell ⟨bm, 0, none⟩ (.int .i64 (js.length : Int))).setCell ⟨bo, 0, none⟩ (.slice none 0 0))).alloc (Nat.le_refl _) (.cells #[.int .i64 s1, .int .i64 s2] 34)
    have hzz : ((X.setCell ⟨bm, 0, none⟩ (.int .i64 (js.length : Int))).setCell ⟨bo, 0, none⟩ (.slice none 0 0)).heap.size = X.heap.size := by simp
    have hB2 : Below base X ((X.setCell ⟨bm, 0, none⟩ (.int .i64 (js.length : Int))).setCell ⟨bo, 0, none⟩ (.slice none 0 0)) := ((Below.refl base X).setCell (p := ⟨bm, 0, none⟩) hlo.1 _).setCell (p := ⟨bo, 0, none⟩) hlo.2 _
    have hoth2 : ∀ b, zs ≤ b → ((X.setCell ⟨bm, 0, none⟩ (.int .i64 (js.length : Int))).setCell ⟨bo, 0, none⟩ (.slice none 0 0)).heap[b]? = X.heap[b]? := fun b h => (blk_oth (show b ≠ bo by omega) 0 _).trans (blk_oth (show b ≠ bm by omega) 0 _)
    rw [← hW2] at hbA
    have hbm4 := hbm3.block (hbA.block bm (by omega))
    have hbo4 := hbo3.block (hbA.block bo (by omega))
    have hB4 := hB2.trans (hbA.mono (by omega))
    have hoth4 : ∀ b, zs ≤ b → b < z1 → W2.heap[b]? = X.heap[b]? := fun b h1 h2 => (hbA.block b (by omega)).trans (hoth2 b h1)
    have hz4 : z1 ≤ W2.heap.size := by have := hbA.size; omega
    have mB0 := hbm3.cell
    have mB1 := hbo3.cell
    have mB2 := hbo3.soft
    have hbmB := hbm3.lt
    have hboB := hbo3.lt
    have hsb : W2.heap[X.heap.size]? = some (.cells #[.int .i64 s1, .int .i64 s2] 34 (0, 0)) := by
      have := heap_alloc_new ((X.setCell ⟨bm, 0, none⟩ (.int .i64 (js.length : Int))).setCell ⟨bo, 0, none⟩ (.slice none 0 0)) (.cells #[.int .i64 s1, .int .i64 s2] 34)
      rw [hzz] at this
      rw [hW2]; exact this
    have hz4e : z1 ≤ (((X.setCell ⟨bm, 0, none⟩ (.int .i64 (js.length : Int))).setCell ⟨bo, 0, none⟩ (.slice none 0 0)).alloc (.cells #[.int .i64 s1, .int .i64 s2] 34)).heap.size := by rw [← hW2]; exact hz4
    have HW2 := Lib.hid hW2; have HB4 := Lib.hid hB4; have Hoth4 := Lib.hid hoth4; have Hbm4 := Lib.hid hbm4; have Hbo4 := Lib.hid hbo4; have Hc := Lib.hid hc
    clear hW2 hB4 hoth4 hbm4 hbo4 hbm2 hbo2 hbm3 hbo3 hbA hzz hB2 hoth2 hsb hc
    go_enter Tryz.func59, Tryz.ntmps59
    go_wp2_with (at_builtin; refine append1 tSpans tSpanInfo rfl (by omega) (by omega) rfl _ _ (by rfl) z1 _ 0 [] [.int .i64 s1, .int .i64 s2] (by rfl) (own_nil _ _ _ _) (by rfl) (by simp) (by rfl) rfl (by simp [Value.oneCell']) (by omega) hz4e ?_; intro v8 w8 hown8 hb8 _ _; obtain ⟨g8, cap8, rfl, _, _, _, _⟩ := own_formG hown8 (Nat.succ_pos _); rw [← HW2.out] at hb8; have hbo8 := Hbo4.out.block (hb8.block bo (by omega)); have q1 := hbo8.cell; have q2 := hbo8.soft)
    refine bodyPost_ret (results_tmp (fn := Tryz.f59) (t := 6) (by kernel_rfl) _ _ _) rfl ?_
    have hw0 := HJ0.out
    refine ⟨0, rfl, ⟨(HB4.out.trans (hb8.mono (by omega))).setCell (p := ⟨bo, 0, none⟩) hlo.2 (.slice (some ⟨g8, 0, none⟩) 1 cap8), fun b h1 h2 => (blk_oth (show b ≠ bo by omega) 0 _).trans ((hb8.block b h2).trans (Hoth4.out b h1 h2))⟩, ?_⟩
    rw [if_pos rfl]
    refine ⟨hw0.trans ((HB4.out.trans (hb8.mono (by omega))).setCell (p := ⟨bo, 0, none⟩) hlo.2 (.slice (some ⟨g8, 0, none⟩) 1 cap8)), ?_, .slice (some ⟨g8, 0, none⟩) 1 cap8, hbo8.put _, ?_⟩
    · rw [(Hmore.out Hc.out).1]
      exact (Hbm4.out.block (hb8.block bm (by omega))).oth hne _
    · rw [(Hmore.out Hc.out).2]
      exact ownsRow_setCell_below hown8 (show bo < z1 by omega) _
  · subst hc
    have c1 : decide ((js.length : Int) < (js.length : Int)) = false := decide_eq_false (by omega)
    obtain ⟨W2, hW2⟩ : ∃ Y, Y = X.alloc (.cells #[.int .i64 s1, .int .i64 s2] 34) := ⟨_, rfl⟩
    have hbA := (Below.refl _ X).alloc (Nat.le_refl _) (.cells #[.int .i64 s1, .int .i64 s2] 34)
    rw [← hW2] at hbA
    have hbm4 := HBm.out.block (hbA.block bm hbml)
    have hbo4 := HBo.out.block (hbA.block bo hbol)
    have hB4 : Below base X W2 := hbA.mono (by omega)
    have hoth4 : ∀ b, zs ≤ b → b < z1 → W2.heap[b]? = X.heap[b]? := fun b h1 h2 => hbA.block b (by omega)
    have hz4e : z1 ≤ (X.alloc (.cells #[.int .i64 s1, .int .i64 s2] 34)).heap.size := by rw [← hW2]; have := hbA.size; omega
    have hown4 : (X.alloc (.cells #[.int .i64 s1, .int .i64 s2] 34)).ownsRow z1 34 2 o L.length (flat L) := HO.out.alloc _
    have HW2 := Lib.hid hW2; have HB4 := Lib.hid hB4; have Hoth4 := Lib.hid hoth4; have Hbm4 := Lib.hid hbm4; have Hbo4 := Lib.hid hbo4
    obtain ⟨nl, hnl⟩ : ∃ z, z = L.length := ⟨_, rfl⟩
    rw [← hnl] at hown4
    have hnl9 : nl < 900000000 := by omega
    have Hnl := Lib.hid hnl
    clear hW2 hB4 hoth4 hbm4 hbo4 hbA hnl hll
    go_enter Tryz.func59, Tryz.ntmps59
    go_wp2_with (at_builtin; refine append1 tSpans tSpanInfo rfl (by omega) (by omega) rfl _ _ (by rfl) z1 _ nl (flat L) [.int .i64 s1, .int .i64 s2] (by rfl) hown4 (by rfl) (by simp) (by rfl) rfl (by simp [Value.oneCell']) hnl9 hz4e ?_; intro v8 w8 hown8 hb8 _ _; obtain ⟨g8, cap8, rfl, _, _, _, _⟩ := own_formG hown8 (Nat.succ_pos _); rw [← HW2.out] at hb8; have hbo8 := Hbo4.out.block (hb8.block bo (by omega)); have q1 := hbo8.cell; have q2 := hbo8.soft)
    refine bodyPost_ret (results_tmp (fn := Tryz.f59) (t := 6) (by kernel_rfl) _ _ _) rfl ?_
    have hw0 := HJ0.out
    refine ⟨0, rfl, ⟨(HB4.out.trans (hb8.mono (by omega))).setCell (p := ⟨bo, 0, none⟩) hlo.2 (.slice (some ⟨g8, 0, none⟩) (nl + 1) cap8), fun b h1 h2 => (blk_oth (show b ≠ bo by omega) 0 _).trans ((hb8.block b h2).trans (Hoth4.out b h1 h2))⟩, ?_⟩
    rw [if_pos rfl]
    refine ⟨hw0.trans ((HB4.out.trans (hb8.mono (by omega))).setCell (p := ⟨bo, 0, none⟩) hlo.2 (.slice (some ⟨g8, 0, none⟩) (nl + 1) cap8)), ?_, .slice (some ⟨g8, 0, none⟩) (nl + 1) cap8, hbo8.put _, ?_⟩
    · rw [(Hsame.out (by trivial)).1]
      exact (Hbm4.out.block (hb8.block bm (by omega))).oth hne _
    · rw [(Hsame.out (by trivial)).2, flat_snoc, List.length_append, ← Hnl.out]
      exact ownsRow_setCell_below hown8 (show bo < z1 by omega) _
  · have c1 : decide ((mv : Int) < (js.length : Int)) = false := decide_eq_false (by omega)
    have c2 : ((js.length : Int) == (mv : Int)) = false := by rw [beq_eq_false_iff_ne]; omega
    have c1n : decide (mv < js.length) = false := decide_eq_false (by omega)
    have hbA := (Below.refl _ X).alloc (Nat.le_refl _) (.cells #[.int .i64 s1, .int .i64 s2] 34)
    have HbA := Lib.hid hbA; have Hc := Lib.hid hc
    clear hbA hc hll
    go_enter Tryz.func59, Tryz.ntmps59
    go_wp2_with fail
    refine bodyPost_ret (results_tmp (fn := Tryz.f59) (t := 6) (by kernel_rfl) _ _ _) rfl ?_
    refine ⟨0, rfl, ⟨HbA.out.mono (by omega), fun b h1 h2 => HbA.out.block b (by omega)⟩, ?_⟩
    rw [if_pos rfl, MostJ, (Hless.out Hc.out).1, (Hless.out Hc.out).2]
    exact ⟨HJ0.out.trans (HbA.out.mono (by omega)), HBm.out.block (HbA.out.block bm hbml), o, HBo.out.block (HbA.out.block bo hbol), HO.out.alloc _⟩
end Go.Proofs.YtohjgegnamcnlaaGreat
