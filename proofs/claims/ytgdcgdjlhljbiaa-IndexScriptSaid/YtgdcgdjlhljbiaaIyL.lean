/- Law 42: index.All, as an iterator: what a loop over it meets. -/
import Derived.Test.YtgdcgdjlhljbiaaIyA
import Derived.Test.YtgdcgdjlhljbiaaIdxU
import Derived.RangeFuncNested
import Derived.RangeFuncBound
import Derived.RangeFuncCalls
import Derived.RangeFuncLeaves
import Derived.Shelf.Abstract
import Derived.Shelf.RegionOpen
import Derived.OwnWalkIn
import Derived.TacticsInMore
import Derived.LoopNIn
import Derived.LoopIn
namespace Go.Proofs.Ytgdcgdjlhljbiaa
open Go.RowKit Go.Shelf
attribute [local go_sem] Oper.semAt_some

/-- How an entry is handed to a loop's body. -/
def encs2 (x : En) : Array Value := #[.agg #[.int .i64 x.1, .int .i64 x.2.1], .int .i64 x.2.2]
theorem ent_xAll11 : ∀ (args : Array Value) (w : World), Sem.run Try.prog (callFunc 58 args) w = .ok (.enter 58 args) w := fun _ _ => by kernel_rfl
set_option maxRecDepth 100000 in
set_option maxHeartbeats 1000000 in
theorem xAll11_c (l m cy : Nat) (x : En) (W : World) (R : Ending → World → Prop) (hc : W.cell? ⟨cy, 0, none⟩ = some (.func (.yield l) #[] #[]))
    (hY : YieldAt Fence.wide m Try.prog l (encs2 x) (W.alloc (.cells #[.int .i64 x.1, .int .i64 x.2.1, .int .i64 x.2.2] 75)) fun e W' => ∃ b, e = .returned (.bool b) ∧ R e W') :
    Calls Try.prog 58 #[.agg #[.int .i64 x.1, .int .i64 x.2.1, .int .i64 x.2.2], .pointer (some ⟨cy, 0, none⟩)] W R := by
  obtain ⟨x0, x1, x2⟩ := x
  refine (callsIn_wide (n := m + 1)).1 ?_
  obtain ⟨fn, tmps, assign, body, hy, hR⟩ := hY
  unfold encs2 at hy
  simp only at hy hR
  obtain ⟨_, _, _, hbk⟩ := cell_cells hc
  have hc1 : (W.alloc (.cells #[.int .i64 x0, .int .i64 x1, .int .i64 x2] 75)).cell? ⟨cy, 0, none⟩ = some (.func (.yield l) #[] #[]) := (((Below.refl W.heap.size W).alloc (Nat.le_refl _) _).cell (p := ⟨cy, 0, none⟩) (lt_of_block hbk)).trans hc
  clear hbk
  refine callsIn_of_wp Try.func58 rfl trivial ?_ rfl
  simp only [Try.ntmps58, List.size_toArray, List.length_cons, List.length_nil, Nat.reduceAdd, Nat.reduceSub, Array.replicate_succ, Array.replicate_zero, List.push_toArray, List.append_toArray, List.nil_append, List.cons_append]
  gi_wp2
  refine hR.mono ?_
  rintro e W' ⟨b, rfl, hRR⟩
  gi_wp2
  exact hRR
/-- What a round keeps, if the domain is in order. -/
theorem KpW.trans {wf : World → Prop} {O : World → Nat → Prop} {A B C : World} (h : KpW wf O A B) (k : KpW wf O B C) : KpW wf O A C := fun hA => (h hA).trans (k (h hA).wf)
section
variable {n₀ : Nat} {wf : World → Prop} {O : World → Nat → Prop}
/-- The state of the walk: the caller's, the domain in order, the yield in its box. -/
def J2 (wf : World → Prop) (O : World → Nat → Prop) (J : List En → World → Prop) (l cy : Nat) (pre : List En) (W : World) : Prop :=
  J pre W ∧ wf W ∧ W.heap[cy]? = some (.cells #[.func (.yield l) #[] #[]] 68 (0, 0)) ∧ ¬ O W cy
theorem J2.below (hD : Dom n₀ wf O) {J : List En → World → Prop} (hJ : ∀ pre A B, J pre A → Below A.heap.size A B → J pre B) {l cy : Nat} (pre : List En) (W W' : World) (h : J2 wf O J l cy pre W) (hb : Below W.heap.size W W') : J2 wf O J l cy pre W' := by
  obtain ⟨h1, h2, h3, h4⟩ := h
  obtain ⟨g1, g2⟩ := hD.grow W W' h2 hb
  exact ⟨hJ pre W W' h1 hb, g1, (hb.block _ (lt_of_block h3)).trans h3, fun h => h4 (g2 _ h)⟩
set_option maxRecDepth 100000 in
theorem xAll11_round (hD : Dom n₀ wf O) {J Jx : List En → World → Prop} (hJ : ∀ pre A B, J pre A → Below A.heap.size A B → J pre B) (l m cy M : Nat)
    (hY : ∀ pre x W1, J pre W1 → pre.length < M → YieldAt Fence.wide m Try.prog l (encs2 x) W1 fun e W' => (e = .returned (.bool true) ∧ J (pre ++ [x]) W' ∧ KpW wf O W1 W') ∨ (e = .returned (.bool false) ∧ Jx (pre ++ [x]) W'))
    (pre : List En) (x : En) (W : World) (h : J2 wf O J l cy pre W) (hl : pre.length < M) :
    Calls Try.prog 58 (#[.agg #[.int .i64 x.1, .int .i64 x.2.1, .int .i64 x.2.2]] ++ #[.pointer (some ⟨cy, 0, none⟩)]) W fun e W' =>
      (e = .returned (.bool true) ∧ J2 wf O J l cy (pre ++ [x]) W' ∧ Kp wf O W W') ∨ (e = .returned (.bool false) ∧ Jx (pre ++ [x]) W') := by
  have hb1 : Below W.heap.size W (W.alloc (.cells #[.int .i64 x.1, .int .i64 x.2.1, .int .i64 x.2.2] 75)) := (Below.refl _ _).alloc (Nat.le_refl _) _
  obtain ⟨h1, h2, h3, h4⟩ := h
  have hk1 := hD.keeps h2 hb1
  refine xAll11_c l m cy x W _ (blk_cell h3 0) ((hY pre x _ (hJ pre _ _ h1 hb1) hl).mono fun e W' hr => ?_)
  rcases hr with ⟨rfl, hj, hk⟩ | ⟨rfl, hj⟩
  · refine ⟨true, rfl, .inl ⟨rfl, ?_, hk1.trans (hk hk1.wf)⟩⟩
    have hk2 := hk1.trans (hk hk1.wf)
    exact ⟨hj, hk2.wf, hk2.block _ _ _ _ h3 h4, fun ho => (hk2.dom _ ho).elim h4 (fun hge => by have := lt_of_block h3; omega)⟩
  · exact ⟨false, rfl, .inr ⟨rfl, hj⟩⟩
/-- What comes, all told: the entries of a valid tree, none of another. -/
noncomputable def comes (N : List Nd) (root : Int) : List En := if treeB N root = true then entsT N root else []
def AllRet (N : List Nd) (root : Int) (J Jx : List En → World → Prop) (e : Ending) (W' : World) : Prop :=
  (∃ v, e = .returned v) ∧ ((∃ xs, xs = comes N root ∧ J xs W') ∨ (∃ pre, pre <+: comes N root ∧ Jx pre W'))
set_option maxRecDepth 100000 in
set_option maxHeartbeats 1000000 in
theorem xAll1_c (hD : Dom n₀ wf O) {J Jx : List En → World → Prop} (hJ : ∀ pre A B, J pre A → Below A.heap.size A B → J pre B) (l m M ct : Nat) (N : List Nd) (root : Int) (v : Value)
    (hY : ∀ pre x W1, J pre W1 → pre.length < M → YieldAt Fence.wide m Try.prog l (encs2 x) W1 fun e W' => (e = .returned (.bool true) ∧ J (pre ++ [x]) W' ∧ KpW wf O W1 W') ∨ (e = .returned (.bool false) ∧ Jx (pre ++ [x]) W'))
    (hM : (comes N root).length ≤ M) (W : World) (hs : LowNodes n₀ W v N) (hT : W.heap[ct]? = some (.cells #[v, .int .i64 root] 24 (0, 0))) (hw : wf W) (hj : J [] W) :
    Calls Try.prog 56 #[.func (.yield l) #[] #[], .pointer (some ⟨ct, 0, none⟩)] W (AllRet N root J Jx) := by
  obtain ⟨A, c, rfl, hnc, hc⟩ := hs.1.form
  obtain ⟨W1, hW1⟩ : ∃ X, X = W.alloc (.cells #[.func (.yield l) #[] #[]] 68) := ⟨_, rfl⟩
  obtain ⟨cy, hcy⟩ : ∃ x, x = W.heap.size := ⟨_, rfl⟩
  have hb1 : Below W.heap.size W W1 := by rw [hW1]; exact (Below.refl _ _).alloc (Nat.le_refl _) _
  have hcb : W1.heap[cy]? = some (.cells #[.func (.yield l) #[] #[]] 68 (0, 0)) := by rw [hW1, hcy]; exact heap_alloc_new W _
  obtain ⟨g1, g2⟩ := hD.grow W W1 hw hb1
  have hO1 : ¬ O W1 cy := fun h => by have := (hD.lt W cy hw (g2 _ h)).2; omega
  have hJ1 : J2 wf O J l cy [] W1 := ⟨hJ _ _ _ hj hb1, g1, hcb, hO1⟩
  have hs1 := hs.1.below hb1
  have hT1 := (hb1.block _ (lt_of_block hT)).trans hT
  have hlow : ∀ X, Below W1.heap.size W1 X → LowNodes n₀ X (.slice A N.length c) N := fun X hb => ⟨hs1.below hb, hs.2⟩
  have HT : Hid (∀ X, Below W1.heap.size W1 X → X.cell? ⟨ct, 0, none⟩ = some (.slice A N.length c) ∧ X.cell? ⟨ct, 1, none⟩ = some (.int .i64 root)) := Lib.hid fun X hb =>
    have h := (hb.block _ (lt_of_block hT1)).trans hT1
    ⟨blk_cell h 0, blk_cell h 1⟩
  have KV : Hid (Calls Try.prog 14 #[.agg #[.slice A N.length c, .int .i64 root]] W1 (Ret W1 (.bool (treeB N root)))) := Lib.hid (xValid_c _ _ _ _ hs1)
  have t0 := (HT.out _ (Below.refl _ _)).1
  have t1 := (HT.out _ (Below.refl _ _)).2
  cases ht : treeB N root
  · have he : comes N root = [] := by unfold comes; rw [ht]; rfl
    rw [ht] at KV
    have He := Lib.hid he; have HJ1 := Lib.hid hJ1; have HJJ := Lib.hid hJ
    have HW1 := Lib.hid hW1; have Hcy := Lib.hid hcy
    clear ht he hJ1 hJ hD hY hM hs hT hw hj hb1 hcb g1 g2 hO1 hs1 hT1 hlow
    rw [hW1] at t0 t1
    clear hW1 hcy
    go_enter Try.func56, Try.ntmps56
    go_wp2_with fail
    rw [← HW1.out]
    refine KV.out.mono ?_
    rintro e W2 ⟨rfl, hb2⟩
    clear t0 t1
    go_wp2_with fail
    go_end0
    exact ⟨⟨_, rfl⟩, .inl ⟨[], He.out.symm, HJJ.out _ _ _ HJ1.out.1 hb2⟩⟩
  · have he : comes N root = entsT N root := by unfold comes; rw [ht]; rfl
    obtain ⟨h1, h2⟩ := treeB_valid ht
    obtain ⟨L, hh, mm, hsub, _, e1, e2⟩ := entsT_spec h2
    have hll : (entsOf N L).length = L.length := by simp [entsOf]
    have hg : ∀ X, Below W1.heap.size W1 X → Calls Try.prog 57 #[.agg #[.slice A N.length c, .int .i64 root], .int .i64 root, .func (.func 58) #[] #[.pointer (some ⟨cy, 0, none⟩)]] X (WalkRet wf O (J2 wf O J l cy) Jx [] (entsOf N L) X) := fun X hb =>
      have hjx := J2.below hD hJ _ _ _ hJ1 hb
      xwalk_c 58 #[.pointer (some ⟨cy, 0, none⟩)] ent_xAll11 n₀ wf O hD (J2 wf O J l cy) Jx (J2.below hD hJ) L.length
        (fun pre x Y _ hy _ hlt => xAll11_round hD hJ l m cy M hY pre x Y hy (by rw [he, e2] at hM; omega)) hsub (.slice A N.length c) root [] X (hlow X hb) hjx hjx.2.1 (by simp)
    rw [ht] at KV
    have He := Lib.hid (he.trans e2); have HG := Lib.hid hg
    have HW1 := Lib.hid hW1; have Hcy := Lib.hid hcy
    clear ht he hJ1 hJ hD hY hM hs hT hw hj hb1 hcb g1 g2 hO1 hs1 hT1 hlow hg h1 h2 e1 e2 hll hsub
    rw [hW1] at t0 t1
    clear hW1 hcy
    go_enter Try.func56, Try.ntmps56
    go_wp2_with fail
    rw [← HW1.out]
    refine KV.out.mono ?_
    rintro e W2 ⟨rfl, hb2⟩
    clear t0 t1
    have t0 := (HT.out _ hb2).1
    have t1 := (HT.out _ hb2).2
    go_wp2_with fail
    rw [← Hcy.out]
    refine (HG.out _ hb2).mono ?_
    rintro e W3 (⟨rfl, hj3, _⟩ | ⟨rfl, q, hq, hx3⟩)
    · go_wp2_with fail
      go_end0
      exact ⟨⟨_, rfl⟩, .inl ⟨_, He.out.symm, by simpa using hj3.1⟩⟩
    · go_wp2_with fail
      go_end0
      exact ⟨⟨_, rfl⟩, .inr ⟨q, He.out ▸ hq, by simpa using hx3⟩⟩
/-- index.All's function value: its contract as an iterator. -/
theorem xAll_stops (hD : Dom n₀ wf O) (n ct : Nat) (N : List Nd) (root : Int) (v : Value) (w : World) (hs : LowNodes n₀ w v N) (hT : w.heap[ct]? = some (.cells #[v, .int .i64 root] 24 (0, 0))) (hw : wf w) :
    SeqStopsK Fence.wide n Try.prog 56 #[.pointer (some ⟨ct, 0, none⟩)] encs2 (KpW wf O) (fun xs => xs = comes N root) (fun pre => pre <+: comes N root) (comes N root).length w := fun l J Jx W hW hJ _ hY h0 =>
  callsIn_wide.2 (xAll1_c hD (fun pre A B hj hb => hJ pre A B none hj ⟨hb.os, hb.tape, hb.output, hb.size, fun i hi _ => hb.block i hi⟩ (fun r h => by cases h)) l (n - 1) _ ct N root v hY (Nat.le_refl _) W
    ⟨hs.1.below hW, hs.2⟩ ((hW.block _ (lt_of_block hT)).trans hT) (hD.grow w W hw hW).1 h0)
theorem kpW_b (hwf : ∀ W l (o o' : Obj), wf W → W.heap[l]? = some o → o.isCells = false → wf (W.putObj l o') ∧ ∀ k, O (W.putObj l o') k → O W k) (W : World) (l : Nat) (o o' : Obj) (h : W.heap[l]? = some o) (hc : o.isCells = false) : KpW wf O W (W.putObj l o') := fun hw => by
  obtain ⟨h1, h2⟩ := hwf W l o o' hw h hc
  refine ⟨h1, by simp, fun k cs t r hk _ => ?_, fun k hk => .inl (h2 k hk)⟩
  have hne : k ≠ l := fun e => by
    subst e
    rw [h] at hk
    injection hk with hk
    subst hk
    cases hc
  exact (World.putObj_heap_other hne).trans hk
theorem box_put (c : Nat) (t : TypeId) (W : World) (l : Nat) (o o' : Obj) (hw : wfBox c t W) (h : W.heap[l]? = some o) (hc : o.isCells = false) : wfBox c t (W.putObj l o') ∧ ∀ k, OBox c t (W.putObj l o') k → OBox c t W k := by
  obtain ⟨v, hv, hk⟩ := hw
  have hne : c ≠ l := fun e => by
    subst e
    rw [h] at hv
    injection hv with hv
    subst hv
    cases hc
  have e := World.putObj_heap_other (w := W) (o := o') hne
  refine ⟨⟨v, e.trans hv, fun k h => ⟨(hk k h).1, by simpa using (hk k h).2⟩⟩, fun k ho => ho.imp id ?_⟩
  rintro ⟨u, hu, hk'⟩
  exact ⟨u, e.symm.trans hu, hk'⟩
end
theorem xAll_c (v : Value) (root : Int) (N : List Nd) (w : World) (hs : IsNodes w v N) : Calls Try.prog 24 #[.agg #[v, .int .i64 root]] w fun e w' => e = .returned (.func (.func 56) #[] #[.pointer (some ⟨w.heap.size, 0, none⟩)]) ∧ w.alloc (.cells #[v, .int .i64 root] 24) = w' := by
  obtain ⟨A, c, rfl, hnc, hc⟩ := hs.form
  go_enter Try.func24, Try.ntmps24
  go_wp2_with fail
  go_ret
  exact ⟨rfl, rfl⟩
end Go.Proofs.Ytgdcgdjlhljbiaa
