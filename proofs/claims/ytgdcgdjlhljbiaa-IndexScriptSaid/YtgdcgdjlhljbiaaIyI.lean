/- Law 42: slices.Insert at entries. -/
import Derived.Test.YtgdcgdjlhljbiaaIyH
import Derived.Test.YtgdcgdjlhljbiaaIyF
namespace Go.Proofs.Ytgdcgdjlhljbiaa
open Go.RowKit

def InsE (base : Nat) (w : World) (l : List En) (k : Nat) (x : En) (e : Ending) (w' : World) : Prop := ∃ v', e = .returned v' ∧ OwnsE w' base 75 v' (l.take k ++ [x] ++ l.drop k) ∧ Below base w w'
theorem flatE_ins (l : List En) (k : Nat) (x : En) : (flatE l).take (k * 3) ++ [.int .i64 x.1, .int .i64 x.2.1, .int .i64 x.2.2] ++ (flatE l).drop (k * 3) = flatE (l.take k ++ [x] ++ l.drop k) := by
  rw [flatE_append, flatE_append]
  congr 1
  · congr 1
    exact (flatMap_take (k := 3) _ (fun _ => rfl) l k).symm
  · exact (flatMap_drop (k := 3) _ (fun _ => rfl) l k).symm
set_option maxRecDepth 100000 in
set_option maxHeartbeats 2000000 in
/-- At the end. -/
theorem slInsertEntry_end (v : Value) (l : List En) (x : En) (w : World) (base : Nat) (hown : OwnsE w base 75 v l) (vb : Nat) (hv : w.heap[vb]? = some (.cells #[.int .i64 x.1, .int .i64 x.2.1, .int .i64 x.2.2] 75 (0, 0)))
    (hl : l.length ≤ 100000) (hbase : base ≤ w.heap.size) : Calls Try.prog 67 #[v, .int .i64 (l.length : Int), .slice (some ⟨vb, 0, none⟩) 1 1] w (InsE base w l l.length x) := by
  obtain ⟨i0, hi0, hz0, hsz0, hby0⟩ := info_parts tXEntryInfo
  obtain ⟨x0, x1, x2⟩ := x
  have hnews : ∀ j u, ([.int .i64 x0, .int .i64 x1, .int .i64 x2] : List Value)[j]? = some u → w.cell? ((⟨vb, 0, none⟩ : Addr).add j) = some u := fun j u hu => by
    have e : (⟨vb, 0, none⟩ : Addr).add j = ⟨vb, j, none⟩ := by unfold Addr.add; split <;> simp_all
    rw [e, blk_cell hv]
    simpa using hu
  obtain ⟨n, hn⟩ : ∃ n, n = l.length := ⟨_, rfl⟩
  have hown2 : w.ownsRow base 75 3 v n (flatE l) := by rw [hn]; exact hown
  have hend : ∀ v' w', w'.ownsRow base 75 3 v' (n + 1) (flatE l ++ [.int .i64 x0, .int .i64 x1, .int .i64 x2]) → w.grownBy w' v.ownBlock → ∃ u, Ending.returned v' = .returned u ∧ OwnsE w' base 75 u (l.take n ++ [(x0, x1, x2)] ++ l.drop n) ∧ Below base w w' := fun v' w' h1 h2 => by
    refine ⟨v', rfl, ?_, ?_⟩
    · rw [hn, List.take_length, List.drop_length, List.append_nil]
      unfold OwnsE
      rw [flatE_append, List.length_append, ← hn]
      exact h1
    · exact (Below.refl base w).grown h2 hbase fun g hg => (World.ownsRow.lt hown2 g hg).1
  have Hnews := Lib.hid hnews; have Hown := Lib.hid hown2; have Hend := Lib.hid hend
  have hln : n ≤ 100000 := by omega
  rw [← hn]
  rcases hown2.2 with ⟨rfl, h0⟩ | ⟨g, cap, cur, rfl, _, _, hnc, hcm, _⟩
  · clear hnews hown2 hend hown hv hn
    subst h0
    go_enter Try.func67, Try.ntmps67
    go_wp2_with (at_builtin; refine wpList_append_own_at w rfl _ _ 84 rfl base 75 i0 _ 3 24 Try.underlying84 hi0 hz0 hsz0 hby0 rfl (by omega) (.slice none 0 0) 0 (flatE l) rfl Hown.out ⟨vb, 0, none⟩ 1 1 [.int .i64 x0, .int .i64 x1, .int .i64 x2] rfl rfl Hnews.out (by simp [Value.oneCell']) (by unfold maxLen; omega) (by omega) hbase ?_; intro v' w' p1 p2 _ _; have P1 := Lib.hid p1; have P2 := Lib.hid p2; clear p1 p2)
    go_ret
    exact Hend.out _ _ P1.out P2.out
  · have i1 : (0 : Int) ≤ (n : Int) := by omega
    have i2 : (n : Int) ≤ (cap : Int) := by omega
    unfold maxLen at hcm
    clear hnews hown2 hend hown hv hn
    go_enter Try.func67, Try.ntmps67
    go_wp2_with (at_builtin; refine wpList_append_own_at w rfl _ _ 84 rfl base 75 i0 _ 3 24 Try.underlying84 hi0 hz0 hsz0 hby0 rfl (by omega) (.slice (some ⟨g, 0, none⟩) n cap) n (flatE l) rfl Hown.out ⟨vb, 0, none⟩ 1 1 [.int .i64 x0, .int .i64 x1, .int .i64 x2] rfl rfl Hnews.out (by simp [Value.oneCell']) (by unfold maxLen; omega) (by omega) hbase ?_; intro v' w' p1 p2 _ _; have P1 := Lib.hid p1; have P2 := Lib.hid p2; clear p1 p2)
    all_goals
      go_ret
      exact Hend.out _ _ P1.out P2.out
/-- The facts that both other roads want. -/
theorem own_cellsE {w : World} {base g n cap : Nat} {l : List En} (h : w.ownsRow base 75 3 (.slice (some ⟨g, 0, none⟩) n cap) n (flatE l)) :
    (∀ j u, (flatE l)[j]? = some u → w.cell? ⟨g, j, none⟩ = some u) ∧ (∀ j, j < cap * 3 → (w.cell? ⟨g, j, none⟩).isSome = true) ∧ (∀ j, w.frozen? ⟨g, j, none⟩ = false) ∧ g < w.heap.size ∧ ∃ cur, w.heap[g]? = some (.cells cur 75 (0, 0)) ∧ cur.size = cap * 3 := by
  obtain ⟨_, hxl, _, hmx, cur, hblk, hcs, htk⟩ := own_blk h
  refine ⟨fun j u hu => ?_, fun j hj => ?_, fun j => blk_frozen hblk j, lt_of_block hblk, cur, hblk, hcs⟩
  · have hj : j < n * 3 := by
      rcases Nat.lt_or_ge j (n * 3) with h | h
      · exact h
      · rw [List.getElem?_eq_none (by omega)] at hu; cases hu
    rw [blk_cell hblk, ← hu, ← htk, List.getElem?_take_of_lt hj, Array.getElem?_toList]
  · rw [blk_cell hblk, Array.getElem?_eq_getElem (by omega)]
    rfl
theorem setCells_other {g vb : Nat} (h : vb ≠ g) : ∀ (vs : List Value) (o : Nat) (w : World), (w.setCells g o vs).heap[vb]? = w.heap[vb]?
  | [], _, _ => rfl
  | v :: r, o, w => (setCells_other h r (o + 1) (w.setCell ⟨g, o, none⟩ v)).trans (Below.heap_setCell _ _ _ _ h)
theorem addr_add (g o j : Nat) : (⟨g, o, none⟩ : Addr).add j = ⟨g, o + j, none⟩ := by unfold Addr.add; split <;> simp_all
set_option maxRecDepth 100000 in
set_option maxHeartbeats 4000000 in
/-- There is room, not at the end: in place. -/
theorem slInsertEntry_room (g n cap : Nat) (l : List En) (x : En) (w : World) (base : Nat) (hown : w.ownsRow base 75 3 (.slice (some ⟨g, 0, none⟩) n cap) n (flatE l)) (hn : n = l.length) (vb : Nat) (hv : w.heap[vb]? = some (.cells #[.int .i64 x.1, .int .i64 x.2.1, .int .i64 x.2.2] 75 (0, 0))) (hvg : vb ≠ g)
    (hl : n ≤ 100000) (k : Nat) (hk : k < n) (hroom : n + 1 ≤ cap) : Calls Try.prog 67 #[.slice (some ⟨g, 0, none⟩) n cap, .int .i64 (k : Int), .slice (some ⟨vb, 0, none⟩) 1 1] w (InsE base w l k x) := by
  obtain ⟨x0, x1, x2⟩ := x
  obtain ⟨hgb, hxl, _, hcm, _⟩ := own_blk hown
  obtain ⟨hc, hsp, hfz, hgl, cur, hblk, hcs⟩ := own_cellsE hown
  unfold maxLen at hcm
  have hsz : (Try.prog.info? 75).map (·.size) = some 3 := by kernel_rfl
  have hov : ∀ lb cb, (callFunc 78 #[.slice (some ⟨vb, 0, none⟩) 1 1, .slice (some ⟨g, (k + 1) * 3, none⟩) lb cb]).run Try.prog w = .ok (.value (.bool false)) w := fun lb cb => by
    rw [run_callFunc_extern Try.func78 (by kernel_rfl) (by kernel_rfl) (by kernel_rfl) (e := Extern.SlicesOverlaps.overlaps #[84, 84] #[4]) (by kernel_rfl),
      Lib.run_overlaps_apart w 84 4 75 Try.underlying84 3 Try.sizeOf75 ⟨vb, 0, none⟩ ⟨g, (k + 1) * 3, none⟩ 1 1 lb cb hvg 75 75 3 (cap * 3) (by simp [World.shape?, hv]) (by simp [World.shape?, hblk, hcs]) (by omega) (blk_frozen hv _) (blk_frozen hv _)]
    rfl
  have hdl : ((flatE l).drop (k * 3)).length = (n - k) * 3 := by rw [List.length_drop, hxl, Nat.sub_mul]
  have hcp1 : ∀ ty dc sc, (Builtin.copy_ #[84, 84] ty #[.slice (some ⟨g, (k + 1) * 3, none⟩) (n + 1 - (k + 1)) dc, .slice (some ⟨g, k * 3, none⟩) (n + 1 - k) sc]).run Try.prog w.drew = .ok (goInt ((n - k : Nat) : Int)) (w.drew.setCells g ((k + 1) * 3) ((flatE l).drop (k * 3))) := fun ty dc sc =>
    run_copy_rows w.drew _ _ ty 75 g ((k + 1) * 3) (n + 1 - (k + 1)) dc ⟨g, k * 3, none⟩ (n + 1 - k) sc 3 (n - k) _ Try.underlying84 hsz (by simp only [Nat.min_def]; split <;> omega) hdl
      (fun j u hj => by rw [addr_add]; exact hc _ u (by rwa [List.getElem?_drop] at hj))
      (fun j hj => hsp _ (by omega)) (fun j _ => hfz _) (fun u hu => flatE_one l u (List.mem_of_mem_drop hu))
  have hblk1 := setCells_blk ((flatE l).drop (k * 3)) w.drew _ ((k + 1) * 3) hblk
  have hv1 : (w.drew.setCells g ((k + 1) * 3) ((flatE l).drop (k * 3))).heap[vb]? = some (.cells #[.int .i64 x0, .int .i64 x1, .int .i64 x2] 75 (0, 0)) :=
    (setCells_other hvg _ _ _).trans hv
  have hcp2 : ∀ ty dc, (Builtin.copy_ #[84, 84] ty #[.slice (some ⟨g, k * 3, none⟩) (n + 1 - k) dc, .slice (some ⟨vb, 0, none⟩) 1 1]).run Try.prog (w.drew.setCells g ((k + 1) * 3) ((flatE l).drop (k * 3))) = .ok (goInt ((1 : Nat) : Int)) ((w.drew.setCells g ((k + 1) * 3) ((flatE l).drop (k * 3))).setCells g (k * 3) [.int .i64 x0, .int .i64 x1, .int .i64 x2]) := fun ty dc =>
    run_copy_rows _ _ _ ty 75 g (k * 3) (n + 1 - k) dc ⟨vb, 0, none⟩ 1 1 3 1 [.int .i64 x0, .int .i64 x1, .int .i64 x2] Try.underlying84 hsz (by simp only [Nat.min_def]; split <;> omega) rfl
      (fun j u hj => by rw [addr_add, Nat.zero_add, blk_cell hv1]; simpa using hj)
      (fun j hj => by rw [blk_cell hblk1, Array.getElem?_eq_getElem (by rw [putAll_size, hcs]; simp at hj; omega)]; rfl) (fun j _ => blk_frozen hblk1 _) (by simp [Value.oneCell'])
  have hfin := own_insA (w := w.drew) (k := k) (z := [.int .i64 x0, .int .i64 x1, .int .i64 x2]) hown (by omega) rfl hroom
  have e := flatE_ins l k (x0, x1, x2)
  simp only at e
  rw [e] at hfin
  have hrl : (l.take k ++ [(x0, x1, x2)] ++ l.drop k).length = n + 1 := by simp; omega
  have hb2 : Below base w ((w.drew.setCells g ((k + 1) * 3) ((flatE l).drop (k * 3))).setCells g (k * 3) [.int .i64 x0, .int .i64 x1, .int .i64 x2]) := below_setAll hgb _ _ _ (below_setAll hgb _ _ _ (Below.refl _ _).drew)
  have Hfin : Hid (OwnsE ((w.drew.setCells g ((k + 1) * 3) ((flatE l).drop (k * 3))).setCells g (k * 3) [.int .i64 x0, .int .i64 x1, .int .i64 x2]) base 75 (.slice (some ⟨g, 0, none⟩) (n + 1) cap) (l.take k ++ [(x0, x1, x2)] ++ l.drop k)) := Lib.hid (by unfold OwnsE; rw [hrl]; exact hfin)
  have Hb2 := Lib.hid hb2; have Hcp1 := Lib.hid hcp1; have Hcp2 := Lib.hid hcp2
  have q1 : IntKind.i64.wrap ((k : Int) + 1) = (k : Int) + 1 := by rw [IntKind.wrap_i64]; omega
  have q2 : IntKind.i64.wrap ((n : Int) + 1) = (n : Int) + 1 := by rw [IntKind.wrap_i64]; omega
  have q3 : (0 : Int) ≤ (k : Int) + 1 := by omega
  have q4 : k ≤ n := by omega
  have q5 : ((k : Int) + 1).toNat = k + 1 := by omega
  have q6 : ¬ cap = k + 1 := by omega
  have q7 : (k : Int) ≤ (n : Int) + 1 := by omega
  have q8 : ¬ cap = k := by omega
  have q9 : ¬ ((k : Int) = (n : Int)) := by omega
  have q10 : (k : Int) + 1 ≤ (n : Int) + 1 := by omega
  clear hfin hb2 hcp1 hcp2 hrl e hv1 hblk1 hdl hblk hcs hc hsp hfz hgl hxl hown hv hn
  go_enter Try.func67, Try.ntmps67
  go_wp2_with (simp only [hov])
  have HOV := Lib.hid hov
  clear hov
  go_region_law ((refine step_copy_runI rfl (.tmp 73) (.tmp 76) 84 84 rfl (.slice (some ⟨g, (k + 1) * 3, none⟩) (n + 1 - (k + 1)) (cap - (k + 1))) (.slice (some ⟨g, k * 3, none⟩) (n + 1 - k) (cap - k)) (by simp [Act.eval, Act.put]) (by simp [Act.eval, Act.put]) (Hcp1.out _ _ _) ?_))
  have hcp2 := Hcp2.out
  clear Hcp2 Hcp1
  generalize (w.drew.setCells g ((k + 1) * 3) ((flatE l).drop (k * 3))).setCells g (k * 3) [.int .i64 x0, .int .i64 x1, .int .i64 x2] = W2 at *
  generalize w.drew.setCells g ((k + 1) * 3) ((flatE l).drop (k * 3)) = W1 at *
  go_wp2_with fail
  go_ret
  exact ⟨_, rfl, Hfin.out, Hb2.out⟩
set_option maxRecDepth 100000 in
set_option maxHeartbeats 4000000 in
/-- No room, not at the end: a new row. -/
theorem slInsertEntry_grow (g n cap : Nat) (l : List En) (x : En) (w : World) (base : Nat) (hown : w.ownsRow base 75 3 (.slice (some ⟨g, 0, none⟩) n cap) n (flatE l)) (hn : n = l.length) (vb : Nat) (hv : w.heap[vb]? = some (.cells #[.int .i64 x.1, .int .i64 x.2.1, .int .i64 x.2.2] 75 (0, 0)))
    (hl : n ≤ 100000) (hbase : base ≤ w.heap.size) (k : Nat) (hk : k < n) (hroom : cap < n + 1) : Calls Try.prog 67 #[.slice (some ⟨g, 0, none⟩) n cap, .int .i64 (k : Int), .slice (some ⟨vb, 0, none⟩) 1 1] w (InsE base w l k x) := by
  obtain ⟨x0, x1, x2⟩ := x
  obtain ⟨i0, hi0, hz0, hsz0, hby0⟩ := info_parts tXEntryInfo
  obtain ⟨hgb, hxl, hnc, hcm, _⟩ := own_blk hown
  obtain ⟨hc, hsp, hfz, hgl, cur, hblk, hcs⟩ := own_cellsE hown
  unfold maxLen at hcm
  have hsz : (Try.prog.info? 75).map (·.size) = some 3 := by kernel_rfl
  have hvl := lt_of_block hv
  have htl : ((flatE l).take (k * 3)).length = k * 3 := by rw [List.length_take, hxl]; omega
  have hold : (Builtin.firstCells i0.size k (.slice (some ⟨g, 0, none⟩) k cap)).run Try.prog w.drew = .ok ((flatE l).take (k * 3)).toArray w.drew := by
    rw [hsz0]
    exact run_firstCells_some w.drew 3 k ⟨g, 0, none⟩ k cap ((flatE l).take (k * 3)) htl (fun j u hj => by
      rw [addr_add, Nat.zero_add]
      rw [List.getElem?_take] at hj
      split at hj
      · exact hc j u hj
      · cases hj)
  obtain ⟨G, hG⟩ : ∃ G, G = grownCap w (n + 1) cap 75 := ⟨_, rfl⟩
  obtain ⟨ROW, hROW⟩ : ∃ ROW : Array Value, ROW = ((flatE l).take (k * 3)).toArray ++ Builtin.zeroCells (Value.agg #[.int .i64 0, .int .i64 0, .int .i64 0]).cells (n + 1 - k) ++ Builtin.zeroCells (Value.agg #[.int .i64 0, .int .i64 0, .int .i64 0]).cells (G - (n + 1)) := ⟨_, rfl⟩
  obtain ⟨H, hH⟩ : ∃ H, H = w.heap.size := ⟨_, rfl⟩
  obtain ⟨W1, hW1⟩ : ∃ W1, W1 = w.drew.alloc (.cells ROW 75) := ⟨_, rfl⟩
  have hik : k + (n + 1 - k) = n + 1 := by omega
  have hrz : ∀ ty, (Builtin.append_ #[84, 3] ty #[.slice (some ⟨g, 0, none⟩) k cap, .int .i64 ((n : Int) + 1 - (k : Int))]).run Try.prog w = .ok (.slice (some ⟨H, 0, none⟩) (n + 1) G) W1 := fun ty => by
    have h := Lib.run_append_grow_zeros w 84 3 ty 75 i0 _ .i64 .i64 Try.underlying84 Try.underlying3 hi0 hz0 (some ⟨g, 0, none⟩) k cap ((flatE l).take (k * 3)) hold (n + 1 - k) (by omega) (by omega) (by omega) (by omega) (by rw [hby0]; omega) (by rw [hby0, hik]; exact growslice_fits hroom (by omega))
    rw [hik, ← hG, ← hROW, ← hW1, ← hH] at h
    rw [show (n : Int) + 1 - (k : Int) = ((n + 1 - k : Nat) : Int) from by omega]
    exact h
  have hGn : n + 1 ≤ G := by rw [hG]; exact grownCap_ge w _ _ _
  have hG63 : G ≤ maxLen := by rw [hG]; exact grownCap_le_maxLen w (n + 1) cap 75 (by unfold maxLen; omega)
  have hRs : ROW.size = G * 3 := by
    rw [hROW]
    simp [Builtin.zeroCells, Value.cells, hxl]
    omega
  have hRr : ∀ j, j < k * 3 → ROW[j]? = (flatE l)[j]? := fun j hj => by
    rw [hROW, Array.getElem?_append_left (by simp [hxl, Builtin.zeroCells, Value.cells]; omega), Array.getElem?_append_left (by simp [hxl]; omega), List.getElem?_toArray, List.getElem?_take_of_lt hj]
  have hW1b : W1.heap[H]? = some (.cells ROW 75 (0, 0)) := by rw [hW1, hH]; exact heap_alloc_new w.drew _
  have hbW1 : Below H w W1 := by rw [hW1, hH]; exact (Below.refl _ _).drew.alloc (Nat.le_refl _) _
  have hdl : ((flatE l).drop (k * 3)).length = (n - k) * 3 := by rw [List.length_drop, hxl, Nat.sub_mul]
  have hHg : g ≠ H := by omega
  have hHv : vb ≠ H := by omega
  have hv1 : W1.heap[vb]? = some (.cells #[.int .i64 x0, .int .i64 x1, .int .i64 x2] 75 (0, 0)) := (hbW1.block vb (by omega)).trans hv
  have hcpA : ∀ ty dc, (Builtin.copy_ #[84, 84] ty #[.slice (some ⟨H, k * 3, none⟩) (n + 1 - k) dc, .slice (some ⟨vb, 0, none⟩) 1 1]).run Try.prog W1 = .ok (goInt ((1 : Nat) : Int)) (W1.setCells H (k * 3) [.int .i64 x0, .int .i64 x1, .int .i64 x2]) := fun ty dc =>
    run_copy_rows _ _ _ ty 75 H (k * 3) (n + 1 - k) dc ⟨vb, 0, none⟩ 1 1 3 1 [.int .i64 x0, .int .i64 x1, .int .i64 x2] Try.underlying84 hsz (by simp only [Nat.min_def]; split <;> omega) rfl
      (fun j u hj => by rw [addr_add, Nat.zero_add, blk_cell hv1]; simpa using hj)
      (fun j hj => by rw [blk_cell hW1b, Array.getElem?_eq_getElem (by rw [hRs]; simp at hj; omega)]; rfl) (fun j _ => blk_frozen hW1b _) (by simp [Value.oneCell'])
  obtain ⟨W2, hW2⟩ : ∃ W2, W2 = W1.setCells H (k * 3) [.int .i64 x0, .int .i64 x1, .int .i64 x2] := ⟨_, rfl⟩
  have hW2b : W2.drew.heap[H]? = some (.cells (putAll ROW (k * 3) [.int .i64 x0, .int .i64 x1, .int .i64 x2]) 75 (0, 0)) := by rw [hW2]; exact setCells_blk _ _ _ _ hW1b
  have hW2g : W2.drew.heap[g]? = w.heap[g]? := by
    rw [hW2]
    exact (setCells_other hHg _ _ _).trans (hbW1.block g (by omega))
  have hcpB : ∀ ty dc sc, (Builtin.copy_ #[84, 84] ty #[.slice (some ⟨H, (k + 1) * 3, none⟩) (n + 1 - (k + 1)) dc, .slice (some ⟨g, k * 3, none⟩) (n - k) sc]).run Try.prog W2.drew = .ok (goInt ((n - k : Nat) : Int)) (W2.drew.setCells H ((k + 1) * 3) ((flatE l).drop (k * 3))) := fun ty dc sc =>
    run_copy_rows _ _ _ ty 75 H ((k + 1) * 3) (n + 1 - (k + 1)) dc ⟨g, k * 3, none⟩ (n - k) sc 3 (n - k) _ Try.underlying84 hsz (by simp only [Nat.min_def]; split <;> omega) hdl
      (fun j u hj => by
        rw [addr_add, World.cell?_of_block (w := w) hW2g]
        exact hc _ u (by rwa [List.getElem?_drop] at hj))
      (fun j hj => by rw [blk_cell hW2b, Array.getElem?_eq_getElem (by rw [putAll_size, hRs]; omega)]; rfl) (fun j _ => blk_frozen hW2b _) (fun u hu => flatE_one l u (List.mem_of_mem_drop hu))
  have hfin := own_insB (base := base) (W := W1) (k := k) (z := [.int .i64 x0, .int .i64 x1, .int .i64 x2]) (by omega) hW1b hGn hG63 hRs hxl (by omega) rfl hRr
  rw [← hW2] at hfin
  have hfin2 : (W2.drew.setCells H ((k + 1) * 3) ((flatE l).drop (k * 3))).ownsRow base 75 3 (.slice (some ⟨H, 0, none⟩) (n + 1) G) (n + 1) ((flatE l).take (k * 3) ++ [.int .i64 x0, .int .i64 x1, .int .i64 x2] ++ (flatE l).drop (k * 3)) := by
    rw [← drew_setCells]; exact hfin
  have e := flatE_ins l k (x0, x1, x2)
  simp only at e
  rw [e] at hfin2
  have hrl : (l.take k ++ [(x0, x1, x2)] ++ l.drop k).length = n + 1 := by simp; omega
  have hb2 : Below base w (W2.drew.setCells H ((k + 1) * 3) ((flatE l).drop (k * 3))) := by
    refine below_setAll (by omega) _ _ _ ?_
    rw [hW2]
    exact (below_setAll (by omega) _ _ _ (hbW1.mono (by omega))).drew
  have Hfin : Hid (OwnsE (W2.drew.setCells H ((k + 1) * 3) ((flatE l).drop (k * 3))) base 75 (.slice (some ⟨H, 0, none⟩) (n + 1) G) (l.take k ++ [(x0, x1, x2)] ++ l.drop k)) := Lib.hid (by unfold OwnsE; rw [hrl]; exact hfin2)
  rw [← hW2] at hcpA
  have Hb2 := Lib.hid hb2; have HcpB := Lib.hid hcpB; have Hrz := Lib.hid hrz
  unfold maxLen at hG63
  have q1 : IntKind.i64.wrap ((k : Int) + 1) = (k : Int) + 1 := by rw [IntKind.wrap_i64]; omega
  have q2 : IntKind.i64.wrap ((n : Int) + 1) = (n : Int) + 1 := by rw [IntKind.wrap_i64]; omega
  have q3 : (0 : Int) ≤ (k : Int) + 1 := by omega
  have q4 : k ≤ n := by omega
  have q5 : ((k : Int) + 1).toNat = k + 1 := by omega
  have q6 : ¬ G = k + 1 := by omega
  have q7 : (k : Int) ≤ (n : Int) + 1 := by omega
  have q8 : ¬ cap = k := by omega
  have q9 : ¬ ((k : Int) = (n : Int)) := by omega
  have q10 : (k : Int) + 1 ≤ (n : Int) + 1 := by omega
  have q11 : ¬ G = k := by omega
  have q12 : (cap : Int) < (n : Int) + 1 := by omega
  clear hfin hfin2 hb2 hcpB hrz hrl e hW2g hW2b hW2 hv1 hHv hHg hdl hbW1 hW1b hRr hRs hik hW1 hH hROW hG hold htl hblk hcs hc hsp hfz hgl hxl hown hv hn hvl
  go_enter Try.func67, Try.ntmps67
  go_wp2_with (at_builtin; refine Lib.wpList_append_run _ rfl _ _ _ _ rfl _ _ rfl rfl _ _ (Hrz.out _) ?_)
  go_region_law ((refine step_copy_runI rfl (.tmp 50) (.tmp 53) 84 84 rfl (.slice (some ⟨H, (k + 1) * 3, none⟩) (n + 1 - (k + 1)) (G - (k + 1))) (.slice (some ⟨g, k * 3, none⟩) (n - k) (cap - k)) (by simp [Act.eval, Act.put]) (by simp [Act.eval, Act.put]) (HcpB.out _ _ _) ?_))
  generalize W2.drew.setCells H ((k + 1) * 3) ((flatE l).drop (k * 3)) = W3 at *
  go_wp2_with fail
  go_ret
  exact ⟨_, rfl, Hfin.out, Hb2.out⟩
theorem slInsertEntry_c (v : Value) (l : List En) (x : En) (w : World) (base : Nat) (hown : OwnsE w base 75 v l) (vb : Nat) (hv : w.heap[vb]? = some (.cells #[.int .i64 x.1, .int .i64 x.2.1, .int .i64 x.2.2] 75 (0, 0))) (hne : v.ownBlock ≠ some vb)
    (hl : l.length ≤ 100000) (hbase : base ≤ w.heap.size) (k : Nat) (hk : k ≤ l.length) : Calls Try.prog 67 #[v, .int .i64 (k : Int), .slice (some ⟨vb, 0, none⟩) 1 1] w (InsE base w l k x) := by
  by_cases hke : k = l.length
  · subst hke
    exact slInsertEntry_end v l x w base hown vb hv hl hbase
  · obtain ⟨g, cap, rfl, hgb, hgl, hcap, hcm⟩ := own_formE hown (by omega)
    have hvg : vb ≠ g := fun e => hne (by rw [e]; rfl)
    by_cases hroom : l.length + 1 ≤ cap
    · exact slInsertEntry_room g l.length cap l x w base hown rfl vb hv hvg hl k (by omega) hroom
    · exact slInsertEntry_grow g l.length cap l x w base hown rfl vb hv hl hbase k (by omega) (by omega)
end Go.Proofs.Ytgdcgdjlhljbiaa
