/- Law 42: index.First. -/
import Derived.Test.YtgdcgdjlhljbiaaIyL
namespace Go.Proofs.Ytgdcgdjlhljbiaa
open Go.RowKit

theorem set_blk {W : World} {b : Nat} {cs : Array Value} {t : TypeId} {r : Nat × Nat} (h : W.heap[b]? = some (.cells cs t r)) (i : Nat) (v : Value) : (W.setCell ⟨b, i, none⟩ v).heap[b]? = some (.cells (cs.setIfInBounds i v) t r) := by
  simp [World.setCell, Array.getElem?_modify, h]
theorem set_oth {W : World} {b k : Nat} {o : Obj} (h : W.heap[k]? = some o) (hne : k ≠ b) (i : Nat) (v : Value) : (W.setCell ⟨b, i, none⟩ v).heap[k]? = some o := (Below.heap_setCell W ⟨b, i, none⟩ v k hne).trans h
theorem dom_none (n₀ : Nat) : Dom n₀ (fun _ => True) (fun _ _ => False) := ⟨fun _ _ _ _ => ⟨trivial, fun _ h => h⟩, fun _ _ _ h => h.elim⟩
/-- No entry that has come begins at x or later. -/
def JF (B bx be bo : Nat) (x : Int) (w0 : World) (pre : List En) (W : World) : Prop :=
  (∀ e ∈ pre, e.1 < x) ∧ W.heap[bx]? = some (.cells #[.int .i64 x] 3 (0, 0)) ∧ W.heap[be]? = some (.cells #[.int .i64 0, .int .i64 0, .int .i64 0] 75 (0, 0)) ∧ W.heap[bo]? = some (.cells #[.bool false] 4 (0, 0)) ∧ Below B w0 W
def JxF (B be bo : Nat) (x : Int) (w0 : World) (pre : List En) (W : World) : Prop :=
  ∃ q y, pre = q ++ [y] ∧ (∀ e ∈ q, e.1 < x) ∧ x ≤ y.1 ∧ W.heap[be]? = some (.cells #[.int .i64 y.1, .int .i64 y.2.1, .int .i64 y.2.2] 75 (0, 0)) ∧ W.heap[bo]? = some (.cells #[.bool true] 4 (0, 0)) ∧ Below B w0 W
theorem jf_keep {B bx be bo : Nat} {x : Int} {w0 : World} (hB : B ≤ be) (pre : List En) (W W' : World) (h : JF B bx be bo x w0 pre W) (hb : Below W.heap.size W W') : JF B bx be bo x w0 pre W' := by
  obtain ⟨h1, h2, h3, h4, h5⟩ := h
  have := lt_of_block h3
  exact ⟨h1, (hb.block _ (lt_of_block h2)).trans h2, (hb.block _ (lt_of_block h3)).trans h3, (hb.block _ (lt_of_block h4)).trans h4, h5.trans (hb.mono (by omega))⟩
theorem ent_xFirst1 : ∀ (args : Array Value) (w : World), Sem.run Try.prog (callFunc 59 args) w = .ok (.enter 59 args) w := fun _ _ => by kernel_rfl
set_option maxRecDepth 100000 in
theorem xFirst1_c (B bx be bo : Nat) (x : Int) (w0 : World) (hB : B ≤ be) (hbe : bx < be) (hbo : be < bo) (pre : List En) (y : En) (W : World) (hJ : JF B bx be bo x w0 pre W) :
    Calls Try.prog 59 #[.agg #[.int .i64 y.1, .int .i64 y.2.1, .int .i64 y.2.2], .pointer (some ⟨bx, 0, none⟩), .pointer (some ⟨be, 0, none⟩), .pointer (some ⟨bo, 0, none⟩)] W fun e W' =>
      (e = .returned (.bool true) ∧ JF B bx be bo x w0 (pre ++ [y]) W' ∧ Kp (fun _ => True) (fun _ _ => False) W W') ∨ (e = .returned (.bool false) ∧ JxF B be bo x w0 (pre ++ [y]) W') := by
  obtain ⟨y0, y1, y2⟩ := y
  have hbA := (Below.refl W.heap.size W).alloc (Nat.le_refl _) (.cells #[.int .i64 y0, .int .i64 y1, .int .i64 y2] 75)
  have hJ0 := jf_keep hB _ _ _ hJ hbA
  obtain ⟨h1, h2, h3, h4, h5⟩ := hJ0
  have c0 := blk_cell h2 0
  have c3 := blk_cell h4 0
  simp at c0 c3
  by_cases hxy : x ≤ y0
  · have d : decide (x ≤ y0) = true := decide_eq_true hxy
    have f1 := blk_frozen h3
    have f2 := blk_frozen h4
    have k0 := blk_cell h3 0
    have k1 := blk_cell h3 1
    have k2 := blk_cell h3 2
    simp at k0 k1 k2
    have HJ := Lib.hid hJ; have HA := Lib.hid hbA; have H1 := Lib.hid h1; have H3 := Lib.hid h3; have H4 := Lib.hid h4; have H5 := Lib.hid h5; have Hxy := Lib.hid hxy
    have hne : be ≠ bo := by omega
    have hnx : bx ≠ bo := by omega
    have hnb : bx ≠ be := by omega
    clear hJ hbA h1 h2 h3 h4 h5 hxy
    go_enter Try.func59, Try.ntmps59
    go_wp2_with fail
    go_ret
    refine .inr ⟨rfl, pre, (y0, y1, y2), rfl, H1.out, Hxy.out, ?_, ?_, ?_⟩
    · exact set_oth (set_blk (set_blk (set_blk H3.out 0 _) 1 _) 2 _) hne 0 _
    · exact set_blk (set_oth (set_oth (set_oth H4.out hne.symm 0 _) hne.symm 1 _) hne.symm 2 _) 0 _
    · have h : ∀ (p : Addr), p.block = be ∨ p.block = bo → B ≤ p.block := fun p h => by omega
      exact (((H5.out.setCell (p := ⟨be, 0, none⟩) (h _ (.inl rfl)) _).setCell (p := ⟨be, 1, none⟩) (h _ (.inl rfl)) _).setCell (p := ⟨be, 2, none⟩) (h _ (.inl rfl)) _).setCell (p := ⟨bo, 0, none⟩) (h _ (.inr rfl)) _
  · have d : decide (x ≤ y0) = false := decide_eq_false hxy
    have HJ := Lib.hid (jf_keep hB _ _ _ hJ hbA)
    have HA := Lib.hid hbA
    have Hxy := Lib.hid hxy
    clear hJ hbA h1 h2 h3 h4 h5 hxy
    go_enter Try.func59, Try.ntmps59
    go_wp2_with fail
    go_ret
    obtain ⟨g1, g2, g3, g4, g5⟩ := HJ.out
    exact .inl ⟨rfl, ⟨fun e he => (List.mem_append.1 he).elim (g1 e) (fun h => by rw [List.mem_singleton.1 h]; exact Hxy.out), g2, g3, g4, g5⟩, (dom_none 0).keeps trivial HA.out⟩
/-- The first entry that begins at x or later. -/
noncomputable def firstE (N : List Nd) (root x : Int) : Option En := (comes N root).find? fun e => decide (x ≤ e.1)
def FirstRet (o : Option En) (w : World) (e : Ending) (w' : World) : Prop :=
  e = .returned (.tuple #[.agg #[.int .i64 (o.getD (0, 0, 0)).1, .int .i64 (o.getD (0, 0, 0)).2.1], .int .i64 (o.getD (0, 0, 0)).2.2, .bool o.isSome]) ∧ Below w.heap.size w w'
theorem find_none {l : List En} {x : Int} (h : ∀ e ∈ l, e.1 < x) : l.find? (fun e => decide (x ≤ e.1)) = none :=
  List.find?_eq_none.2 fun e he => by have := h e he; simp; omega
theorem find_at {l q : List En} {y : En} {x : Int} (hp : q ++ [y] <+: l) (h : ∀ e ∈ q, e.1 < x) (hy : x ≤ y.1) : l.find? (fun e => decide (x ≤ e.1)) = some y := by
  obtain ⟨r, rfl⟩ := hp
  rw [List.append_assoc, List.find?_append, find_none h, List.singleton_append, List.find?_cons_of_pos (by simpa using hy)]
  rfl
set_option maxRecDepth 100000 in
set_option maxHeartbeats 4000000 in
theorem xFirst_c (v : Value) (root x : Int) (N : List Nd) (w : World) (hs : IsNodes w v N) : Calls Try.prog 25 #[.agg #[v, .int .i64 root], .int .i64 x] w (FirstRet (firstE N root x) w) := by
  obtain ⟨A, c, rfl, hnc, hc⟩ := hs.form
  obtain ⟨w0, hw0⟩ : ∃ w0, w0 = ((w.alloc (.cells #[.slice A N.length c, .int .i64 root] 24)).alloc (.cells #[.int .i64 x] 3)).alloc (.cells #[.int .i64 0, .int .i64 0] 33) := ⟨_, rfl⟩
  have hb1 : Below w.heap.size w w0 := by rw [hw0]; exact ((Below.refl _ _).alloc (Nat.le_refl _) _ |>.alloc (by simp) _).alloc (by simp; omega) _
  have hz0 : w0.heap.size = w.heap.size + 3 := by rw [hw0]; simp
  have hT : w0.heap[w.heap.size]? = some (.cells #[.slice A N.length c, .int .i64 root] 24 (0, 0)) := by rw [hw0]; exact old_blk (old_blk (new_blk _ _ rfl))
  have hX : w0.heap[w.heap.size + 1]? = some (.cells #[.int .i64 x] 3 (0, 0)) := by rw [hw0]; exact old_blk (new_blk _ _ (by simp))
  have hS : w0.heap[w.heap.size + 1 + 1]? = some (.cells #[.int .i64 0, .int .i64 0] 33 (0, 0)) := by rw [hw0]; exact new_blk _ _ (by simp)
  have hs1 := hs.below hb1
  have KV : Hid (Calls Try.prog 14 #[.agg #[.slice A N.length c, .int .i64 root]] w0 (Ret w0 (.bool (treeB N root)))) := Lib.hid (xValid_c _ _ _ _ hs1)
  have t0 := blk_cell hT 0
  have t1 := blk_cell hT 1
  simp at t0 t1
  rw [hw0] at t0 t1
  have Hw0 := Lib.hid hw0; have Hb1 := Lib.hid hb1; have Hz0 := Lib.hid hz0; have HT := Lib.hid hT; have HX := Lib.hid hX; have HS := Lib.hid hS; have Hs1 := Lib.hid hs1
  clear hw0 hb1 hz0 hT hX hS hs1
  cases ht : treeB N root
  · have e : firstE N root x = none := by unfold firstE comes; rw [ht]; rfl
    rw [e]
    rw [ht] at KV
    clear ht e
    go_enter Try.func25, Try.ntmps25
    go_wp2_with fail
    rw [← Hw0.out]
    refine KV.out.mono ?_
    rintro e w2 ⟨rfl, hb2⟩
    clear t0 t1
    have hS2 := (hb2.block _ (lt_of_block HS.out)).trans HS.out
    have f0 := blk_frozen hS2
    have k0 := blk_cell hS2 0
    have k1 := blk_cell hS2 1
    simp at k0 k1
    have F := set_blk (set_blk hS2 0 (.int .i64 0)) 1 (.int .i64 0)
    have F0 := blk_cell F 0
    have F1 := blk_cell F 1
    simp only [List.setIfInBounds_toArray, List.set_cons_zero, List.set_cons_succ, List.getElem?_toArray, List.getElem?_cons_zero, List.getElem?_cons_succ] at F0 F1
    have HF0 := Lib.hid F0; have HF1 := Lib.hid F1
    have Hb2 := Lib.hid hb2
    clear hS2 hb2 F F0 F1
    go_wp2_with fail
    have F0 := HF0.out
    have F1 := HF1.out
    refine bodyPost_ret (by simp [results, Try.results25, go_sem, F0, F1]; try rfl) rfl ?_
    have hsz := Hz0.out
    exact ⟨rfl, ((Hb1.out.trans (Hb2.out.mono Hb1.out.size)).setCell (p := ⟨w.heap.size + 1 + 1, 0, none⟩) (by simp only; omega) _).setCell (p := ⟨w.heap.size + 1 + 1, 1, none⟩) (by simp only; omega) _⟩
  · obtain ⟨h1, h2⟩ := treeB_valid ht
    obtain ⟨L, hh, m, hsub, _, e1, e2⟩ := entsT_spec h2
    have e : firstE N root x = (entsOf N L).find? (fun e => decide (x ≤ e.1)) := by unfold firstE comes; rw [if_pos ht, e2]
    rw [e]
    obtain ⟨o, ho⟩ : ∃ o, o = (entsOf N L).find? (fun e => decide (x ≤ e.1)) := ⟨_, rfl⟩
    rw [← ho]
    have Ho := Lib.hid ho
    rw [ht] at KV
    clear ht e h1 h2 e1 e2 ho
    go_enter Try.func25, Try.ntmps25
    go_wp2_with fail
    rw [← Hw0.out]
    refine KV.out.mono ?_
    rintro e w2 ⟨rfl, hb2⟩
    clear t0 t1
    have hS2 := (hb2.block _ (lt_of_block HS.out)).trans HS.out
    have hT2 := (hb2.block _ (lt_of_block HT.out)).trans HT.out
    have hX2 := (hb2.block _ (lt_of_block HX.out)).trans HX.out
    have hsz := lt_of_block hS2
    have hb02 := Hb1.out.trans (hb2.mono Hb1.out.size)
    have hs2 := hs.below hb02
    obtain ⟨n, hn⟩ : ∃ n, n = w2.heap.size := ⟨_, rfl⟩
    obtain ⟨w3, hw3⟩ : ∃ w3, w3 = (w2.alloc (.cells #[.int .i64 0, .int .i64 0, .int .i64 0] 75)).alloc (.cells #[.bool false] 4) := ⟨_, rfl⟩
    have hb3 : Below w2.heap.size w2 w3 := by rw [hw3]; exact ((Below.refl _ _).alloc (Nat.le_refl _) _).alloc (by simp) _
    have hE3 : w3.heap[n]? = some (.cells #[.int .i64 0, .int .i64 0, .int .i64 0] 75 (0, 0)) := by rw [hw3, hn]; exact old_blk (new_blk _ _ rfl)
    have hO3 : w3.heap[n + 1]? = some (.cells #[.bool false] 4 (0, 0)) := by rw [hw3, hn]; exact new_blk _ _ (by simp)
    have hS3 := (hb3.block _ (lt_of_block hS2)).trans hS2
    have hT3 := (hb3.block _ (lt_of_block hT2)).trans hT2
    have hX3 := (hb3.block _ (lt_of_block hX2)).trans hX2
    have hs3 := hs2.below hb3
    have hb03 := hb02.trans (hb3.mono hb02.size)
    have HW : Hid (Calls Try.prog 57 #[.agg #[.slice A N.length c, .int .i64 root], .int .i64 root, .func (.func 59) #[] #[.pointer (some ⟨w.heap.size + 1, 0, none⟩), .pointer (some ⟨n, 0, none⟩), .pointer (some ⟨n + 1, 0, none⟩)]] w3 (WalkRet (fun _ => True) (fun _ _ => False) (JF n (w.heap.size + 1) n (n + 1) x w3) (JxF n n (n + 1) x w3) [] (entsOf N L) w3)) := Lib.hid
      (xwalk_c 59 #[.pointer (some ⟨w.heap.size + 1, 0, none⟩), .pointer (some ⟨n, 0, none⟩), .pointer (some ⟨n + 1, 0, none⟩)] ent_xFirst1 w3.heap.size (fun _ => True) (fun _ _ => False) (dom_none _)
        (JF n (w.heap.size + 1) n (n + 1) x w3) (JxF n n (n + 1) x w3) (jf_keep (Nat.le_refl _)) L.length
        (fun pre y W' _ hj _ _ => xFirst1_c n (w.heap.size + 1) n (n + 1) x w3 (Nat.le_refl _) (by omega) (by omega) pre y W' hj) hsub (.slice A N.length c) root [] w3 (LowNodes.of hs3 (Nat.le_refl _)) ⟨by simp, hX3, hE3, hO3, Below.refl _ _⟩ trivial (by simp))
    have t0 := blk_cell hT3 0
    have t1 := blk_cell hT3 1
    simp at t0 t1
    rw [hw3] at t0 t1
    have Hn := Lib.hid hn; have Hw3 := Lib.hid hw3
    have hn2 : w.heap.size + 1 + 1 < n := by omega
    have Hn2 := Lib.hid hn2
    have HS3 := Lib.hid hS3; have Hb03 := Lib.hid hb03; have HN9 := Lib.hid hn2
    clear hb2 hS2 hT2 hX2 hsz hb02 hs2 hn hw3 hb3 hE3 hO3 hS3 hT3 hX3 hs3 hb03 hs hn2
    go_wp2_with fail
    rw [← Hw3.out, ← Hn.out]
    refine HW.out.mono ?_
    rintro e w4 (⟨rfl, ⟨h1, h2, h3, h4, h5⟩, hk⟩ | ⟨rfl, q, hq, q', y, hqe, h1, hy, h3, h4, h5⟩)
    · have hf := find_none (x := x) (l := entsOf N L) (by simpa using h1)
      obtain rfl := Ho.out.trans hf
      have hS4 := (h5.block _ HN9.out).trans HS3.out
      have u0 := blk_cell h3 0
      have u1 := blk_cell h3 1
      have u2 := blk_cell h3 2
      have u3 := blk_cell h4 0
      have k0 := blk_cell hS4 0
      have k1 := blk_cell hS4 1
      have f0 := blk_frozen hS4
      simp at u0 u1 u2 u3 k0 k1
      have F := set_blk (set_blk hS4 0 (.int .i64 0)) 1 (.int .i64 0)
      have F0 := blk_cell F 0
      have F1 := blk_cell F 1
      simp only [List.setIfInBounds_toArray, List.set_cons_zero, List.set_cons_succ, List.getElem?_toArray, List.getElem?_cons_zero, List.getElem?_cons_succ] at F0 F1
      have HF0 := Lib.hid F0; have HF1 := Lib.hid F1; have H5 := Lib.hid (Hb03.out.trans (h5.mono (by have := Hn2.out; omega)))
      clear t0 t1 h1 h2 h3 h4 h5 hk hf hS4 F F0 F1 Ho
      have hn2 := Hn2.out
      have e1 : n ≠ w.heap.size + 1 + 1 := by omega
      have e2 : n + 1 ≠ w.heap.size + 1 + 1 := by omega
      go_wp2_with fail
      go_region
      all_goals go_wp2_with fail
      all_goals
        have F0 := HF0.out
        have F1 := HF1.out
        refine bodyPost_ret (by simp [results, Try.results25, go_sem, F0, F1]; try rfl) rfl ?_
        exact ⟨rfl, ((H5.out.setCell (p := ⟨w.heap.size + 1 + 1, 0, none⟩) (by simp only; omega) _).setCell (p := ⟨w.heap.size + 1 + 1, 1, none⟩) (by simp only; omega) _).drew⟩
    · rw [List.nil_append] at hqe
      have hf := find_at (x := x) (l := entsOf N L) (q := q') (y := y) (hqe ▸ hq) h1 hy
      obtain ⟨y0, y1, y2⟩ := y
      obtain rfl := Ho.out.trans hf
      have hS4 := (h5.block _ HN9.out).trans HS3.out
      have u0 := blk_cell h3 0
      have u1 := blk_cell h3 1
      have u2 := blk_cell h3 2
      have u3 := blk_cell h4 0
      have k0 := blk_cell hS4 0
      have k1 := blk_cell hS4 1
      have f0 := blk_frozen hS4
      simp at u0 u1 u2 u3 k0 k1
      have F := set_blk (set_blk hS4 0 (.int .i64 y0)) 1 (.int .i64 y1)
      have F0 := blk_cell F 0
      have F1 := blk_cell F 1
      simp only [List.setIfInBounds_toArray, List.set_cons_zero, List.set_cons_succ, List.getElem?_toArray, List.getElem?_cons_zero, List.getElem?_cons_succ] at F0 F1
      have HF0 := Lib.hid F0; have HF1 := Lib.hid F1; have H5 := Lib.hid (Hb03.out.trans (h5.mono (by have := Hn2.out; omega)))
      clear t0 t1 h1 h3 h4 h5 hq hqe hy hf hS4 F F0 F1 Ho
      have hn2 := Hn2.out
      have e1 : n ≠ w.heap.size + 1 + 1 := by omega
      have e2 : n + 1 ≠ w.heap.size + 1 + 1 := by omega
      go_wp2_with fail
      go_region
      all_goals go_wp2_with fail
      all_goals
        have F0 := HF0.out
        have F1 := HF1.out
        refine bodyPost_ret (by simp [results, Try.results25, go_sem, F0, F1]; try rfl) rfl ?_
        exact ⟨rfl, ((H5.out.setCell (p := ⟨w.heap.size + 1 + 1, 0, none⟩) (by simp only; omega) _).setCell (p := ⟨w.heap.size + 1 + 1, 1, none⟩) (by simp only; omega) _).drew⟩
end Go.Proofs.Ytgdcgdjlhljbiaa
