/- Law 42: index.Delete. -/
import Derived.Test.YtgdcgdjlhljbiaaIyE
namespace Go.Proofs.Ytgdcgdjlhljbiaa
open Go.RowKit

theorem sub_ok {N : List Nd} {i : Int} {L : List Nat} {h m : Int} (hs : Sub N i L h m) : ∀ e ∈ entsOf N L, okSpan (e.1, e.2.1) = true := by
  induction hs with
  | nil => intro e he; simp [entsOf] at he
  | @node k L R a b x y hk h1 h2 h3 h4 h5 h6 h7 ih1 ih2 =>
    intro e he
    simp only [entsOf, List.map_append, List.mem_append, List.map_cons, List.map_nil, List.mem_singleton] at he
    rcases he with (he | rfl) | he
    · exact ih1 e he
    · exact h3
    · exact ih2 e he
theorem entsT_ok {N : List Nd} {root : Int} (h : validT N root) : ∀ e ∈ entsT N root, okSpan (e.1, e.2.1) = true := by
  obtain ⟨L, hh, m, hs, _, _, e⟩ := entsT_spec h
  rw [e]
  exact sub_ok hs
theorem entsT_ord {N : List Nd} {root : Int} (h : validT N root) : (entsT N root).Pairwise enLt := by
  obtain ⟨L, hh, m, _, ho, _, e⟩ := entsT_spec h
  rw [e]
  exact ho
theorem xentries_t {N : List Nd} {root : Int} (ht : treeB N root = true) (v : Value) (w : World) (hs : IsNodes w v N) : Calls Try.prog 64 #[.agg #[v, .int .i64 root]] w (EntsRet 75 w.heap.size w w (entsT N root)) := by
  obtain ⟨h1, h2⟩ := treeB_valid ht
  obtain ⟨L, hh, m, hsub, _, e1, e2⟩ := entsT_spec h2
  rw [e2]
  exact xentries_c hsub v w hs (by omega)
/-- What Delete answers: a tree's entries less one, or an error. -/
def DelT (N : List Nd) (root : Int) (x : En) (w : World) (e : Ending) (w' : World) : Prop :=
  if treeB N root = false ∨ okSpan (x.1, x.2.1) = false then NoT 1 w e w' else if x ∉ entsT N root then NoT 7 w e w' else ∃ M : List En, M.Pairwise enLt ∧ (x :: M).Perm (entsT N root) ∧ MadeT M w e w'
section
variable {N : List Nd} {root p q y : Int} {w w' : World} {e : Ending}
theorem DelT_1 (h : treeB N root = false ∨ okSpan (p, q) = false) (hn : NoT 1 w e w') : DelT N root (p, q, y) w e w' := by unfold DelT; rw [if_pos h]; exact hn
theorem DelT_7 (h1 : treeB N root = true) (h2 : okSpan (p, q) = true) (h : (p, q, y) ∉ entsT N root) (hn : NoT 7 w e w') : DelT N root (p, q, y) w e w' := by
  unfold DelT
  rw [if_neg (by simp [h1, h2]), if_pos h]
  exact hn
theorem DelT_ok (h1 : treeB N root = true) (h2 : okSpan (p, q) = true) (h : (p, q, y) ∈ entsT N root) (hn : ∃ M : List En, M.Pairwise enLt ∧ ((p, q, y) :: M).Perm (entsT N root) ∧ MadeT M w e w') : DelT N root (p, q, y) w e w' := by
  unfold DelT
  rw [if_neg (by simp [h1, h2]), if_neg (by simpa using h)]
  exact hn
end
theorem bs_dec {l : List En} {x : En} {k : Nat} (ho : l.Pairwise enLt) (h : IsBs l x k) : (decide (x ∈ l) = false ∧ Hid (x ∉ l ∧ IsBs l x k)) ∨ (decide (x ∈ l) = true ∧ k < l.length ∧ Hid (x ∈ l ∧ x = en l k)) := by
  by_cases hx : x ∈ l
  · obtain ⟨h1, h2⟩ := (bs_found ho h).1 hx
    exact .inr ⟨decide_eq_true hx, h1, Lib.hid ⟨hx, h2.symm⟩⟩
  · exact .inl ⟨decide_eq_false hx, Lib.hid ⟨hx, h⟩⟩
theorem del_list {L : List En} {x : En} {k : Nat} (ho : L.Pairwise enLt) (hok : ∀ e ∈ L, okSpan (e.1, e.2.1) = true) (hl : L.length ≤ 100000) (hk : k < L.length) (he : x = en L k) :
    (L.take k ++ L.drop (k + 1)).Pairwise enLt ∧ (x :: (L.take k ++ L.drop (k + 1))).Perm L ∧ (∀ e ∈ L.take k ++ L.drop (k + 1), okSpan (e.1, e.2.1) = true) ∧ (L.take k ++ L.drop (k + 1)).length ≤ 100000 := by
  have hsub : (L.take k ++ L.drop (k + 1)).Sublist L := by
    conv => rhs; rw [← List.take_append_drop k L]
    exact List.Sublist.append_left (by rw [show L.drop (k + 1) = (L.drop k).drop 1 from by simp [List.drop_drop]]; exact List.drop_sublist 1 _) _
  refine ⟨ho.sublist hsub, ?_, fun e h => hok e (hsub.subset h), Nat.le_trans hsub.length_le hl⟩
  have h2 : L = L.take k ++ (x :: L.drop (k + 1)) := by
    rw [he, ← en_at hk, ← List.drop_eq_getElem_cons hk, List.take_append_drop]
  conv => rhs; rw [h2]
  exact List.perm_middle.symm
/-- A result that is stored into its block. -/
theorem res_stored {w : World} {R : Nat} {a b : Value} (h : w.heap[R]? = some (.cells #[a, b] 24 (0, 0))) (s u : Value) :
    ((w.setCell ⟨R, 0, none⟩ s).setCell ⟨R, 1, none⟩ u).heap[R]? = some (.cells #[s, u] 24 (0, 0)) := by simp [World.setCell, Array.getElem?_modify, h]
theorem res_other (w : World) (R : Nat) (s u : Value) {k : Nat} (hk : k ≠ R) : ((w.setCell ⟨R, 0, none⟩ s).setCell ⟨R, 1, none⟩ u).heap[k]? = w.heap[k]? :=
  (Below.heap_setCell _ _ _ _ hk).trans (Below.heap_setCell _ _ _ _ hk)
theorem OwnsN.res {w : World} {base R : Nat} {v : Value} {N : List Nd} (h : OwnsN w base v N) (s u : Value) (hR : R < base) : OwnsN ((w.setCell ⟨R, 0, none⟩ s).setCell ⟨R, 1, none⟩ u) base v N :=
  h.kept fun g n cap e => res_other _ _ _ _ (by
    rcases h.2 with ⟨e2, h0⟩ | ⟨g', cap', cur, e2, hg', _⟩
    · rw [e] at e2; cases e2
    · rw [e] at e2
      injection e2 with e3
      injection e3 with e3
      injection e3 with e3
      omega)
/-- The three boxes of Insert and Delete: the tree, the span, the result. -/
structure Box3 (B : Nat) (s : Value) (root p q : Int) (w : World) : Prop where
  t : w.heap[B]? = some (.cells #[s, .int .i64 root] 24 (0, 0))
  s : w.heap[B + 1]? = some (.cells #[.int .i64 p, .int .i64 q] 33 (0, 0))
  r : w.heap[B + 2]? = some (.cells #[.slice none 0 0, .int .i64 0] 24 (0, 0))
section
variable {B : Nat} {s : Value} {root p q : Int} {w w' : World}
theorem Box3.below (h : Box3 B s root p q w) (hb : Below w.heap.size w w') : Box3 B s root p q w' :=
  ⟨(hb.block _ (lt_of_block h.t)).trans h.t, (hb.block _ (lt_of_block h.s)).trans h.s, (hb.block _ (lt_of_block h.r)).trans h.r⟩
theorem Box3.belowB {b : Nat} (h : Box3 B s root p q w) (hb : Below b w w') (hB : B + 3 ≤ b) : Box3 B s root p q w' :=
  ⟨(hb.block _ (by omega)).trans h.t, (hb.block _ (by omega)).trans h.s, (hb.block _ (by omega)).trans h.r⟩
theorem Box3.mk3 (w : World) (s : Value) (root p q : Int) : Box3 w.heap.size s root p q (((w.alloc (.cells #[s, .int .i64 root] 24)).alloc (.cells #[.int .i64 p, .int .i64 q] 33)).alloc (.cells #[.slice none 0 0, .int .i64 0] 24)) :=
  ⟨old_blk (old_blk (new_blk _ _ rfl)), old_blk (new_blk _ _ (by simp)), new_blk _ _ (by simp)⟩
theorem Box3.t0 (h : Box3 B s root p q w) : w.cell? ⟨B, 0, none⟩ = some s := blk_cell h.t 0
theorem Box3.t1 (h : Box3 B s root p q w) : w.cell? ⟨B, 1, none⟩ = some (.int .i64 root) := blk_cell h.t 1
theorem Box3.s0 (h : Box3 B s root p q w) : w.cell? ⟨B + 1, 0, none⟩ = some (.int .i64 p) := blk_cell h.s 0
theorem Box3.s1 (h : Box3 B s root p q w) : w.cell? ⟨B + 1, 1, none⟩ = some (.int .i64 q) := blk_cell h.s 1
theorem Box3.r0 (h : Box3 B s root p q w) : w.cell? ⟨B + 1 + 1, 0, none⟩ = some (.slice none 0 0) := blk_cell h.r 0
theorem Box3.r1 (h : Box3 B s root p q w) : w.cell? ⟨B + 1 + 1, 1, none⟩ = some (.int .i64 0) := blk_cell h.r 1
theorem Box3.f0 (h : Box3 B s root p q w) : w.frozen? ⟨B + 1 + 1, 0, none⟩ = false := blk_frozen h.r 0
theorem Box3.f1 (h : Box3 B s root p q w) : w.frozen? ⟨B + 1 + 1, 1, none⟩ = false := blk_frozen h.r 1
end
set_option maxRecDepth 100000 in
set_option maxHeartbeats 4000000 in
theorem xDelete_c (v : Value) (root p q y : Int) (N : List Nd) (w : World) (hs : IsNodes w v N) : Calls Try.prog 32 #[.agg #[v, .int .i64 root], .agg #[.int .i64 p, .int .i64 q], .int .i64 y] w (DelT N root (p, q, y) w) := by
  obtain ⟨A, c, rfl, hnc, hc⟩ := hs.form
  have hB1 : Below w.heap.size w (((w.alloc (.cells #[.slice A N.length c, .int .i64 root] 24)).alloc (.cells #[.int .i64 p, .int .i64 q] 33)).alloc (.cells #[.slice none 0 0, .int .i64 0] 24)) := (((Below.refl _ _).alloc (Nat.le_refl _) _).alloc (by simp) _).alloc (by simp; omega) _
  have hbx := Box3.mk3 w (.slice A N.length c) root p q
  have HB1 := Lib.hid hB1; have Hbx := Lib.hid hbx; have Hs := Lib.hid hs
  have KV : Hid (∀ W, Below w.heap.size w W → Calls Try.prog 14 #[.agg #[.slice A N.length c, .int .i64 root]] W (Ret W (.bool (treeB N root)))) := Lib.hid fun W hb => xValid_c _ _ _ _ (hs.below hb)
  have KS : Hid (∀ W, Calls Try.prog 36 #[.agg #[.int .i64 p, .int .i64 q]] W (Ret W (.bool (okSpan (p, q))))) := Lib.hid fun W => ivValid_c p q W
  clear hB1 hbx hs
  cases ht : treeB N root
  · rw [ht] at KV
    have Ht := Lib.hid ht; clear ht
    go_enter Try.func32, Try.ntmps32
    go_wp2_with fail
    have hB := HB1.out; have hbx := Hbx.out
    generalize (((w.alloc (.cells #[.slice A N.length c, .int .i64 root] 24)).alloc (.cells #[.int .i64 p, .int .i64 q] 33)).alloc (.cells #[.slice none 0 0, .int .i64 0] 24)) = w1 at *
    refine (KV.out _ hB).mono ?_
    rintro e W ⟨rfl, hb⟩
    have hB := hB.trans (hb.mono hB.size); have hbx := hbx.below hb; clear hb; have t0 := hbx.t0; have t1 := hbx.t1; have s0 := hbx.s0; have s1 := hbx.s1; have r0 := hbx.r0; have r1 := hbx.r1; have f0 := hbx.f0; have f1 := hbx.f1; clear HB1 Hbx
    have HB2 := Lib.hid hB; have HX2 := Lib.hid hbx
    go_wp2_with fail
    have F := res_stored HX2.out.r (.slice none 0 0) (.int .i64 0)
    have F0 := blk_cell F 0
    have F1 := blk_cell F 1
    have hbF := (HB2.out.setCell (p := ⟨w.heap.size + 1 + 1, 0, none⟩) (by simp only; omega) (.slice none 0 0)).setCell (p := ⟨w.heap.size + 1 + 1, 1, none⟩) (by simp only; omega) (.int .i64 0)
    clear r0 r1 f0 f1 F
    generalize ((W.setCell ⟨w.heap.size + 1 + 1, 0, none⟩ (.slice none 0 0)).setCell ⟨w.heap.size + 1 + 1, 1, none⟩ (.int .i64 0)) = wF at *
    refine bodyPost_ret (by simp [results, Try.results32, go_sem, F0, F1]; try rfl) rfl ?_
    exact DelT_1 (.inl Ht.out) ⟨rfl, hbF⟩
  · rw [ht] at KV
    cases ho : okSpan (p, q)
    · rw [ho] at KS
      have Ho := Lib.hid ho; clear ho ht
      go_enter Try.func32, Try.ntmps32
      go_wp2_with fail
      have hB := HB1.out; have hbx := Hbx.out
      generalize (((w.alloc (.cells #[.slice A N.length c, .int .i64 root] 24)).alloc (.cells #[.int .i64 p, .int .i64 q] 33)).alloc (.cells #[.slice none 0 0, .int .i64 0] 24)) = w1 at *
      refine (KV.out _ hB).mono ?_
      rintro e W ⟨rfl, hb⟩
      have hB := hB.trans (hb.mono hB.size); have hbx := hbx.below hb; clear hb; have t0 := hbx.t0; have t1 := hbx.t1; have s0 := hbx.s0; have s1 := hbx.s1; have r0 := hbx.r0; have r1 := hbx.r1; have f0 := hbx.f0; have f1 := hbx.f1; clear HB1 Hbx
      go_wp2_with (go_at_call 36; (with_reducible refine (KS.out _).mono ?_); rintro e W ⟨rfl, hb⟩; have hB := hB.trans (hb.mono hB.size); have hbx := hbx.below hb; clear hb t0 t1 s0 s1 r0 r1 f0 f1; have t0 := hbx.t0; have t1 := hbx.t1; have s0 := hbx.s0; have s1 := hbx.s1; have r0 := hbx.r0; have r1 := hbx.r1; have f0 := hbx.f0; have f1 := hbx.f1; skip)
      have HB2 := Lib.hid hB; have HX2 := Lib.hid hbx
      go_wp2_with fail
      have F := res_stored HX2.out.r (.slice none 0 0) (.int .i64 0)
      have F0 := blk_cell F 0
      have F1 := blk_cell F 1
      have hbF := (HB2.out.setCell (p := ⟨w.heap.size + 1 + 1, 0, none⟩) (by simp only; omega) (.slice none 0 0)).setCell (p := ⟨w.heap.size + 1 + 1, 1, none⟩) (by simp only; omega) (.int .i64 0)
      clear r0 r1 f0 f1 F
      generalize ((W.setCell ⟨w.heap.size + 1 + 1, 0, none⟩ (.slice none 0 0)).setCell ⟨w.heap.size + 1 + 1, 1, none⟩ (.int .i64 0)) = wF at *
      refine bodyPost_ret (by simp [results, Try.results32, go_sem, F0, F1]; try rfl) rfl ?_
      exact DelT_1 (.inr Ho.out) ⟨rfl, hbF⟩
    · rw [ho] at KS
      obtain ⟨h1, h2⟩ := treeB_valid ht
      have hord := entsT_ord h2
      have hok := entsT_ok h2
      have hlen := entsT_len h2
      have KE : Hid (∀ W, Below w.heap.size w W → Calls Try.prog 64 #[.agg #[.slice A N.length c, .int .i64 root]] W (EntsRet 75 W.heap.size W W (entsT N root))) := Lib.hid fun W hb => xentries_t ht _ W (Hs.out.below hb)
      have Ht := Lib.hid ht; have Ho := Lib.hid ho; have Hord := Lib.hid hord; have Hok := Lib.hid hok; have Hlen := Lib.hid hlen; have H1 := Lib.hid h1
      clear ht ho hord hok hlen h1 h2
      obtain ⟨L, hL⟩ : ∃ L, L = entsT N root := ⟨_, rfl⟩
      rw [← hL] at KE Hord Hok Hlen
      have HL := Lib.hid hL; clear hL
      have KB : Hid (∀ W v, IsEnts W v L → Calls Try.prog 65 #[v, .agg #[.int .i64 p, .int .i64 q, .int .i64 y], .func (.func 52) #[] #[]] W (BsRet L (p, q, y) W)) := Lib.hid fun W v h => slBinEntry_c v L (p, q, y) W h Hord.out (by rw [Hlen.out]; have := H1.out; omega)
      have KD : Hid (∀ W v (k : Nat), OwnsE W (w.heap.size + 3) 75 v L → k < L.length → Calls Try.prog 66 #[v, .int .i64 (k : Int), .int .i64 ((k : Int) + 1)] W (DelE (w.heap.size + 3) W L k)) := Lib.hid fun W v k h hk => slDeleteEntry_c v L W _ h k hk (by rw [Hlen.out]; have := H1.out; omega)
      have KM : Hid (∀ (k : Nat), k < L.length → (p, q, y) = en L k → (L.take k ++ L.drop (k + 1)).Pairwise enLt ∧ ((p, q, y) :: (L.take k ++ L.drop (k + 1))).Perm L ∧ (∀ e ∈ L.take k ++ L.drop (k + 1), okSpan (e.1, e.2.1) = true) ∧ (L.take k ++ L.drop (k + 1)).length ≤ 100000) := Lib.hid fun k hk he => del_list Hord.out Hok.out (by rw [Hlen.out]; have := H1.out; omega) hk he
      go_enter Try.func32, Try.ntmps32
      go_wp2_with fail
      have hB := HB1.out; have hbx := Hbx.out
      generalize (((w.alloc (.cells #[.slice A N.length c, .int .i64 root] 24)).alloc (.cells #[.int .i64 p, .int .i64 q] 33)).alloc (.cells #[.slice none 0 0, .int .i64 0] 24)) = w1 at *
      refine (KV.out _ hB).mono ?_
      rintro e W ⟨rfl, hb⟩
      have hB := hB.trans (hb.mono hB.size); have hbx := hbx.below hb; clear hb; have t0 := hbx.t0; have t1 := hbx.t1; have s0 := hbx.s0; have s1 := hbx.s1; have r0 := hbx.r0; have r1 := hbx.r1; have f0 := hbx.f0; have f1 := hbx.f1; clear HB1 Hbx
      go_wp2_with (first
        | (go_at_call 64; (with_reducible refine (KE.out _ hB).mono ?_); rintro e W ⟨vl, rfl, hol, _, hb⟩; have hol := hol.mono (Nat.succ_le_of_lt (lt_of_block hbx.r)); have hB := hB.trans (hb.mono hB.size); have hbx := hbx.below hb; clear hb t0 t1 s0 s1 r0 r1 f0 f1; have t0 := hbx.t0; have t1 := hbx.t1; have s0 := hbx.s0; have s1 := hbx.s1; have r0 := hbx.r0; have r1 := hbx.r1; have f0 := hbx.f0; have f1 := hbx.f1; have Hol := Lib.hid hol; clear hol)
        | (go_at_call 36; (with_reducible refine (KS.out _).mono ?_); rintro e W ⟨rfl, hb⟩; have hB := hB.trans (hb.mono hB.size); have hbx := hbx.below hb; clear hb t0 t1 s0 s1 r0 r1 f0 f1; have t0 := hbx.t0; have t1 := hbx.t1; have s0 := hbx.s0; have s1 := hbx.s1; have r0 := hbx.r0; have r1 := hbx.r1; have f0 := hbx.f0; have f1 := hbx.f1; skip)
        | (go_at_call 65; (with_reducible refine (KB.out _ _ Hol.out.ents).mono ?_); rintro e W ⟨k, hk, rfl, hb⟩; have hB := hB.trans (hb.mono hB.size); have hbx := hbx.below hb; have Hol := Lib.hid (Hol.out.below hb); clear hb t0 t1 s0 s1 r0 r1 f0 f1; have t0 := hbx.t0; have t1 := hbx.t1; have s0 := hbx.s0; have s1 := hbx.s1; have r0 := hbx.r0; have r1 := hbx.r1; have f0 := hbx.f0; have f1 := hbx.f1; have hkl := hk.le; have hLl : L.length ≤ 1000 := (by rw [Hlen.out]; exact H1.out); rcases bs_dec Hord.out hk with ⟨hd, Hn⟩ | ⟨hd, hk1, Hn⟩ <;> rw [hd] <;> clear hd hk)
        | (go_at_call 66; (with_reducible refine (KD.out _ _ _ Hol.out hk1).mono ?_); rintro e Wd ⟨vd, rfl, hod, hb⟩; have hB := hB.trans (hb.mono (Nat.le_add_right _ _)); have hbx := hbx.belowB hb (Nat.le_refl _); have Hod := Lib.hid hod; clear hb hod t0 t1 s0 s1 r0 r1 f0 f1; have t0 := hbx.t0; have t1 := hbx.t1; have s0 := hbx.s0; have s1 := hbx.s1; have r0 := hbx.r0; have r1 := hbx.r1; have f0 := hbx.f0; have f1 := hbx.f1; skip)
        | (go_at_call 53; have hm := KM.out _ hk1 Hn.out.2; (with_reducible refine (xbuilt_c _ _ _ Hod.out.ents hm.2.2.1 hm.2.2.2).mono ?_); clear hm; rintro e W ⟨A9, c9, N9, r9, rfl, hg9, ho9, hb⟩; have hz9 := lt_of_block hbx.r; have hB := hB.trans (hb.mono hB.size); have hbx := hbx.below hb; have Ho9 := Lib.hid ho9; have Hg9 := Lib.hid hg9; clear hb ho9 hg9 t0 t1 s0 s1 r0 r1 f0 f1; have t0 := hbx.t0; have t1 := hbx.t1; have s0 := hbx.s0; have s1 := hbx.s1; have r0 := hbx.r0; have r1 := hbx.r1; have f0 := hbx.f0; have f1 := hbx.f1; skip)
        | fail)
      · have HB2 := Lib.hid hB; have HX2 := Lib.hid hbx
        go_wp2_with fail
        have F := res_stored HX2.out.r (.slice none 0 0) (.int .i64 0)
        have F0 := blk_cell F 0
        have F1 := blk_cell F 1
        have hbF := (HB2.out.setCell (p := ⟨w.heap.size + 1 + 1, 0, none⟩) (by simp only; omega) (.slice none 0 0)).setCell (p := ⟨w.heap.size + 1 + 1, 1, none⟩) (by simp only; omega) (.int .i64 0)
        clear r0 r1 f0 f1 F
        generalize ((W.setCell ⟨w.heap.size + 1 + 1, 0, none⟩ (.slice none 0 0)).setCell ⟨w.heap.size + 1 + 1, 1, none⟩ (.int .i64 0)) = wF at *
        refine bodyPost_ret (by simp [results, Try.results32, go_sem, F0, F1]; try rfl) rfl ?_
        exact DelT_7 Ht.out Ho.out (HL.out ▸ Hn.out.1) ⟨rfl, hbF⟩
      · have HB2 := Lib.hid hB; have HX2 := Lib.hid hbx
        go_wp2_with fail
        have F := res_stored HX2.out.r (.slice A9 N9.length c9) (.int .i64 r9)
        have F0 := blk_cell F 0
        have F1 := blk_cell F 1
        have hbF := (HB2.out.setCell (p := ⟨w.heap.size + 1 + 1, 0, none⟩) (by simp only; omega) (.slice A9 N9.length c9)).setCell (p := ⟨w.heap.size + 1 + 1, 1, none⟩) (by simp only; omega) (.int .i64 r9)
        have hoF := (Ho9.out.res (.slice A9 N9.length c9) (.int .i64 r9) (show w.heap.size + 1 + 1 < Wd.heap.size by omega)).mono (show w.heap.size ≤ Wd.heap.size by omega)
        clear r0 r1 f0 f1 F
        generalize ((W.setCell ⟨w.heap.size + 1 + 1, 0, none⟩ (.slice A9 N9.length c9)).setCell ⟨w.heap.size + 1 + 1, 1, none⟩ (.int .i64 r9)) = wF at *
        refine bodyPost_ret (by simp [results, Try.results32, go_sem, F0, F1]; try rfl) rfl ?_
        exact DelT_ok Ht.out Ho.out (HL.out ▸ Hn.out.1) ⟨_, (KM.out _ hk1 Hn.out.2).1, HL.out ▸ (KM.out _ hk1 Hn.out.2).2.1, A9, c9, N9, r9, rfl, Hg9.out, hoF, hbF⟩

end Go.Proofs.Ytgdcgdjlhljbiaa
