/- IndexInserts: Insert returns a valid tree with one entry more, or the specified error, for every tree, interval and value. No condition. -/
import Derived.Test.YtgdcgdjlhljbiaaIyJ
import Derived.Test.YtgdcgdjlhljbiaaTree
namespace Go.Proofs.Ytgdcgdjlhljbiaa
open Go.RowKit Go.Shelf Go.ChangeShapes Go.WideShapes Go.ChangeAt

/-- The two boxes of the law: the tree, the span. -/
structure Box2 (B : Nat) (s : Value) (root p q : Int) (w : World) : Prop where
  t : w.heap[B]? = some (.cells #[s, .int .i64 root] 24 (0, 0))
  s : w.heap[B + 1]? = some (.cells #[.int .i64 p, .int .i64 q] 33 (0, 0))
section
variable {B : Nat} {s : Value} {root p q : Int} {w w' : World}
theorem Box2.below (h : Box2 B s root p q w) (hb : Below w.heap.size w w') : Box2 B s root p q w' :=
  ⟨(hb.block _ (lt_of_block h.t)).trans h.t, (hb.block _ (lt_of_block h.s)).trans h.s⟩
theorem Box2.drew (h : Box2 B s root p q w) : Box2 B s root p q w.drew := ⟨h.t, h.s⟩
theorem Box2.mk2 (w : World) (s : Value) (root p q : Int) : Box2 w.heap.size s root p q ((w.alloc (.cells #[s, .int .i64 root] 24)).alloc (.cells #[.int .i64 p, .int .i64 q] 33)) :=
  ⟨old_blk (new_blk _ _ rfl), new_blk _ _ (by simp)⟩
theorem Box2.t0 (h : Box2 B s root p q w) : w.cell? ⟨B, 0, none⟩ = some s := blk_cell h.t 0
theorem Box2.t1 (h : Box2 B s root p q w) : w.cell? ⟨B, 1, none⟩ = some (.int .i64 root) := blk_cell h.t 1
theorem Box2.s0 (h : Box2 B s root p q w) : w.cell? ⟨B + 1, 0, none⟩ = some (.int .i64 p) := blk_cell h.s 0
theorem Box2.s1 (h : Box2 B s root p q w) : w.cell? ⟨B + 1, 1, none⟩ = some (.int .i64 q) := blk_cell h.s 1
end
theorem xInsert_1 (v : Value) (root p q y : Int) (N : List Nd) (w : World) (hs : IsNodes w v N) (h : treeB N root = false ∨ okSpan (p, q) = false) : Calls Try.prog 34 #[.agg #[v, .int .i64 root], .agg #[.int .i64 p, .int .i64 q], .int .i64 y] w (NoT 1 w) :=
  (xInsert_c v root p q y N w hs).mono fun e w' k => by unfold InsT at k; rwa [if_pos h] at k
theorem xInsert_no (v : Value) (root p q y : Int) (N : List Nd) (w : World) (hs : IsNodes w v N) (h1 : treeB N root = true) (h2 : okSpan (p, q) = true) (h : (p, q, y) ∈ entsT N root) : Calls Try.prog 34 #[.agg #[v, .int .i64 root], .agg #[.int .i64 p, .int .i64 q], .int .i64 y] w (NoT 8 w) :=
  (xInsert_c v root p q y N w hs).mono fun e w' k => by unfold InsT at k; rwa [if_neg (by simp [h1, h2]), if_pos h] at k
theorem xInsert_full (v : Value) (root p q y : Int) (N : List Nd) (w : World) (hs : IsNodes w v N) (h1 : treeB N root = true) (h2 : okSpan (p, q) = true) (h : (p, q, y) ∉ entsT N root) (h5 : N.length = 1000) : Calls Try.prog 34 #[.agg #[v, .int .i64 root], .agg #[.int .i64 p, .int .i64 q], .int .i64 y] w (NoT 5 w) :=
  (xInsert_c v root p q y N w hs).mono fun e w' k => by unfold InsT at k; rwa [if_neg (by simp [h1, h2]), if_neg h, if_pos h5] at k
def InsOk (N : List Nd) (root : Int) (x : En) (w : World) (e : Ending) (w' : World) : Prop := ∃ M : List En, M.Pairwise enLt ∧ M.Perm (x :: entsT N root) ∧ MadeT M w e w'
theorem xInsert_ok (v : Value) (root p q y : Int) (N : List Nd) (w : World) (hs : IsNodes w v N) (h1 : treeB N root = true) (h2 : okSpan (p, q) = true) (h : (p, q, y) ∉ entsT N root) (h5 : N.length ≠ 1000) : Calls Try.prog 34 #[.agg #[v, .int .i64 root], .agg #[.int .i64 p, .int .i64 q], .int .i64 y] w (InsOk N root (p, q, y) w) :=
  (xInsert_c v root p q y N w hs).mono fun e w' k => by unfold InsT at k; rwa [if_neg (by simp [h1, h2]), if_neg h, if_neg h5] at k
set_option maxRecDepth 100000 in
set_option maxHeartbeats 8000000 in
theorem law42Inserts_c (v : Value) (root : Int) (N : List Nd) (p q y : Int) (w : World) (hs : IsNodes w v N) : Calls Try.prog 8 #[.agg #[v, .int .i64 root], .agg #[.int .i64 p, .int .i64 q], .int .i64 y] w (Ret w (.bool true)) := by
  obtain ⟨A, c, rfl, hnc, hc⟩ := hs.form
  have hB1 : Below w.heap.size w ((w.alloc (.cells #[.slice A N.length c, .int .i64 root] 24)).alloc (.cells #[.int .i64 p, .int .i64 q] 33)) := ((Below.refl _ _).alloc (Nat.le_refl _) _).alloc (by simp) _
  have hbx := Box2.mk2 w (.slice A N.length c) root p q
  have HB1 := Lib.hid hB1; have Hbx := Lib.hid hbx; have Hs := Lib.hid hs
  have KG : Hid (∀ W, Below w.heap.size w W → Calls Try.prog 13 #[.agg #[.slice A N.length c, .int .i64 root]] W (Ret W (.bool (greatB N)))) := Lib.hid fun W hb => great42_c _ _ _ _ (hs.below hb)
  have KV : Hid (∀ W, Below w.heap.size w W → Calls Try.prog 15 #[.agg #[.slice A N.length c, .int .i64 root]] W (Ret W (.bool (treeB N root)))) := Lib.hid fun W hb => r42Valid_c _ _ _ _ (hs.below hb)
  have KS : Hid (∀ W, Calls Try.prog 19 #[.agg #[.int .i64 p, .int .i64 q]] W (Ret W (.bool (okSpan (p, q))))) := Lib.hid fun W => r10Valid_c p q W
  have NONE := Lib.hid fun W => none42_c none 0 0 0 W (by omega)
  clear hB1 hbx hs
  cases hg : greatB N
  rotate_left
  · rw [hg] at KG
    clear hg
    go_enter Try.func8, Try.ntmps8
    go_wp2_with fail
    have hB := HB1.out; have hbx := Hbx.out
    generalize (w.alloc (.cells #[.slice A N.length c, .int .i64 root] 24)).alloc (.cells #[.int .i64 p, .int .i64 q] 33) = w1 at *
    refine (awake42_c _).mono ?_
    rintro e W ⟨rfl, hb⟩
    have hB := hB.trans (hb.mono hB.size); have hbx := hbx.below hb; clear hb; have t0 := hbx.t0; have t1 := hbx.t1; have s0 := hbx.s0; have s1 := hbx.s1; 
    go_wp2_with fail
    refine (KG.out _ hB).mono ?_
    rintro e W ⟨rfl, hb⟩
    have hB := hB.trans (hb.mono hB.size); have hbx := hbx.below hb; clear hb t0 t1 s0 s1; have t0 := hbx.t0; have t1 := hbx.t1; have s0 := hbx.s0; have s1 := hbx.s1; 
    go_wp2_with fail
    go_ret
    exact ⟨rfl, hB⟩
  rw [hg] at KG
  clear hg
  cases ht : treeB N root
  · have KO : Hid (∀ W, Below w.heap.size w W → Calls Try.prog 34 #[.agg #[.slice A N.length c, .int .i64 root], .agg #[.int .i64 p, .int .i64 q], .int .i64 y] W (NoT 1 W)) := Lib.hid fun W hb => xInsert_1 _ _ _ _ _ _ _ (Hs.out.below hb) (.inl ht)
    rw [ht] at KV
    clear ht
    go_enter Try.func8, Try.ntmps8
    go_wp2_with fail
    have hB := HB1.out; have hbx := Hbx.out
    generalize (w.alloc (.cells #[.slice A N.length c, .int .i64 root] 24)).alloc (.cells #[.int .i64 p, .int .i64 q] 33) = w1 at *
    refine (awake42_c _).mono ?_
    rintro e W ⟨rfl, hb⟩
    have hB := hB.trans (hb.mono hB.size); have hbx := hbx.below hb; clear hb; have t0 := hbx.t0; have t1 := hbx.t1; have s0 := hbx.s0; have s1 := hbx.s1; 
    go_wp2_with fail
    refine (KG.out _ hB).mono ?_
    rintro e W ⟨rfl, hb⟩
    have hB := hB.trans (hb.mono hB.size); have hbx := hbx.below hb; clear hb t0 t1 s0 s1; have t0 := hbx.t0; have t1 := hbx.t1; have s0 := hbx.s0; have s1 := hbx.s1; 
    go_wp2_with fail
    refine (KO.out _ hB).mono ?_
    rintro e W3 ⟨rfl, hb⟩
    have hB := hB.trans (hb.mono hB.size); have hbx := hbx.below hb; clear hb t0 t1 s0 s1; 
    have hT := heap_alloc_new W3 (.cells #[.slice none 0 0, .int .i64 0] 24)
    have hB := hB.alloc hB.size (.cells #[.slice none 0 0, .int .i64 0] 24)
    have hbx := hbx.below ((Below.refl W3.heap.size W3).alloc (Nat.le_refl _) (.cells #[.slice none 0 0, .int .i64 0] 24))
    have t0 := hbx.t0; have t1 := hbx.t1; have s0 := hbx.s0; have s1 := hbx.s1; 
    have HB := Lib.hid hB; have HX := Lib.hid hbx; have HT := Lib.hid hT
    clear hB hbx hT
    go_wp2_with fail
    have hB := HB.out; have hbx := HX.out; have hT := HT.out
    clear HB HX HT
    generalize W3.alloc (.cells #[.slice none 0 0, .int .i64 0] 24) = W at *
    obtain ⟨T, hTT⟩ : ∃ T, T = W3.heap.size := ⟨_, rfl⟩
    rw [← hTT] at hT ⊢
    clear hTT
    have u0 := blk_cell hT 0
    have u1 := blk_cell hT 1
    simp at u0 u1
    refine (KV.out _ hB).mono ?_
    rintro e W ⟨rfl, hb⟩
    have hT := (hb.block _ (lt_of_block hT)).trans hT; have hB := hB.trans (hb.mono hB.size); have hbx := hbx.below hb; clear hb t0 t1 s0 s1 u0 u1; have u0 := blk_cell hT 0; have u1 := blk_cell hT 1; simp at u0 u1; have t0 := hbx.t0; have t1 := hbx.t1; have s0 := hbx.s0; have s1 := hbx.s1; 
    go_wp2_with (go_at_call 20; (with_reducible refine (NONE.out _).mono ?_); rintro e W ⟨rfl, hb⟩; have hB := hB.trans (hb.mono hB.size); have hbx := hbx.below hb; clear hb)
    go_ret
    exact ⟨rfl, hB⟩
  rw [ht] at KV
  cases ho : okSpan (p, q)
  · have KO : Hid (∀ W, Below w.heap.size w W → Calls Try.prog 34 #[.agg #[.slice A N.length c, .int .i64 root], .agg #[.int .i64 p, .int .i64 q], .int .i64 y] W (NoT 1 W)) := Lib.hid fun W hb => xInsert_1 _ _ _ _ _ _ _ (Hs.out.below hb) (.inr ho)
    rw [ho] at KS
    clear ho ht
    go_enter Try.func8, Try.ntmps8
    go_wp2_with fail
    have hB := HB1.out; have hbx := Hbx.out
    generalize (w.alloc (.cells #[.slice A N.length c, .int .i64 root] 24)).alloc (.cells #[.int .i64 p, .int .i64 q] 33) = w1 at *
    refine (awake42_c _).mono ?_
    rintro e W ⟨rfl, hb⟩
    have hB := hB.trans (hb.mono hB.size); have hbx := hbx.below hb; clear hb; have t0 := hbx.t0; have t1 := hbx.t1; have s0 := hbx.s0; have s1 := hbx.s1; 
    go_wp2_with fail
    refine (KG.out _ hB).mono ?_
    rintro e W ⟨rfl, hb⟩
    have hB := hB.trans (hb.mono hB.size); have hbx := hbx.below hb; clear hb t0 t1 s0 s1; have t0 := hbx.t0; have t1 := hbx.t1; have s0 := hbx.s0; have s1 := hbx.s1; 
    go_wp2_with fail
    refine (KO.out _ hB).mono ?_
    rintro e W3 ⟨rfl, hb⟩
    have hB := hB.trans (hb.mono hB.size); have hbx := hbx.below hb; clear hb t0 t1 s0 s1; 
    have hT := heap_alloc_new W3 (.cells #[.slice none 0 0, .int .i64 0] 24)
    have hB := hB.alloc hB.size (.cells #[.slice none 0 0, .int .i64 0] 24)
    have hbx := hbx.below ((Below.refl W3.heap.size W3).alloc (Nat.le_refl _) (.cells #[.slice none 0 0, .int .i64 0] 24))
    have t0 := hbx.t0; have t1 := hbx.t1; have s0 := hbx.s0; have s1 := hbx.s1; 
    have HB := Lib.hid hB; have HX := Lib.hid hbx; have HT := Lib.hid hT
    clear hB hbx hT
    go_wp2_with fail
    have hB := HB.out; have hbx := HX.out; have hT := HT.out
    clear HB HX HT
    generalize W3.alloc (.cells #[.slice none 0 0, .int .i64 0] 24) = W at *
    obtain ⟨T, hTT⟩ : ∃ T, T = W3.heap.size := ⟨_, rfl⟩
    rw [← hTT] at hT ⊢
    clear hTT
    have u0 := blk_cell hT 0
    have u1 := blk_cell hT 1
    simp at u0 u1
    refine (KV.out _ hB).mono ?_
    rintro e W ⟨rfl, hb⟩
    have hT := (hb.block _ (lt_of_block hT)).trans hT; have hB := hB.trans (hb.mono hB.size); have hbx := hbx.below hb; clear hb t0 t1 s0 s1 u0 u1; have u0 := blk_cell hT 0; have u1 := blk_cell hT 1; simp at u0 u1; have t0 := hbx.t0; have t1 := hbx.t1; have s0 := hbx.s0; have s1 := hbx.s1; 
    go_wp2_with (first | (go_at_call 19; (with_reducible refine (KS.out _).mono ?_); rintro e W ⟨rfl, hb⟩; have hT := (hb.block _ (lt_of_block hT)).trans hT; have hB := hB.trans (hb.mono hB.size); have hbx := hbx.below hb; clear hb t0 t1 s0 s1 u0 u1; have u0 := blk_cell hT 0; have u1 := blk_cell hT 1; simp at u0 u1; have t0 := hbx.t0; have t1 := hbx.t1; have s0 := hbx.s0; have s1 := hbx.s1; skip) | (go_at_call 20; (with_reducible refine (NONE.out _).mono ?_); rintro e W ⟨rfl, hb⟩; have hB := hB.trans (hb.mono hB.size); have hbx := hbx.below hb; clear hb))
    go_ret
    exact ⟨rfl, hB⟩
  rw [ho] at KS
  obtain ⟨h1, h2⟩ := treeB_valid ht
  have hord := entsT_ord h2
  have hlen := entsT_len h2
  have KE : Hid (∀ W, Below w.heap.size w W → Calls Try.prog 29 #[.agg #[.slice A N.length c, .int .i64 root]] W (EntsRet 39 W.heap.size W W (entsT N root))) := Lib.hid fun W hb => r42Entries_c ht _ _ (Hs.out.below hb)
  obtain ⟨L, hL⟩ : ∃ L, L = entsT N root := ⟨_, rfl⟩
  have Hlen : Hid (L.length ≤ 1000) := Lib.hid (by rw [hL, hlen]; exact h1)
  have Hord : Hid (L.Pairwise enLt) := Lib.hid (by rw [hL]; exact hord)
  rw [← hL] at KE
  by_cases hin : (p, q, y) ∈ L
  · have KO : Hid (∀ W, Below w.heap.size w W → Calls Try.prog 34 #[.agg #[.slice A N.length c, .int .i64 root], .agg #[.int .i64 p, .int .i64 q], .int .i64 y] W (NoT 8 W)) := Lib.hid fun W hb => xInsert_no _ _ _ _ _ _ _ (Hs.out.below hb) ht ho (by rw [← hL]; exact hin)
    have KR : Hid (∀ W v, IsEnts W v L → Calls Try.prog 21 #[v, .agg #[.int .i64 p, .int .i64 q, .int .i64 y]] W (EntsB W ([], false))) := Lib.hid fun W v h => by
      have := r42Insert_c v L (p, q, y) W h (by have := Hlen.out; omega)
      rwa [insE_found hin] at this
    clear ht ho hin hL hord hlen h1 h2
    go_enter Try.func8, Try.ntmps8
    go_wp2_with fail
    have hB := HB1.out; have hbx := Hbx.out
    generalize (w.alloc (.cells #[.slice A N.length c, .int .i64 root] 24)).alloc (.cells #[.int .i64 p, .int .i64 q] 33) = w1 at *
    refine (awake42_c _).mono ?_
    rintro e W ⟨rfl, hb⟩
    have hB := hB.trans (hb.mono hB.size); have hbx := hbx.below hb; clear hb; have t0 := hbx.t0; have t1 := hbx.t1; have s0 := hbx.s0; have s1 := hbx.s1; 
    go_wp2_with fail
    refine (KG.out _ hB).mono ?_
    rintro e W ⟨rfl, hb⟩
    have hB := hB.trans (hb.mono hB.size); have hbx := hbx.below hb; clear hb t0 t1 s0 s1; have t0 := hbx.t0; have t1 := hbx.t1; have s0 := hbx.s0; have s1 := hbx.s1; 
    go_wp2_with fail
    refine (KO.out _ hB).mono ?_
    rintro e W3 ⟨rfl, hb⟩
    have hB := hB.trans (hb.mono hB.size); have hbx := hbx.below hb; clear hb t0 t1 s0 s1; 
    have hT := heap_alloc_new W3 (.cells #[.slice none 0 0, .int .i64 0] 24)
    have hB := hB.alloc hB.size (.cells #[.slice none 0 0, .int .i64 0] 24)
    have hbx := hbx.below ((Below.refl W3.heap.size W3).alloc (Nat.le_refl _) (.cells #[.slice none 0 0, .int .i64 0] 24))
    have t0 := hbx.t0; have t1 := hbx.t1; have s0 := hbx.s0; have s1 := hbx.s1; 
    have HB := Lib.hid hB; have HX := Lib.hid hbx; have HT := Lib.hid hT
    clear hB hbx hT
    go_wp2_with fail
    have hB := HB.out; have hbx := HX.out; have hT := HT.out
    clear HB HX HT
    generalize W3.alloc (.cells #[.slice none 0 0, .int .i64 0] 24) = W at *
    obtain ⟨T, hTT⟩ : ∃ T, T = W3.heap.size := ⟨_, rfl⟩
    rw [← hTT] at hT ⊢
    clear hTT
    have u0 := blk_cell hT 0
    have u1 := blk_cell hT 1
    simp at u0 u1
    refine (KV.out _ hB).mono ?_
    rintro e W ⟨rfl, hb⟩
    have hT := (hb.block _ (lt_of_block hT)).trans hT; have hB := hB.trans (hb.mono hB.size); have hbx := hbx.below hb; clear hb t0 t1 s0 s1 u0 u1; have u0 := blk_cell hT 0; have u1 := blk_cell hT 1; simp at u0 u1; have t0 := hbx.t0; have t1 := hbx.t1; have s0 := hbx.s0; have s1 := hbx.s1; 
    go_wp2_with (go_at_call 19; (with_reducible refine (KS.out _).mono ?_); rintro e W ⟨rfl, hb⟩; have hT := (hb.block _ (lt_of_block hT)).trans hT; have hB := hB.trans (hb.mono hB.size); have hbx := hbx.below hb; clear hb t0 t1 s0 s1 u0 u1; have u0 := blk_cell hT 0; have u1 := blk_cell hT 1; simp at u0 u1; have t0 := hbx.t0; have t1 := hbx.t1; have s0 := hbx.s0; have s1 := hbx.s1; skip)
    go_region_held3 (fun W' => W'.cell? ⟨w.heap.size, 0, none⟩ = some (.slice A N.length c) ∧ W'.cell? ⟨w.heap.size, 1, none⟩ = some (.int .i64 root) ∧ W'.cell? ⟨w.heap.size + 1, 0, none⟩ = some (.int .i64 p) ∧ W'.cell? ⟨w.heap.size + 1, 1, none⟩ = some (.int .i64 q)) ((first | exact ⟨hbx.t0, hbx.t1, hbx.s0, hbx.s1⟩ | exact ⟨hbx.drew.t0, hbx.drew.t1, hbx.drew.s0, hbx.drew.s1⟩)) (first
      | (go_at_call 29; (with_reducible refine (KE.out _ hB.drew).mono ?_); rintro e W ⟨ve, rfl, hoe, _, hb⟩; have hT := (hb.block _ (lt_of_block hT)).trans hT; have hB := hB.drew.trans (hb.mono hB.size); have hbx := hbx.drew.below hb; clear hb)
      | (go_at_call 21; (with_reducible refine (KR.out _ _ hoe.ents).mono ?_); rintro e W ⟨vr, rfl, hor, hb⟩; have hT := (hb.block _ (lt_of_block hT)).trans hT; have hB := hB.trans (hb.mono hB.size); have hbx := hbx.below hb; clear hb)
      | fail)
    all_goals
      clear u0 u1 t0 t1 s0 s1
      have u0 := blk_cell hT 0
      have u1 := blk_cell hT 1
      simp at u0 u1
      go_wp2_with (go_at_call 20; (with_reducible refine (NONE.out _).mono ?_); rintro e W ⟨rfl, hb⟩; have hB := hB.trans (hb.mono hB.size); have hbx := hbx.below hb; clear hb)
      go_ret
      exact ⟨rfl, hB⟩
  by_cases h5 : N.length = 1000
  · have KO : Hid (∀ W, Below w.heap.size w W → Calls Try.prog 34 #[.agg #[.slice A N.length c, .int .i64 root], .agg #[.int .i64 p, .int .i64 q], .int .i64 y] W (NoT 5 W)) := Lib.hid fun W hb => xInsert_full _ _ _ _ _ _ _ (Hs.out.below hb) ht ho (by rw [← hL]; exact hin) h5
    obtain ⟨M', hM'⟩ : ∃ M', M' = (insE L (p, q, y)).1 := ⟨_, rfl⟩
    have hins := insE_spec Hord.out hin
    have KR : Hid (∀ W v, IsEnts W v L → Calls Try.prog 21 #[v, .agg #[.int .i64 p, .int .i64 q, .int .i64 y]] W (EntsB W (M', true))) := Lib.hid fun W v h => by
      have := r42Insert_c v L (p, q, y) W h (by have := Hlen.out; omega)
      rwa [show insE L (p, q, y) = (M', true) from by rw [hM', ← hins.1]] at this
    have hml : M'.length = L.length + 1 := by rw [hM', hins.2.2.length_eq]; simp

    have c5 : decide ((1000 : Int) < (M'.length : Int)) = true := decide_eq_true (by rw [hml, hL, hlen]; omega)
    have HM' := Lib.hid hM'
    clear ht ho hin hL hord hlen h1 h2 h5 hml hins hM'
    go_enter Try.func8, Try.ntmps8
    go_wp2_with fail
    have hB := HB1.out; have hbx := Hbx.out
    generalize (w.alloc (.cells #[.slice A N.length c, .int .i64 root] 24)).alloc (.cells #[.int .i64 p, .int .i64 q] 33) = w1 at *
    refine (awake42_c _).mono ?_
    rintro e W ⟨rfl, hb⟩
    have hB := hB.trans (hb.mono hB.size); have hbx := hbx.below hb; clear hb; have t0 := hbx.t0; have t1 := hbx.t1; have s0 := hbx.s0; have s1 := hbx.s1; 
    go_wp2_with fail
    refine (KG.out _ hB).mono ?_
    rintro e W ⟨rfl, hb⟩
    have hB := hB.trans (hb.mono hB.size); have hbx := hbx.below hb; clear hb t0 t1 s0 s1; have t0 := hbx.t0; have t1 := hbx.t1; have s0 := hbx.s0; have s1 := hbx.s1; 
    go_wp2_with fail
    refine (KO.out _ hB).mono ?_
    rintro e W3 ⟨rfl, hb⟩
    have hB := hB.trans (hb.mono hB.size); have hbx := hbx.below hb; clear hb t0 t1 s0 s1; 
    have hT := heap_alloc_new W3 (.cells #[.slice none 0 0, .int .i64 0] 24)
    have hB := hB.alloc hB.size (.cells #[.slice none 0 0, .int .i64 0] 24)
    have hbx := hbx.below ((Below.refl W3.heap.size W3).alloc (Nat.le_refl _) (.cells #[.slice none 0 0, .int .i64 0] 24))
    have t0 := hbx.t0; have t1 := hbx.t1; have s0 := hbx.s0; have s1 := hbx.s1; 
    have HB := Lib.hid hB; have HX := Lib.hid hbx; have HT := Lib.hid hT
    clear hB hbx hT
    go_wp2_with fail
    have hB := HB.out; have hbx := HX.out; have hT := HT.out
    clear HB HX HT
    generalize W3.alloc (.cells #[.slice none 0 0, .int .i64 0] 24) = W at *
    obtain ⟨T, hTT⟩ : ∃ T, T = W3.heap.size := ⟨_, rfl⟩
    rw [← hTT] at hT ⊢
    clear hTT
    have u0 := blk_cell hT 0
    have u1 := blk_cell hT 1
    simp at u0 u1
    refine (KV.out _ hB).mono ?_
    rintro e W ⟨rfl, hb⟩
    have hT := (hb.block _ (lt_of_block hT)).trans hT; have hB := hB.trans (hb.mono hB.size); have hbx := hbx.below hb; clear hb t0 t1 s0 s1 u0 u1; have u0 := blk_cell hT 0; have u1 := blk_cell hT 1; simp at u0 u1; have t0 := hbx.t0; have t1 := hbx.t1; have s0 := hbx.s0; have s1 := hbx.s1; 
    go_wp2_with (go_at_call 19; (with_reducible refine (KS.out _).mono ?_); rintro e W ⟨rfl, hb⟩; have hT := (hb.block _ (lt_of_block hT)).trans hT; have hB := hB.trans (hb.mono hB.size); have hbx := hbx.below hb; clear hb t0 t1 s0 s1 u0 u1; have u0 := blk_cell hT 0; have u1 := blk_cell hT 1; simp at u0 u1; have t0 := hbx.t0; have t1 := hbx.t1; have s0 := hbx.s0; have s1 := hbx.s1; skip)
    go_region_held3 (fun W' => W'.cell? ⟨w.heap.size, 0, none⟩ = some (.slice A N.length c) ∧ W'.cell? ⟨w.heap.size, 1, none⟩ = some (.int .i64 root) ∧ W'.cell? ⟨w.heap.size + 1, 0, none⟩ = some (.int .i64 p) ∧ W'.cell? ⟨w.heap.size + 1, 1, none⟩ = some (.int .i64 q)) ((first | exact ⟨hbx.t0, hbx.t1, hbx.s0, hbx.s1⟩ | exact ⟨hbx.drew.t0, hbx.drew.t1, hbx.drew.s0, hbx.drew.s1⟩)) (first
      | (go_at_call 29; (with_reducible refine (KE.out _ hB.drew).mono ?_); rintro e W ⟨ve, rfl, hoe, _, hb⟩; have hT := (hb.block _ (lt_of_block hT)).trans hT; have hB := hB.drew.trans (hb.mono hB.size); have hbx := hbx.drew.below hb; clear hb)
      | (go_at_call 21; (with_reducible refine (KR.out _ _ hoe.ents).mono ?_); rintro e W ⟨vr, rfl, hor, hb⟩; obtain ⟨Ar, cr, rfl, _, _⟩ := hor.ents.form; have hT := (hb.block _ (lt_of_block hT)).trans hT; have hB := hB.trans (hb.mono hB.size); have hbx := hbx.below hb; clear hb)
      | fail)
    all_goals
      clear u0 u1 t0 t1 s0 s1
      have u0 := blk_cell hT 0
      have u1 := blk_cell hT 1
      simp at u0 u1
      go_wp2_with (go_at_call 20; (with_reducible refine (NONE.out _).mono ?_); rintro e W ⟨rfl, hb⟩; have hB := hB.trans (hb.mono hB.size); have hbx := hbx.below hb; clear hb)
      go_ret
      exact ⟨rfl, hB⟩
  · have KO : Hid (∀ W, Below w.heap.size w W → Calls Try.prog 34 #[.agg #[.slice A N.length c, .int .i64 root], .agg #[.int .i64 p, .int .i64 q], .int .i64 y] W (InsOk N root (p, q, y) W)) := Lib.hid fun W hb => xInsert_ok _ _ _ _ _ _ _ (Hs.out.below hb) ht ho (by rw [← hL]; exact hin) h5
    obtain ⟨M', hM'⟩ : ∃ M', M' = (insE L (p, q, y)).1 := ⟨_, rfl⟩
    have hins := insE_spec Hord.out hin
    have KR : Hid (∀ W v, IsEnts W v L → Calls Try.prog 21 #[v, .agg #[.int .i64 p, .int .i64 q, .int .i64 y]] W (EntsB W (M', true))) := Lib.hid fun W v h => by
      have := r42Insert_c v L (p, q, y) W h (by have := Hlen.out; omega)
      rwa [show insE L (p, q, y) = (M', true) from by rw [hM', ← hins.1]] at this
    have hml : M'.length = L.length + 1 := by rw [hM', hins.2.2.length_eq]; simp

    have c5 : decide ((1000 : Int) < (M'.length : Int)) = false := decide_eq_false (by rw [hml, hL, hlen]; omega)
    have hmm : M'.length ≤ 1000 := by rw [hml, hL, hlen]; omega
    have HL := Lib.hid hL; have HM' := Lib.hid hM'; have Hins := Lib.hid hins; have Hmm := Lib.hid hmm
    clear ht ho hin hL hord hlen h1 h2 h5 hml hins hM' hmm
    go_enter Try.func8, Try.ntmps8
    go_wp2_with fail
    have hB := HB1.out; have hbx := Hbx.out
    generalize (w.alloc (.cells #[.slice A N.length c, .int .i64 root] 24)).alloc (.cells #[.int .i64 p, .int .i64 q] 33) = w1 at *
    refine (awake42_c _).mono ?_
    rintro e W ⟨rfl, hb⟩
    have hB := hB.trans (hb.mono hB.size); have hbx := hbx.below hb; clear hb; have t0 := hbx.t0; have t1 := hbx.t1; have s0 := hbx.s0; have s1 := hbx.s1; 
    go_wp2_with fail
    refine (KG.out _ hB).mono ?_
    rintro e W ⟨rfl, hb⟩
    have hB := hB.trans (hb.mono hB.size); have hbx := hbx.below hb; clear hb t0 t1 s0 s1; have t0 := hbx.t0; have t1 := hbx.t1; have s0 := hbx.s0; have s1 := hbx.s1; 
    go_wp2_with fail
    refine (KO.out _ hB).mono ?_
    rintro e W3 ⟨M, hMo, hMp, A9, c9, N9, r9, rfl, hg9, ho9, hb⟩
    have hB := hB.trans (hb.mono hB.size); have hbx := hbx.below hb; clear hb t0 t1 s0 s1; 
    have hT := heap_alloc_new W3 (.cells #[.slice A9 N9.length c9, .int .i64 r9] 24)
    have hB := hB.alloc hB.size (.cells #[.slice A9 N9.length c9, .int .i64 r9] 24)
    have hbA := (Below.refl W3.heap.size W3).alloc (Nat.le_refl _) (.cells #[.slice A9 N9.length c9, .int .i64 r9] 24)
    have hbx := hbx.below hbA
    have hn9 := ho9.nodes.below hbA
    have t0 := hbx.t0; have t1 := hbx.t1; have s0 := hbx.s0; have s1 := hbx.s1; 
    have HB := Lib.hid hB; have HX := Lib.hid hbx; have HT := Lib.hid hT; have HN9 := Lib.hid hn9; have Hg9 := Lib.hid hg9; have HMo := Lib.hid hMo; have HMp := Lib.hid hMp
    clear hB hbx hT hn9 hbA ho9 hg9 hMo hMp
    go_wp2_with fail
    have hB := HB.out; have hbx := HX.out; have hT := HT.out; have hn9 := HN9.out
    clear HB HX HT HN9
    generalize W3.alloc (.cells #[.slice A9 N9.length c9, .int .i64 r9] 24) = W at *
    obtain ⟨T, hTT⟩ : ∃ T, T = W3.heap.size := ⟨_, rfl⟩
    rw [← hTT] at hT ⊢
    clear hTT
    have u0 := blk_cell hT 0
    have u1 := blk_cell hT 1
    simp at u0 u1
    have hpm : M.Perm M' := by
      rw [HM'.out]
      exact (HL.out ▸ HMp.out).trans Hins.out.2.2.symm
    have hmt : M.length ≤ 1000 := by rw [hpm.length_eq]; exact Hmm.out
    obtain ⟨q1, q2, q3⟩ := made_tree Hg9.out HMo.out hmt
    have hse : sameEL (entsT N9 r9) M' = true := by
      rw [q2]
      exact decide_eq_true (ents_one hpm HMo.out (by rw [HM'.out]; exact Hins.out.2.1))
    have HEq : Hid (∀ W v1 v2, IsEnts W v1 (entsT N9 r9) → IsEnts W v2 M' → Calls Try.prog 23 #[v1, v2] W (Ret W (.bool true))) := Lib.hid fun W v1 v2 h1 h2 => by
      have := slEqualEntry_c v1 v2 _ _ W h1 h2
      rwa [hse] at this
    have Ht9 := Lib.hid q1
    have HN9 := Lib.hid hn9
    clear hmt q1 q2 q3 hse hpm
    have hNB := Lib.hid (fun X (h : Below W.heap.size W X) => HN9.out.below h)
    obtain ⟨W4, hW4⟩ : ∃ W4, W4 = W := ⟨_, rfl⟩
    rw [← hW4] at hNB
    have hkb : Below W4.heap.size W4 W := by rw [hW4]; exact Below.refl _ _
    clear hW4
    refine (KV.out _ hB).mono ?_
    rintro e W ⟨rfl, hb⟩
    have hT := (hb.block _ (lt_of_block hT)).trans hT; have hB := hB.trans (hb.mono hB.size); have hbx := hbx.below hb; have hkb := hkb.trans (hb.mono hkb.size); clear hb t0 t1 s0 s1 u0 u1; have u0 := blk_cell hT 0; have u1 := blk_cell hT 1; simp at u0 u1; have t0 := hbx.t0; have t1 := hbx.t1; have s0 := hbx.s0; have s1 := hbx.s1; 
    go_wp2_with (go_at_call 19; (with_reducible refine (KS.out _).mono ?_); rintro e W ⟨rfl, hb⟩; have hT := (hb.block _ (lt_of_block hT)).trans hT; have hB := hB.trans (hb.mono hB.size); have hbx := hbx.below hb; have hkb := hkb.trans (hb.mono hkb.size); clear hb t0 t1 s0 s1 u0 u1; have u0 := blk_cell hT 0; have u1 := blk_cell hT 1; simp at u0 u1; have t0 := hbx.t0; have t1 := hbx.t1; have s0 := hbx.s0; have s1 := hbx.s1; skip)
    go_region_held3 (fun W' => W'.cell? ⟨w.heap.size, 0, none⟩ = some (.slice A N.length c) ∧ W'.cell? ⟨w.heap.size, 1, none⟩ = some (.int .i64 root) ∧ W'.cell? ⟨w.heap.size + 1, 0, none⟩ = some (.int .i64 p) ∧ W'.cell? ⟨w.heap.size + 1, 1, none⟩ = some (.int .i64 q)) ((first | exact ⟨hbx.t0, hbx.t1, hbx.s0, hbx.s1⟩ | exact ⟨hbx.drew.t0, hbx.drew.t1, hbx.drew.s0, hbx.drew.s1⟩)) (first
      | (go_at_call 29; (with_reducible refine (KE.out _ hB.drew).mono ?_); rintro e W ⟨ve, rfl, hoe, _, hb⟩; have hT := (hb.block _ (lt_of_block hT)).trans hT; have hB := hB.drew.trans (hb.mono hB.size); have hbx := hbx.drew.below hb; have hkb := hkb.drew.trans (hb.mono hkb.size); clear hb)
      | (go_at_call 21; (with_reducible refine (KR.out _ _ hoe.ents).mono ?_); rintro e W ⟨vr, rfl, hor, hb⟩; obtain ⟨Ar, cr, rfl, _, _⟩ := hor.ents.form; have hT := (hb.block _ (lt_of_block hT)).trans hT; have hB := hB.trans (hb.mono hB.size); have hbx := hbx.below hb; have hkb := hkb.trans (hb.mono hkb.size); clear hb)
      | fail)
    all_goals
      clear u0 u1 t0 t1 s0 s1
      have u0 := blk_cell hT 0
      have u1 := blk_cell hT 1
      simp at u0 u1
      have hn9 := hNB.out _ hkb
      go_wp2_with (first
        | (go_at_call 22; (with_reducible refine (entries42_c _ r9 N9 _ hn9).mono ?_); rintro e W ⟨v6, rfl, he6, hb⟩; rw [Ht9.out] at he6 ⊢; replace he6 := he6 rfl; have hB := hB.trans (hb.mono hB.size); have hor := hor.below hb; clear hb u0 u1)
        | (go_at_call 23; (with_reducible refine (HEq.out _ _ _ he6 hor.ents).mono ?_); rintro e W ⟨rfl, hb⟩; have hB := hB.trans (hb.mono hB.size); clear hb)
        | fail)
      go_ret
      exact ⟨rfl, hB⟩

set_option maxRecDepth 100000 in
theorem law42Inserts_lifted (os : Os) (started : os.Started) (H : Type) (enc : TypeId × Value → H) :
    ReturnsInHanded {} Try.checked os 8 .any (Rows.indexInsertsSpec.pre6 enc Try.prog Try.f8 Rows.indexInsertsRow.domain false) (Rows.indexInsertsSpec.post enc Try.prog Try.f8 false true false false) := by
  refine returnsInHanded_of_change (C := Try.checked) Try.own started (by kernel_rfl) Try.func8
    (ChangeSpec.witness6 (enc := enc) (C := Try.checked) false ⟨#[], #[.agg #[.slice none 0 0, .int .i64 0], .agg #[.int .i64 0, .int .i64 0], .int .i64 0], []⟩ 8 (by kernel_rfl) (by kernel_rfl) (by kernel_rfl) (by kernel_rfl)) ?_
  intro W base args ds gs before hval0 hW hcnd _
  have hval : ∀ (j : Nat) t v, Try.f8.params[j]? = some t → args[j]? = some v → Value.okWide Try.prog W .any base t v := hval0
  have hW' := hW
  obtain ⟨p, q, hA0, hV, rfl, hfz, hnd⟩ := hW
  have hA : DataW.TrodAll enc Try.prog W 0 (fun _ => true) true Try.f8.params.toList args.toList ds p := hA0
  have hA1 := hA0
  rw [Try.params8] at hA hval
  obtain ⟨v0, v1, v2, d0, d1, d2, p0, p1, p2, rfl, rfl, hp, h0, h1, h2⟩ := trodAll_three hA
  obtain ⟨rfl, rfl⟩ := trodVars_none hV
  obtain ⟨s0, Nr, N, rfl, g0⟩ := open_tree (hval 0 24 v0 rfl rfl) h0
  obtain ⟨s1, s2, rfl, g1⟩ := open_span (hval 1 33 v1 rfl rfl) h1
  obtain ⟨value, rfl, rfl, rfl, g2⟩ := open_int Try.underlying3 (hval 2 3 v2 rfl rfl) h2
  clear hA0 hval0
  have hlt : ∀ x ∈ p, x.block < W.heap.size := fun x hx => hW'.lt x (by simp [hx])
  refine (law42Inserts_c s0 Nr N s1 s2 value W g0).mono fun e W' ⟨he, hg⟩ => ?_
  subst he
  exact ⟨_, rfl, post_of_below (pa := p) (pv := []) hW' (fun _ _ _ => trodAll_mk1 (shut_bool Try.underlying4 _))
    (fun sp hsp => trodAll_keep Try.laidOut hg (by kernel_rfl) hA1 hlt (fun x hx => hsp x (by simp [hx])))
    (fun _ _ => rfl) rfl hg (ok_one (by kernel_rfl) rfl (okWide_bool_mk Try.underlying4 _))⟩

theorem law42Inserts_holds : Rows.IndexInsertsSaid :=
  OpenClaim.holds_of_wide 8 Try.f8 rfl rfl rfl rfl rfl rfl rfl ⟨rfl, rfl, rfl, rfl, rfl⟩ rfl rfl rfl rfl rfl (by kernel_rfl) Try.func8 (by kernel_rfl)
    (of_decide_eq_true (by kernel_rfl)) (by unfold Func.isWrapper; first | (rw [if_pos (by decide +kernel)]; kernel_rfl) | (rw [if_neg (by decide +kernel)]; exact ⟨rfl, rfl⟩))
    (fun os started H enc _ => law42Inserts_lifted os started H enc)
#print axioms law42Inserts_holds
end Go.Proofs.Ytgdcgdjlhljbiaa
