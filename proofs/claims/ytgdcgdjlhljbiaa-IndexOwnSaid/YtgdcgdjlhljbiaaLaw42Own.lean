/- IndexOwn: no argument is modified by Insert and Delete, and results are apart from each other, for every tree, interval and value. No condition. -/
import Derived.Test.YtgdcgdjlhljbiaaIyJ
import Derived.Test.YtgdcgdjlhljbiaaIyK
import Derived.Test.YtgdcgdjlhljbiaaTree
import Derived.Deep.DeepCutAuto
import Derived.SizedLaws
namespace Go.Proofs.Ytgdcgdjlhljbiaa
open Go.RowKit Go.Shelf Go.ChangeShapes Go.WideShapes Go.ChangeAt Go.Deep Go.Joins

theorem IsNodes.news {w : World} {A : Option Addr} {c : Nat} {N : List Nd} (h : IsNodes w (.slice A N.length c) N) (ad : Addr) (hA : A = some ad) : ∀ j u, (flatN N)[j]? = some u → w.cell? (ad.add j) = some u := by
  intro j u hu
  have hj : j < N.length * 7 := by
    rcases Nat.lt_or_ge j (N.length * 7) with hj | hj
    · exact hj
    · rw [List.getElem?_eq_none (by rw [flatN_length]; omega)] at hu; cases hu
  obtain ⟨b, off, he, _⟩ := h.addr (by omega)
  rw [hA] at he
  injection he with he
  subst hA he
  rw [addr_add]
  have h1 := RowsIn.cells h (j / 7) (j % 7) (by omega) (by omega)
  have h2 := flatN_get N (j / 7) (j % 7) (by omega) (by omega)
  rw [show j / 7 * 7 + j % 7 = j from by omega, hu] at h2
  rw [show off + j = off + j / 7 * 7 + j % 7 from by omega, h1, h2]
/-- append(own, nodes...) where an operation is met alone. -/
theorem append_nodes_wp {P : Program} {tS : TypeId} (hS : P.underlying tS = some (.slice 60)) (hE : (P.info? 60).map (fun i => (i.zero, i.size, i.bytes)) = some (some (.agg #[.int .i64 0, .int .i64 0, .int .i64 0, .int .i64 0, .int .i64 0, .int .i64 0, .int .i64 0]), 7, 56))
    {o : Oper} {a : Act} {K : Act → World → Prop} {Q : Exit → Act → World → Prop} (s x : Operand)
    (ho : o.op = .call { callee := .builtin .append, args := #[s, x], argTypes := #[tS, tS] })
    {w : World} (base : Nat) (v u : Value) (N : List Nd) (hs : a.eval s = v) (hx : a.eval x = u) (hown : OwnsN w base v []) (hM : IsNodes w u N) (hlen : N.length * 56 ≤ 140737488351232) (hbase : base ≤ w.heap.size)
    (h : ∀ v' w', OwnsN w' base v' N → Below base w w' → K (a.put o.dst v') w') :
    o.wp P a w K Q := by
  obtain ⟨i, hi, hz, hsz, hby⟩ := info_parts hE
  obtain ⟨A, c, rfl, _, _⟩ := hM.form
  cases A with
  | none =>
    have hM0 : N = [] := by
      rcases Nat.eq_zero_or_pos N.length with h0 | h0
      · exact List.eq_nil_of_length_eq_zero h0
      · obtain ⟨b, off, he, _⟩ := hM.addr h0; cases he
    subst hM0
    have hrun := run_append_owned_empty (P := P) (w := w) base tS o.type 60 i 7 hS hi v 0 (flatN []) c hown
    unfold Oper.wp execOp
    simp only [List.length_nil] at hx
    simp only [ho, resolve, invoke, builtin, Sem.run_bind, Sem.run_pure, Result.andThen_ok, List.map_toArray, List.map_cons, List.map_nil, hs, hx, hrun]
    exact h v w hown (Below.refl _ _)
  | some ad =>
    obtain ⟨v', w', hrun, hown', hg, _, _⟩ := run_append_own_at (P := P) w base tS o.type 60 i _ 7 56 hS hi hz hsz hby rfl (by omega) v 0 (flatN []) hown ad N.length c (flatN N) (flatN_length N) (hM.news ad rfl) (flatN_one N) (by unfold maxLen; omega) (by omega) hbase
    unfold Oper.wp execOp
    simp only [ho, resolve, invoke, builtin, Sem.run_bind, Sem.run_pure, Result.andThen_ok, List.map_toArray, List.map_cons, List.map_nil, hs, hx, hrun]
    refine h v' w' ?_ ?_
    · unfold OwnsN
      simpa [flatN] using hown'
    · refine (Below.refl base w).grown hg hbase ?_
      intro k hk
      exact (World.ownsRow.lt hown k hk).1
/-- A row of nodes that was made, none of them used. -/
def madeN (n : Nat) : Array Value := madeCells (Value.agg #[.int .i64 0, .int .i64 0, .int .i64 0, .int .i64 0, .int .i64 0, .int .i64 0, .int .i64 0]).cells ((n + 10) * 7)
theorem made_nodes (w : World) (n : Nat) (hn : n * 56 ≤ 140737488351232) : (Instr.makeSlice 22 (.int .i64 0) (.int .i64 ((n : Int) + 10))).run Try.prog w = .ok (.slice (some ⟨w.heap.size, 0, none⟩) 0 (n + 10)) (w.alloc (.cells (madeN n) 60)) := by
  obtain ⟨i, hi, hz, hsz, hby⟩ := info_parts tNodeInfo
  have hr := run_make (P := Try.prog) w 22 60 i _ Try.underlying22 hi hz .i64 .i64 0 ((n : Int) + 10) (by omega) (by omega) (by rw [hby]; omega) (by omega)
  rw [hr, hsz]
  rfl
theorem own_made (w : World) (base n : Nat) (hn : n * 56 ≤ 140737488351232) (hb : base ≤ w.heap.size) : OwnsN (w.alloc (.cells (madeN n) 60)) base (.slice (some ⟨w.heap.size, 0, none⟩) 0 (n + 10)) [] := by
  refine own_mk hb (heap_alloc_new w _) (Nat.zero_le _) (by unfold maxLen; omega) ?_ ?_
  · unfold madeN; rw [size_madeCells]
  · rfl
/-- What Insert and Delete answer, in short: nodes of their own, a valid tree if there is no error. -/
def AnyT (w : World) (e : Ending) (w' : World) : Prop :=
  ∃ A c N r n, e = .returned (.tuple #[.agg #[.slice A (List.length N) c, .int .i64 r], .int .i64 n]) ∧ OwnsN w' w.heap.size (.slice A (List.length N) c) N ∧ ((n == 0) = true → treeB N r = true) ∧ Below w.heap.size w w'
theorem any_no {n : Int} (hn : (n == 0) = false) {w : World} {e : Ending} {w' : World} (h : NoT n w e w') : AnyT w e w' :=
  ⟨none, 0, [], 0, n, h.1, OwnsN.nil, (fun h => by rw [hn] at h; cases h), h.2⟩
theorem any_made {M : List En} (ho : M.Pairwise enLt) (hl : M.length ≤ 1000) {w : World} {e : Ending} {w' : World} (h : MadeT M w e w') : AnyT w e w' := by
  obtain ⟨A, c, N, r, he, hg, hown, hb⟩ := h
  exact ⟨A, c, N, r, 0, he, hown, fun _ => (made_tree hg ho hl).1, hb⟩
theorem xInsert_any (v : Value) (root p q y : Int) (N : List Nd) (w : World) (hs : IsNodes w v N) : Calls Try.prog 34 #[.agg #[v, .int .i64 root], .agg #[.int .i64 p, .int .i64 q], .int .i64 y] w (AnyT w) :=
  (xInsert_c v root p q y N w hs).mono fun e w' h => by
    unfold InsT at h
    split at h
    · exact any_no rfl h
    · rename_i h0
      split at h
      · exact any_no rfl h
      · split at h
        · exact any_no rfl h
        · rename_i h5
          obtain ⟨M, h1, h2, h3⟩ := h
          have ht : treeB N root = true := by
            cases h : treeB N root
            · exact absurd (.inl h) h0
            · rfl
          obtain ⟨q1, q2⟩ := treeB_valid ht
          exact any_made h1 (by rw [h2.length_eq, List.length_cons, entsT_len q2]; omega) h3
theorem xDelete_any (v : Value) (root p q y : Int) (N : List Nd) (w : World) (hs : IsNodes w v N) : Calls Try.prog 32 #[.agg #[v, .int .i64 root], .agg #[.int .i64 p, .int .i64 q], .int .i64 y] w (AnyT w) :=
  (xDelete_c v root p q y N w hs).mono fun e w' h => by
    unfold DelT at h
    split at h
    · exact any_no rfl h
    · rename_i h0
      split at h
      · exact any_no rfl h
      · obtain ⟨M, h1, h2, h3⟩ := h
        have ht : treeB N root = true := by
          cases h : treeB N root
          · exact absurd (.inl h) h0
          · rfl
        obtain ⟨q1, q2⟩ := treeB_valid ht
        have := h2.length_eq
        rw [List.length_cons, entsT_len q2] at this
        exact any_made h1 (by omega) h3
/-- The two boxes of the law: the tree, the span. -/
structure Box2 (B : Nat) (s : Value) (root p q : Int) (w : World) : Prop where
  t : w.heap[B]? = some (.cells #[s, .int .i64 root] 24 (0, 0))
  s : w.heap[B + 1]? = some (.cells #[.int .i64 p, .int .i64 q] 33 (0, 0))
section
variable {B : Nat} {s : Value} {root p q : Int} {w w' : World}
theorem Box2.below (h : Box2 B s root p q w) (hb : Below w.heap.size w w') : Box2 B s root p q w' :=
  ⟨(hb.block _ (lt_of_block h.t)).trans h.t, (hb.block _ (lt_of_block h.s)).trans h.s⟩
theorem Box2.drew (h : Box2 B s root p q w) : Box2 B s root p q w.drew := ⟨h.t, h.s⟩
theorem Box2.mk2 (w : World) (s : Value) (root p q : Int) : Box2 w.heap.size s root p q ((w.alloc (.cells #[s, .int .i64 root] 24)).alloc (.cells #[.int .i64 p, .int .i64 q] 33)) :=
  ⟨old_blk (new_blk _ _ rfl), new_blk _ _ (by simp)⟩
theorem Box2.t0 (h : Box2 B s root p q w) : w.cell? ⟨B, 0, none⟩ = some s := blk_cell h.t 0
theorem Box2.t1 (h : Box2 B s root p q w) : w.cell? ⟨B, 1, none⟩ = some (.int .i64 root) := blk_cell h.t 1
theorem Box2.s0 (h : Box2 B s root p q w) : w.cell? ⟨B + 1, 0, none⟩ = some (.int .i64 p) := blk_cell h.s 0
theorem Box2.s1 (h : Box2 B s root p q w) : w.cell? ⟨B + 1, 1, none⟩ = some (.int .i64 q) := blk_cell h.s 1
end
theorem OwnsN.lt6 {w : World} {base : Nat} {v : Value} {N : List Nd} (h : OwnsN w base v N) : ∀ g, v.ownBlock = some g → base ≤ g ∧ g < w.heap.size := fun g hg => World.ownsRow.lt h g hg
set_option maxRecDepth 100000 in
set_option maxHeartbeats 8000000 in
theorem law42Own_c (v : Value) (root : Int) (N : List Nd) (p q y : Int) (w : World) (hs : IsNodes w v N) (hbig : N.length * 56 ≤ 140737488351232) : Calls Try.prog 9 #[.agg #[v, .int .i64 root], .agg #[.int .i64 p, .int .i64 q], .int .i64 y] w (Ret w (.bool true)) := by
  obtain ⟨A, c, rfl, hnc, hc⟩ := hs.form
  have hB1 : Below w.heap.size w ((w.alloc (.cells #[.slice A N.length c, .int .i64 root] 24)).alloc (.cells #[.int .i64 p, .int .i64 q] 33)) := ((Below.refl _ _).alloc (Nat.le_refl _) _).alloc (by simp) _
  have hbx := Box2.mk2 w (.slice A N.length c) root p q
  have HB1 := Lib.hid hB1; have Hbx := Lib.hid hbx; have Hs := Lib.hid hs
  have KG : Hid (∀ W, Below w.heap.size w W → Calls Try.prog 13 #[.agg #[.slice A N.length c, .int .i64 root]] W (Ret W (.bool (greatB N)))) := Lib.hid fun W hb => great42_c _ _ _ _ (hs.below hb)
  clear hB1 hbx hs
  cases hg : greatB N
  rotate_left
  · rw [hg] at KG
    clear hg
    go_enter Try.func9, Try.ntmps9
    go_wp2_with fail
    have hB := HB1.out; have hbx := Hbx.out
    generalize (w.alloc (.cells #[.slice A N.length c, .int .i64 root] 24)).alloc (.cells #[.int .i64 p, .int .i64 q] 33) = w1 at *
    refine (awake42_c _).mono ?_
    rintro e W ⟨rfl, hb⟩
    have hB := hB.trans (hb.mono hB.size); have hbx := hbx.below hb; clear hb; have t0 := hbx.t0; have t1 := hbx.t1
    go_wp2_with fail
    refine (KG.out _ hB).mono ?_
    rintro e W ⟨rfl, hb⟩
    have hB := hB.trans (hb.mono hB.size)
    clear hb t0 t1
    go_wp2_with fail
    go_ret
    exact ⟨rfl, hB⟩
  rw [hg] at KG
  clear hg
  go_enter Try.func9, Try.ntmps9
  go_wp2_with fail
  have hB := HB1.out; have hbx := Hbx.out
  clear HB1 Hbx
  generalize (w.alloc (.cells #[.slice A N.length c, .int .i64 root] 24)).alloc (.cells #[.int .i64 p, .int .i64 q] 33) = w1 at *
  refine (awake42_c _).mono ?_
  rintro e W ⟨rfl, hb⟩
  have hB := hB.trans (hb.mono hB.size); have hbx := hbx.below hb; clear hb; have t0 := hbx.t0; have t1 := hbx.t1
  go_wp2_with fail
  refine (KG.out _ hB).mono ?_
  rintro e W ⟨rfl, hb⟩
  have hB := hB.trans (hb.mono hB.size); have hbx := hbx.below hb
  clear hb t0 t1
  obtain ⟨B, hBB⟩ : ∃ B, B = w.heap.size := ⟨_, rfl⟩
  have HBB := Lib.hid hBB
  rw [← hBB] at hbx ⊢
  have hw10 : IntKind.i64.wrap ((N.length : Int) + 10) = (N.length : Int) + 10 := by rw [IntKind.wrap_i64]; omega
  have hmk := fun X => made_nodes X N.length hbig
  have hsw := Hs.out.below hB
  have hom := own_made W.drew W.heap.size N.length hbig (Nat.le_refl _)
  have hnm := (hsw.below (Below.refl _ _).drew).below ((Below.refl W.drew.heap.size W.drew).alloc (Nat.le_refl _) (.cells (madeN N.length) 60))
  have hbm : Below W.heap.size W (W.drew.alloc (.cells (madeN N.length) 60)) := (Below.refl _ _).drew.alloc (Nat.le_refl _) _
  have HB := Lib.hid hB; have Hbx2 := Lib.hid hbx; have Hom := Lib.hid hom; have Hnm := Lib.hid hnm; have Hbm := Lib.hid hbm
  clear hB hom hnm hbm hsw hBB
  go_wp2_with fail
  go_region_held3 (fun W' => W'.cell? ⟨B, 0, none⟩ = some (.slice A N.length c)) ((first | exact hbx.t0 | exact (Hbx2.out.below Hbm.out).t0 | exact (Hbx2.out.below (Hbm.out.trans hb5)).t0)) (first
    | (rw [if_pos (by rfl)]; refine append_nodes_wp Try.underlying22 tNodeInfo (.tmp 25) (.tmp 27) (by rfl) W.heap.size _ _ N (by rfl) (by rfl) Hom.out Hnm.out hbig (by simp) (fun v5 W5 ho5 hb5 => ?_))
    | fail)
  obtain ⟨A5, c5, rfl⟩ := ho5.form0
  have hb05 := Hbm.out.trans hb5
  have hB5 := HB.out.trans (hb05.mono HB.out.size)
  have hbx5 := Hbx2.out.below hb05
  have hn5 := ho5.nodes
  obtain ⟨W6, hW6⟩ : ∃ X, X = W5.alloc (.cells #[.slice A5 N.length c5, .int .i64 root] 24) := ⟨_, rfl⟩
  obtain ⟨T8, hT8⟩ : ∃ T, T = W5.heap.size := ⟨_, rfl⟩
  have hbA : Below W5.heap.size W5 W6 := by rw [hW6]; exact (Below.refl _ _).alloc (Nat.le_refl _) _
  have hU : W6.heap[T8]? = some (.cells #[.slice A5 N.length c5, .int .i64 root] 24 (0, 0)) := by rw [hW6, hT8]; exact heap_alloc_new W5 _
  have hB6 := hB5.trans (hbA.mono hB5.size)
  have hbx6 := hbx5.below hbA
  have hn6 := hn5.below hbA
  have hs6 := Hs.out.below hB6
  have FB : Hid (∀ X, Below W6.heap.size W6 X → Box2 B (.slice A N.length c) root p q X) := Lib.hid fun X hb => hbx6.below hb
  have FU : Hid (∀ X, Below W6.heap.size W6 X → X.heap[T8]? = some (.cells #[.slice A5 N.length c5, .int .i64 root] 24 (0, 0))) := Lib.hid fun X hb => (hb.block _ (lt_of_block hU)).trans hU
  have FN : Hid (∀ X, Below W6.heap.size W6 X → IsNodes X (.slice A5 N.length c5) N) := Lib.hid fun X hb => hn6.below hb
  have FS : Hid (∀ X, Below W6.heap.size W6 X → IsNodes X (.slice A N.length c) N) := Lib.hid fun X hb => hs6.below hb
  have FW : Hid (∀ X, Below W6.heap.size W6 X → Below w.heap.size w X) := Lib.hid fun X hb => hB6.trans (hb.mono hB6.size)
  have KI : Hid (∀ X y, Below W6.heap.size W6 X → Calls Try.prog 34 #[.agg #[.slice A5 N.length c5, .int .i64 root], .agg #[.int .i64 p, .int .i64 q], .int .i64 y] X (AnyT X)) := Lib.hid fun X y hb => xInsert_any _ root p q y N X (hn6.below hb)
  have KD : Hid (∀ X p q y, Below W6.heap.size W6 X → Calls Try.prog 32 #[.agg #[.slice A5 N.length c5, .int .i64 root], .agg #[.int .i64 p, .int .i64 q], .int .i64 y] X (AnyT X)) := Lib.hid fun X p q y hb => xDelete_any _ root p q y N X (hn6.below hb)
  have kb : Below W6.heap.size W6 W6 := Below.refl _ _
  have t0 := hbx5.t0; have t1 := hbx5.t1
  have s0 := hbx6.s0; have s1 := hbx6.s1
  have u0 := blk_cell hU 0; have u1 := blk_cell hU 1
  simp at u0 u1
  rw [hW6, hT8] at u0 u1
  rw [hW6] at s0 s1
  have HW6 := Lib.hid hW6; have HT8 := Lib.hid hT8
  clear ho5 hb05 hB5 hbx5 hn5 hbA hU hB6 hbx6 hn6 hs6 hb5 hW6 hT8 HB Hbx2 Hom Hnm Hbm hmk hw10
  go_wp2_with fail
  rw [← HW6.out]
  rw [← HT8.out] at u0 u1 ⊢
  rw [← HW6.out] at u0 u1 s0 s1
  clear t0 t1 s0 s1 u0 u1
  refine (KI.out _ _ kb).mono ?_
  clear kb
  rintro e Wa ⟨Aa, ca, Na, ra, na, rfl, hoa, _, hb⟩
  have hUa := heap_alloc_new Wa (.cells #[.slice Aa Na.length ca, .int .i64 ra] 24)
  have hbA := (Below.refl Wa.heap.size Wa).alloc (Nat.le_refl _) (.cells #[.slice Aa Na.length ca, .int .i64 ra] 24)
  have hoa1 := hoa.below hbA
  have kb := hb.alloc hb.size (.cells #[.slice Aa Na.length ca, .int .i64 ra] 24)
  have hla := hoa.lt6
  have Hoa := Lib.hid hoa1; have HUa := Lib.hid hUa; have Kb := Lib.hid kb
  have s0 := (FB.out _ kb).s0; have s1 := (FB.out _ kb).s1
  have u0 := blk_cell (FU.out _ kb) 0; have u1 := blk_cell (FU.out _ kb) 1
  simp at u0 u1
  clear hb hbA hoa hoa1 hUa kb
  go_wp2_with fail
  have hoa := Hoa.out; have hUa := HUa.out; have kb := Kb.out
  clear s0 s1 u0 u1 Hoa HUa Kb
  obtain ⟨T9, hT9⟩ : ∃ T, T = Wa.heap.size := ⟨_, rfl⟩
  have hz9 : (Wa.alloc (.cells #[.slice Aa Na.length ca, .int .i64 ra] 24)).heap.size = T9 + 1 := by rw [hT9]; simp
  generalize Wa.alloc (.cells #[.slice Aa Na.length ca, .int .i64 ra] 24) = Wa1 at *
  rw [← hT9] at hUa hla ⊢
  refine (KI.out _ _ kb).mono ?_
  rintro e Wb ⟨Ab, cb, Nb, rb, nb, rfl, hob, htb, hb⟩
  have hUb := heap_alloc_new Wb (.cells #[.slice Ab Nb.length cb, .int .i64 rb] 24)
  have hbA := (Below.refl Wb.heap.size Wb).alloc (Nat.le_refl _) (.cells #[.slice Ab Nb.length cb, .int .i64 rb] 24)
  have hob1 := hob.below hbA
  have kb1 := (kb.trans (hb.mono kb.size)).alloc (kb.trans (hb.mono kb.size)).size (.cells #[.slice Ab Nb.length cb, .int .i64 rb] 24)
  have hb1 := hb.alloc hb.size (.cells #[.slice Ab Nb.length cb, .int .i64 rb] 24)
  have hoa1 := hoa.below hb1
  have hUa1 := (hb1.block _ (lt_of_block hUa)).trans hUa
  have hzb := hb.size
  have Hoa := Lib.hid hoa1; have HUa := Lib.hid hUa1; have Kb := Lib.hid kb1; have Hob := Lib.hid hob1; have HUb := Lib.hid hUb; have Htb := Lib.hid htb; have Hz9 := Lib.hid hz9; have Hla := Lib.hid hla
  have r0 := blk_cell hUa1 0
  simp at r0
  clear hb hbA hob hob1 hUb kb kb1 hb1 hoa1 hUa1 hUa hoa htb hz9 hT9
  go_upto_if 51 with fail
  have hoa := Hoa.out; have hUa := HUa.out; have kb := Kb.out; have hob := Hob.out; have hUb := HUb.out
  clear Hoa HUa Kb Hob HUb
  obtain ⟨T11, hT11⟩ : ∃ T, T = Wb.heap.size := ⟨_, rfl⟩
  rw [← hT11] at hUb ⊢
  have hzb2 : Wa1.heap.size ≤ T11 := by rw [hT11]; exact hzb
  generalize Wb.alloc (.cells #[.slice Ab Nb.length cb, .int .i64 rb] 24) = W7 at *
  have Kb := Lib.hid kb; have Hoa := Lib.hid hoa; have Hob := Lib.hid hob; have HUb := Lib.hid hUb; have HUa := Lib.hid hUa
  clear kb hoa hob hUb hUa hT11
  go_cut [] (fun wx => Below W6.heap.size W6 wx ∧ wx.heap[T11]? = some (.cells #[.slice Ab Nb.length cb, .int .i64 rb] 24 (0, 0)) ∧ IsNodes wx (.slice Ab Nb.length cb) Nb)
  case first =>
    by_cases hna : 0 < Na.length
    · have hc0 : decide ((0 : Int) < (Na.length : Int)) = true := decide_eq_true (by omega)
      obtain ⟨ga, cpa, e, hg1, hg2, _, _⟩ := Hoa.out.form hna
      injection e with e1 e2 e3
      subst e1 e3
      have hga := Hla.out ga rfl
      have m5 := Hoa.out.cell 0 5 hna (by omega)
      have mf := Hoa.out.frozen 5
      simp only [Nat.zero_mul, Nat.zero_add] at m5
      have hst : Below W6.heap.size W6 (W7.setCell ⟨ga, 5, none⟩ (.int .i64 (wrap64 (ndField (nd Na 0) 5 + 1)))) := Kb.out.setCell (p := ⟨ga, 5, none⟩) hga.1 _
      have hst2 : (W7.setCell ⟨ga, 5, none⟩ (.int .i64 (wrap64 (ndField (nd Na 0) 5 + 1)))).heap[T11]? = some (.cells #[.slice Ab Nb.length cb, .int .i64 rb] 24 (0, 0)) := (Below.heap_setCell _ _ _ _ (show T11 ≠ ga from by have := Hz9.out; omega)).trans HUb.out
      have hst3 : IsNodes (W7.setCell ⟨ga, 5, none⟩ (.int .i64 (wrap64 (ndField (nd Na 0) 5 + 1)))) (.slice Ab Nb.length cb) Nb := (Hob.out.kept fun g n c e => Below.heap_setCell _ _ _ _ (show g ≠ ga from by
        have h1 := (Hob.out.lt6 g (by rw [e]; rfl)).1
        have := Hz9.out
        omega)).nodes
      have Hst := Lib.hid hst; have Hst2 := Lib.hid hst2; have Hst3 := Lib.hid hst3
      have hi0 : (0 : Int) < (Na.length : Int) := by omega
      clear hst hst2 hst3 hg1 hg2 hga
      go_wp2_with fail
      go_meet
      exact ⟨Hst.out, Hst2.out, Hst3.out⟩
    · have hc0 : decide ((0 : Int) < (Na.length : Int)) = false := decide_eq_false (by omega)
      go_wp2_with fail
      go_meet
      exact ⟨Kb.out, HUb.out, Hob.out.nodes⟩
  case rest =>
    obtain ⟨kb, hUb, hnb⟩ := hcut
    clear r0 Kb Hoa Hob HUb HUa Hla Hz9 hzb hzb2
    go_upto_region 11 with fail
    go_cut [70] (fun s wx => s = .bool false ∧ Below W6.heap.size W6 wx)
    case first =>
      have v0 := blk_cell hUb 0
      have v1 := blk_cell hUb 1
      simp at v0 v1
      have hV := xValid_c _ rb Nb wc hnb
      have HV := Lib.hid hV
      have Kb := Lib.hid kb
      clear hV hUb hnb kb
      cases c1 : (na == 0)
      · have C1 := Lib.hid c1
        clear Htb
        go_wp2_with fail
        go_meet
        exact ⟨rfl, Kb.out⟩
      · cases c2 : (nb == 0)
        · clear Htb
          go_wp2_with fail
          go_meet
          exact ⟨rfl, Kb.out⟩
        · have hvv := HV.out
          rw [Htb.out c2] at hvv
          have HV2 := Lib.hid hvv
          clear hvv HV Htb
          go_wp2_with (go_at_call 14; (with_reducible refine (HV2.out).mono ?_); rintro e W9 ⟨rfl, hb9⟩)
          go_meet
          exact ⟨rfl, Kb.out.trans (hb9.mono Kb.out.size)⟩
    case rest =>
      obtain ⟨rfl, kb⟩ := hcut
      clear hUb hnb Htb
      have t0 := (FB.out _ kb).t0
      have KE : Hid (∀ X, Below W6.heap.size W6 X → Calls Try.prog 35 #[.slice A5 N.length c5, .slice A N.length c] X (Ret X (.bool true))) := Lib.hid fun X hb => slEqualNode_same _ _ N X (FN.out _ hb) (FS.out _ hb)
      have Kb := Lib.hid kb
      clear kb KI
      go_wp2_with fail
      clear t0
      go_loopw [74] (fun i wr => i = .int .i64 0 ∧ Below W6.heap.size W6 wr) (fun _ _ => 0)
      case atStart => exact ⟨rfl, Kb.out⟩
      case round =>
        obtain ⟨rfl, kb⟩ := hrel
        clear Kb
        by_cases hn0 : 0 < N.length
        · have hc0 : decide ((0 : Int) < (N.length : Int)) = true := decide_eq_true (by omega)
          have hi0 : (0 : Int) < (N.length : Int) := by omega
          have hsr := FS.out _ kb
          obtain ⟨b0, off, e, hbk⟩ := hsr.addr hn0
          subst e
          have d0 := hsr.c0 0 hn0
          have d1 := hsr.c1 0 hn0
          have d2 := hsr.c2 0 hn0
          have d3 := hsr.c3 0 hn0
          have d4 := hsr.c4 0 hn0
          have d5 := hsr.c5 0 hn0
          have d6 := hsr.c6 0 hn0
          simp only [Nat.zero_mul, Nat.add_zero] at d0 d1 d2 d3 d4 d5 d6
          have hp14 := heap_alloc_new wr (.cells #[.int .i64 (nd N 0).f, .int .i64 (nd N 0).t, .int .i64 (nd N 0).v, .int .i64 (nd N 0).l, .int .i64 (nd N 0).r, .int .i64 (nd N 0).m, .int .i64 (nd N 0).h] 60)
          have kb1 := kb.alloc kb.size (.cells #[.int .i64 (nd N 0).f, .int .i64 (nd N 0).t, .int .i64 (nd N 0).v, .int .i64 (nd N 0).l, .int .i64 (nd N 0).r, .int .i64 (nd N 0).m, .int .i64 (nd N 0).h] 60)
          have u0 := blk_cell (FU.out _ kb1) 0
          have u1 := blk_cell (FU.out _ kb1) 1
          simp at u0 u1
          have n0 := blk_cell hp14 0
          have n1 := blk_cell hp14 1
          have n2 := blk_cell hp14 2
          simp at n0 n1 n2
          have Kb1 := Lib.hid kb1
          clear hp14 kb1 hsr kb
          go_wp2_with fail
          refine (KD.out _ _ _ _ Kb1.out).mono ?_
          rintro e Wd ⟨Ad, cd, Md, rd, nq, rfl, hod, _, hb⟩
          have hzd := Kb1.out.size
          have kb2 := Kb1.out.trans (hb.mono hzd)
          have hUd := heap_alloc_new Wd (.cells #[.slice Ad Md.length cd, .int .i64 rd] 24)
          have hod1 := hod.below ((Below.refl Wd.heap.size Wd).alloc (Nat.le_refl _) (.cells #[.slice Ad Md.length cd, .int .i64 rd] 24))
          have kb3 := kb2.alloc kb2.size (.cells #[.slice Ad Md.length cd, .int .i64 rd] 24)
          have t0 := (FB.out _ kb3).t0
          have z0 : (Wd.alloc (.cells #[.slice Ad Md.length cd, .int .i64 rd] 24)).cell? ⟨Wd.heap.size, 0, none⟩ = some (.slice Ad Md.length cd) := blk_cell hUd 0
          have Hod := Lib.hid (hod1.mono hzd); have Kb3 := Lib.hid kb3
          clear hb kb2 hUd hod hod1 kb3 u0 u1 n0 n1 n2 d0 d1 d2 d3 d4 d5 d6 Kb1 hzd
          go_upto_region 17 with fail
          generalize Wd.alloc (.cells #[.slice Ad Md.length cd, .int .i64 rd] 24) = W10 at *
          obtain ⟨T15, hT15⟩ : ∃ T, T = Wd.heap.size := ⟨_, rfl⟩
          rw [← hT15] at z0 ⊢
          clear hT15
          go_cut [94] (fun s wx => ∃ b, s = .bool b ∧ (b = true → 0 < Md.length) ∧ wx = W10)
          case first =>
            by_cases hml : 0 < Md.length
            · have hc1 : decide ((0 : Int) < (Md.length : Int)) = true := decide_eq_true (by omega)
              cases hq : (nq == 0)
              all_goals
                go_wp2_with fail
                go_meet
                exact ⟨_, rfl, fun _ => hml, rfl⟩
            · have hc1 : decide ((0 : Int) < (Md.length : Int)) = false := decide_eq_false (by omega)
              cases hq : (nq == 0)
              all_goals
                go_wp2_with fail
                go_meet
                exact ⟨false, rfl, (fun h => by cases h), rfl⟩
          case rest =>
            obtain ⟨b, rfl, hml, rfl⟩ := hcut
            cases b
            · clear z0 hml
              go_wp2_with (go_at_call 35; (with_reducible refine (KE.out _ Kb3.out).mono ?_); rintro e WF ⟨rfl, hbF⟩)
              go_ret
              exact ⟨rfl, FW.out _ ((Kb3.out).trans (hbF.mono (Kb3.out).size))⟩
            · obtain ⟨gd, cpd, e, hg1, hg2, _, _⟩ := Hod.out.form (hml rfl)
              injection e with e1 e2 e3
              subst e1 e3
              have m5 := Hod.out.cell 0 5 (hml rfl) (by omega)
              have mf := Hod.out.frozen 5
              simp only [Nat.zero_mul, Nat.zero_add] at m5
              have hst : Below W6.heap.size W6 (wc.setCell ⟨gd, 5, none⟩ (.int .i64 (wrap64 (ndField (nd Md 0) 5 + 1)))) := Kb3.out.setCell (p := ⟨gd, 5, none⟩) hg1 _
              have hi1 : (0 : Int) < (Md.length : Int) := by have := hml rfl; omega
              have t1 := (FB.out _ hst).t0
              have Hst := Lib.hid hst
              clear hst hg1 hg2 hml t0
              go_wp2_with (go_at_call 35; (with_reducible refine (KE.out _ Hst.out).mono ?_); rintro e WF ⟨rfl, hbF⟩)
              go_ret
              exact ⟨rfl, FW.out _ ((Hst.out).trans (hbF.mono (Hst.out).size))⟩
        · have hc0 : decide ((0 : Int) < (N.length : Int)) = false := decide_eq_false (by omega)
          have t0 := (FB.out _ kb).t0
          go_wp2_with (go_at_call 35; (with_reducible refine (KE.out _ kb).mono ?_); rintro e WF ⟨rfl, hbF⟩)
          go_ret
          exact ⟨rfl, FW.out _ ((kb).trans (hbF.mono (kb).size))⟩
section
variable {H : Type} {enc : TypeId × Value → H} {w : World} {base : Nat} {spare : Nat → Bool} {held : Bool}
set_option maxRecDepth 100000 in
/-- A tree as an argument: what its nodes take up is bounded. -/
theorem open_tree_big {r : Reach} {b0 : Nat} {v : Value} {d : DataW H} {p : List MemPlace} (hv : Value.okWide Try.prog w r b0 24 v) (h : DataW.Trod enc Try.prog w base spare held 24 v d p) :
    ∃ (s : Value) (root : Int) (N : List Nd), v = .agg #[s, .int .i64 root] ∧ IsNodes w s N ∧ ∀ ts : List TypeId, ∀ ds : List (DataW H), ts[0]? = some 24 → ds[0]? = some d → (DataW.weightsEach Try.prog ts ds).all (· ≤ reachBytes) = true → N.length * 56 ≤ 140737488351232 := by
  obtain ⟨c0, c1, y0, y1, m, rfl, hd, _, h0, h1⟩ := open_agg2 struct_Tree one_Tree2 cells_Tree hv h
  rw [type_Tree0] at h0
  rw [type_Tree1] at h1
  obtain ⟨N, hN⟩ := open_nodes h0
  obtain ⟨b, e1, _, wb⟩ := DataW.trod_int Try.underlying3 h1
  simp only [List.cons.injEq, and_true] at e1
  subst e1
  refine ⟨c0, b, N, rfl, hN, fun ts ds hts hds hall => ?_⟩
  rcases open_slice Try.underlying22 h0 with ⟨e0, _⟩ | ⟨a, len, cap, m', n, D, Pl, hcs, hb, hl, hm, hmm, hx, hi⟩
  · simp only [List.cons.injEq, and_true] at e0
    subst e0
    obtain ⟨A, c, e2, _, _⟩ := hN.form
    injection e2 with _ e3 _
    rw [← e3]
    omega
  · simp only [List.cons.injEq, and_true] at hcs
    subst hcs
    obtain ⟨A, c, e2, _, _⟩ := hN.form
    injection e2 with _ e3 _
    rw [← e3]
    have hw : (len + (m' - len)) * Try.prog.bytesOf 60 ∈ DataW.weights Try.prog 24 d := by
      rw [hd, hx]
      simp only [DataW.weights, struct_Tree, List.map_cons, List.map_nil, DataW.weightsEach, type_Tree0, Try.underlying22]
      simp
    have h2 := List.all_eq_true.1 hall _ (DataW.weights_mem_each hts hds _ hw)
    rw [show Try.prog.bytesOf 60 = 56 from by kernel_rfl] at h2
    have h3 : (len + (m' - len)) * 56 ≤ reachBytes := by simpa using h2
    have h4 : reachBytes = 140737488351232 := by rfl
    rw [h4] at h3
    omega
end

set_option maxRecDepth 100000 in
theorem law42Own_lifted (os : Os) (started : os.Started) (H : Type) (enc : TypeId × Value → H) :
    ReturnsInHanded {} Try.checked os 9 .any (Rows.indexOwnSpec.pre6 enc Try.prog Try.f9 Rows.indexOwnRow.domain false) (Rows.indexOwnSpec.post enc Try.prog Try.f9 false true false false) := by
  refine returnsInHanded_of_change_sized (C := Try.checked) Try.own started (by kernel_rfl) Try.func9
    (ChangeSpec.witness6 (enc := enc) (C := Try.checked) false ⟨#[], #[.agg #[.slice none 0 0, .int .i64 0], .agg #[.int .i64 0, .int .i64 0], .int .i64 0], []⟩ 8 (by kernel_rfl) (by kernel_rfl) (by kernel_rfl) (by kernel_rfl)) ?_
  intro W base args ds gs before hval0 hW hcnd hsized _
  have hval : ∀ (j : Nat) t v, Try.f9.params[j]? = some t → args[j]? = some v → Value.okWide Try.prog W .any base t v := hval0
  have hW' := hW
  obtain ⟨p, q, hA0, hV, rfl, hfz, hnd⟩ := hW
  have hA : DataW.TrodAll enc Try.prog W 0 (fun _ => true) true Try.f9.params.toList args.toList ds p := hA0
  have hA1 := hA0
  rw [Try.params9] at hA hval
  obtain ⟨v0, v1, v2, d0, d1, d2, p0, p1, p2, rfl, rfl, hp, h0, h1, h2⟩ := trodAll_three hA
  obtain ⟨rfl, rfl⟩ := trodVars_none hV
  obtain ⟨s0, Nr, N, rfl, g0, hbig0⟩ := open_tree_big (hval 0 24 v0 rfl rfl) h0
  obtain ⟨s1, s2, rfl, g1⟩ := open_span (hval 1 33 v1 rfl rfl) h1
  obtain ⟨value, rfl, rfl, rfl, g2⟩ := open_int Try.underlying3 (hval 2 3 v2 rfl rfl) h2
  have hbig := hbig0 _ _ (by rw [Try.params9]; rfl) (by rfl) hsized
  clear hA0 hval0
  have hlt : ∀ x ∈ p, x.block < W.heap.size := fun x hx => hW'.lt x (by simp [hx])
  refine (law42Own_c s0 Nr N s1 s2 value W g0 hbig).mono fun e W' ⟨he, hg⟩ => ?_
  subst he
  exact ⟨_, rfl, post_of_below (pa := p) (pv := []) hW' (fun _ _ _ => trodAll_mk1 (shut_bool Try.underlying4 _))
    (fun sp hsp => trodAll_keep Try.laidOut hg (by kernel_rfl) hA1 hlt (fun x hx => hsp x (by simp [hx])))
    (fun _ _ => rfl) rfl hg (ok_one (by kernel_rfl) rfl (okWide_bool_mk Try.underlying4 _))⟩

theorem law42Own_holds : Rows.IndexOwnSaid :=
  OpenClaim.holds_of_wide 9 Try.f9 rfl rfl rfl rfl rfl rfl rfl ⟨rfl, rfl, rfl, rfl, rfl⟩ rfl rfl rfl rfl rfl (by kernel_rfl) Try.func9 (by kernel_rfl)
    (of_decide_eq_true (by kernel_rfl)) (by unfold Func.isWrapper; first | (rw [if_pos (by decide +kernel)]; kernel_rfl) | (rw [if_neg (by decide +kernel)]; exact ⟨rfl, rfl⟩))
    (fun os started H enc _ => law42Own_lifted os started H enc)
#print axioms law42Own_holds
end Go.Proofs.Ytgdcgdjlhljbiaa
