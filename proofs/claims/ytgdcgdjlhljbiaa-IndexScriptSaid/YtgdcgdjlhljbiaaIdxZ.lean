/- Law 42: index.Related. -/
import Derived.Test.YtgdcgdjlhljbiaaIdxY
namespace Go.Proofs.Ytgdcgdjlhljbiaa
open Go.RowKit Go.Shelf

/-- append(own, one number) in a list of operations; what it leaves alone. -/
theorem append_intG {P : Program} {tS tE : TypeId} (hS : P.underlying tS = some (.slice tE)) (hE : (P.info? tE).map (fun i => (i.zero, i.size, i.bytes)) = some (some (.int .i64 0), 1, 8))
    {ops : Array Oper} {rest : List Oper} {o : Oper} {a : Act} {Q : Exit → Act → World → Prop} (hgd : o.guard = none) (s x : Operand)
    (ho : o.op = .call { callee := .builtin .append, args := #[s, x], argTypes := #[tS, tS] })
    {w : World} (base : Nat) (v : Value) (l : List Int) (y : Int) (hs : a.eval s = v) (hown : w.ownsRow base tE 1 v l.length (flatI l))
    (hx : a.eval x = .slice (some ⟨w.heap.size, 0, none⟩) 1 1) (hlen : l.length < 900000000) (hbase : base ≤ w.heap.size)
    (h : ∀ v' w', w'.ownsRow base tE 1 v' (l ++ [y]).length (flatI (l ++ [y])) → Below base w w' → (∀ b, b < w.heap.size → v.ownBlock ≠ some b → w'.heap[b]? = w.heap[b]?) → (∀ k, v'.ownBlock = some k → v.ownBlock = some k ∨ w.heap.size ≤ k) → wpList P ops Q rest (a.put o.dst v') w') :
    wpList P ops Q (o :: rest) a (w.alloc (.cells #[.int .i64 y] tE)) := by
  obtain ⟨i, hi, hz, hsz, hby⟩ := info_parts hE
  have hown1 : (w.alloc (.cells #[.int .i64 y] tE)).ownsRow base tE 1 v l.length (flatI l) := own_below hown ((Below.refl _ _).alloc (Nat.le_refl _) _) (Nat.le_refl _)
  refine wpList_append_own_at (w.alloc (.cells #[.int .i64 y] tE)) hgd s x tS ho base tE i _ 1 8 hS hi hz hsz hby rfl (by omega) v l.length (flatI l) hs hown1 ⟨w.heap.size, 0, none⟩ 1 1
    [.int .i64 y] hx rfl ?_ (by simp [Value.oneCell']) (by unfold maxLen; omega) (by omega) (by simp; omega) ?_
  · intro j u hu
    rcases j with _ | j <;> simp at hu
    · subst hu; simp [Addr.add]
  · intro v' w' hown' hg _ hob
    refine h v' w' ?_ ?_ ?_ ?_
    · rw [List.length_append]
      simpa [flatI] using hown'
    · refine ((Below.refl base w).alloc hbase _).grown hg (by simp; omega) ?_
      intro k hk
      exact (World.ownsRow.lt hown k hk).1
    · intro b hb hne
      exact (hg.block b (by simp; omega) (fun e => hne e.symm)).trans (((Below.refl w.heap.size w).alloc (Nat.le_refl _) _).block b hb)
    · intro k hk
      rcases hob with h1 | h1
      · exact .inl (h1 ▸ hk)
      · rw [h1] at hk
        have := Option.some.inj hk
        simp at this
        exact .inr (by omega)
theorem OwnsI.kept {w w' : World} {base : Nat} {v : Value} {l : List Int} (h : OwnsI w base v l) (hk : ∀ g, v.ownBlock = some g → w'.heap[g]? = w.heap[g]?) : OwnsI w' base v l := by
  refine ⟨h.1, h.2.imp id ?_⟩
  rintro ⟨g, cap, cur, rfl, hg, hh, r⟩
  exact ⟨g, cap, cur, rfl, hg, (hk g rfl).trans hh, r⟩
theorem OwnsI.own {w : World} {base : Nat} {v : Value} {l : List Int} (h : OwnsI w base v l) (k : Nat) (hk : v.ownBlock = some k) : base ≤ k ∧ k < w.heap.size := World.ownsRow.lt h k hk
/-- The values of the entries that passed lie in the box. -/
def JR (c : Nat) (f : En → Bool) (w0 : World) (pre : List En) (W : World) : Prop := (∃ v, W.heap[c]? = some (.cells #[v] 49 (0, 0)) ∧ OwnsI W (c + 1) v ((pre.filter f).map (·.2.2))) ∧ Below c w0 W
theorem jr_keep {c : Nat} {f : En → Bool} {w0 : World} (pre : List En) (W W' : World) (h : JR c f w0 pre W) (hb : Below W.heap.size W W') : JR c f w0 pre W' := by
  obtain ⟨⟨v, hv, ho⟩, hB⟩ := h
  exact ⟨⟨v, (hb.block c (lt_of_block hv)).trans hv, ho.below hb⟩, hB.trans (hb.mono (by have := lt_of_block hv; omega))⟩
theorem jr_wf {c : Nat} {f : En → Bool} {w0 : World} {pre : List En} {W : World} (h : JR c f w0 pre W) : wfBox c 49 W := by
  obtain ⟨⟨v, hv, ho⟩, _⟩ := h
  exact ⟨v, hv, fun k hk => by have := ho.own k hk; omega⟩
theorem ent_xRelated1 : ∀ (args : Array Value) (w : World), Sem.run Try.prog (callFunc 61 args) w = .ok (.enter 61 args) w := fun _ _ => by kernel_rfl
set_option maxRecDepth 100000 in
theorem xRelated1_c (c cs cp : Nat) (set p q : Int) (w0 : World) (hcs : cs < c) (hcp : cp < c) (s0 : w0.cell? ⟨cs, 0, none⟩ = some (.int .i64 set)) (p0 : w0.cell? ⟨cp, 0, none⟩ = some (.int .i64 p)) (p1 : w0.cell? ⟨cp, 1, none⟩ = some (.int .i64 q))
    (hpq : okSpan (p, q) = true) (pre : List En) (x : En) (W : World) (hx : okSpan (x.1, x.2.1) = true) (hJ : JR c (fun e => holdsB set e.1 e.2.1 p q) w0 pre W) (hl : pre.length < 100000) :
    Calls Try.prog 61 #[.agg #[.int .i64 x.1, .int .i64 x.2.1, .int .i64 x.2.2], .pointer (some ⟨cs, 0, none⟩), .pointer (some ⟨cp, 0, none⟩), .pointer (some ⟨c, 0, none⟩)] W fun e W' =>
      e = .returned (.bool true) ∧ JR c (fun e => holdsB set e.1 e.2.1 p q) w0 (pre ++ [x]) W' ∧ Kp (wfBox c 49) (OBox c 49) W W' := by
  have hJ0 := hJ
  obtain ⟨⟨v, hv, ho⟩, hB⟩ := hJ
  obtain ⟨x0, x1, x2⟩ := x
  simp only at hx
  have KH := Lib.hid (fun U => aHolds_c set x0 x1 p q U hx hpq)
  have hcw := lt_of_block hv
  obtain ⟨n, hn⟩ : ∃ n, n = ((pre.filter fun e => holdsB set e.1 e.2.1 p q).map (·.2.2)).length := ⟨_, rfl⟩
  have hnl : n ≤ pre.length := by rw [hn, List.length_map]; exact List.length_filter_le _ _
  obtain ⟨A, cap, hf⟩ : ∃ A cap, v = .slice A n cap := by
    obtain ⟨A, cp, e, _⟩ := (ints_of_own ho).form
    exact ⟨A, cp, by rw [e, hn]⟩
  subst hf
  have hbA := (Below.refl W.heap.size W).alloc (Nat.le_refl _) (.cells #[.int .i64 x0, .int .i64 x1, .int .i64 x2] 75)
  have hBA := hB.trans (hbA.mono (Nat.le_of_lt hcw))
  have s0' := (hBA.cell (p := ⟨cs, 0, none⟩) hcs).trans s0
  have p0' := (hBA.cell (p := ⟨cp, 0, none⟩) hcp).trans p0
  have p1' := (hBA.cell (p := ⟨cp, 1, none⟩) hcp).trans p1
  have e0 : (W.alloc (.cells #[.int .i64 x0, .int .i64 x1, .int .i64 x2] 75)).cell? ⟨W.heap.size, 0, none⟩ = some (.int .i64 x0) := by simp
  have e1 : (W.alloc (.cells #[.int .i64 x0, .int .i64 x1, .int .i64 x2] 75)).cell? ⟨W.heap.size, 1, none⟩ = some (.int .i64 x1) := by simp
  have e2 : (W.alloc (.cells #[.int .i64 x0, .int .i64 x1, .int .i64 x2] 75)).cell? ⟨W.heap.size, 2, none⟩ = some (.int .i64 x2) := by simp
  have hz : (W.alloc (.cells #[.int .i64 x0, .int .i64 x1, .int .i64 x2] 75)).heap.size = W.heap.size + 1 := by simp
  have hne : (Value.slice A n cap).ownBlock ≠ some c := fun e => by have := (ho.own c e).1; omega
  have HJ0 := Lib.hid hJ0; have HbA := Lib.hid hbA; have Ho := Lib.hid ho; have Hv := Lib.hid hv; have HB := Lib.hid hB; have Hne := Lib.hid hne; have Hn := Lib.hid hn
  clear hJ0 hbA ho hv hB hne hn hBA hx hpq
  go_enter Try.func61, Try.ntmps61
  go_wp2_with fail
  refine (KH.out _).mono ?_
  rintro e w2 ⟨rfl, hb2⟩
  have hb02 : Below W.heap.size W w2 := HbA.out.trans (hb2.mono HbA.out.size)
  cases hh : holdsB set x0 x1 p q
  · have Hh := Lib.hid hh; have Hb02 := Lib.hid hb02
    clear hh hb02 hb2
    go_wp2_with fail
    go_ret
    refine ⟨rfl, ?_, (dom_box c 49).keeps (jr_wf HJ0.out) Hb02.out⟩
    have h := jr_keep _ _ _ HJ0.out Hb02.out
    unfold JR at h ⊢
    rw [List.filter_append, List.filter_cons, Hh.out, List.filter_nil]
    simpa using h
  · have hv2 : w2.heap[c]? = some (.cells #[.slice A n cap] 49 (0, 0)) := (hb02.block c hcw).trans Hv.out
    have c0 : w2.cell? ⟨c, 0, none⟩ = some (.slice A n cap) := by simp [World.cell?, hv2]
    have e2' := (hb2.cell (p := ⟨W.heap.size, 2, none⟩) (by rw [hz]; exact Nat.lt_succ_self _)).trans e2
    have ho2 := Ho.out.below hb02
    have hsz2 := hb02.size
    have Hh := Lib.hid hh; have Hb02 := Lib.hid hb02; have Hv2 := Lib.hid hv2; have Ho2 : Hid (w2.ownsRow (c + 1) 3 1 (.slice A n cap) ((pre.filter fun e => holdsB set e.1 e.2.1 p q).map (·.2.2)).length (flatI ((pre.filter fun e => holdsB set e.1 e.2.1 p q).map (·.2.2)))) := Lib.hid ho2
    clear hh hb02 hb2 hv2 ho2 e0 e1 e2 s0' p0' p1'
    go_wp2_with (at_builtin; refine append_intG Try.underlying49 tIntInfoX rfl _ _ rfl (c + 1) (.slice A n cap) ((pre.filter fun e => holdsB set e.1 e.2.1 p q).map (·.2.2)) x2 rfl Ho2.out rfl (by rw [← Hn.out]; omega) (by omega) ?_; intro v' w' h1 h2 h3 h4; have q0 : w'.heap[c]? = some (.cells #[.slice A n cap] 49 (0, 0)) := (h3 c (by omega) Hne.out).trans Hv2.out; have q1 : w'.cell? ⟨c, 0, none⟩ = some (.slice A n cap) := (by simp [World.cell?, q0]); have q2 : w'.frozen? ⟨c, 0, none⟩ = false := (by simp [World.frozen?, q0]); have Q0 := Lib.hid q0; have H2 := Lib.hid h2; have H3 := Lib.hid h3; have H4 := Lib.hid h4; obtain ⟨g', cap', rfl, hg1, hg2, _, _⟩ := own_formI h1 (by simp); have H1 := Lib.hid h1; clear h1 h2 h3 h4 q0)
    go_ret
    have h1 := H1.out
    have h4 := H4.out
    have e : ((pre.filter fun e => holdsB set e.1 e.2.1 p q).map (·.2.2) ++ [x2]).length = (pre.filter fun e => holdsB set e.1 e.2.1 p q).length + 1 := by simp
    have e5 : ((pre ++ [(x0, x1, x2)]).filter fun e => holdsB set e.1 e.2.1 p q).map (·.2.2) = (pre.filter fun e => holdsB set e.1 e.2.1 p q).map (·.2.2) ++ [x2] := by
      rw [List.filter_append, List.filter_cons, Hh.out, List.filter_nil]
      simp
    rw [← e]
    have h1' : OwnsI w' (c + 1) (.slice (some ⟨g', 0, none⟩) ((pre.filter fun e => holdsB set e.1 e.2.1 p q).map (·.2.2) ++ [x2]).length cap') ((pre.filter fun e => holdsB set e.1 e.2.1 p q).map (·.2.2) ++ [x2]) := h1
    generalize hm : ((pre.filter fun e => holdsB set e.1 e.2.1 p q).map (·.2.2) ++ [x2]).length = m at *
    have hc2 : (w'.setCell ⟨c, 0, none⟩ (.slice (some ⟨g', 0, none⟩) m cap')).heap[c]? = some (.cells #[.slice (some ⟨g', 0, none⟩) m cap'] 49 (0, 0)) := by
      have := Q0.out
      simp [World.setCell, Array.getElem?_modify, this]
    have hb02 := Hb02.out
    refine ⟨rfl, ⟨⟨_, hc2, ?_⟩, ((HB.out.trans (hb02.mono (by omega))).trans (H2.out.mono (by omega))).setCell (p := ⟨c, 0, none⟩) (Nat.le_refl _) _⟩,
      kp_box Hv.out Hne.out (Nat.le_trans hsz2 H2.out.size) (fun b hb hn => (H3.out b (by omega) hn).trans (hb02.block b hb)) (fun k hk => (h4 k hk).imp id (fun h => by omega)) (fun k hk => by have := h1'.own k hk; omega)⟩
    rw [e5]
    refine h1'.kept fun g hg => Below.heap_setCell _ _ _ _ (fun e => ?_)
    have h5 := (h1'.own g hg).1
    simp only at e
    omega
theorem old_blk {w : World} {k : Nat} {b o : Obj} (h : w.heap[k]? = some b) : (w.alloc o).heap[k]? = some b := (Below.heap_alloc w o k (lt_of_block h)).trans h
theorem new_blk (w : World) (o : Obj) {n : Nat} (h : n = w.heap.size) : (w.alloc o).heap[n]? = some o := by rw [h]; exact heap_alloc_new w o
theorem blk_cell {w : World} {b : Nat} {cs : Array Value} {t : TypeId} {r : Nat × Nat} (h : w.heap[b]? = some (.cells cs t r)) (i : Nat) : w.cell? ⟨b, i, none⟩ = cs[i]? := by simp [World.cell?, h]
theorem blk_frozen {w : World} {b : Nat} {cs : Array Value} {t : TypeId} (h : w.heap[b]? = some (.cells cs t (0, 0))) (i : Nat) : w.frozen? ⟨b, i, none⟩ = false := by simp [World.frozen?, h]
noncomputable def relL (N : List Nd) (root set p q : Int) : List Int := if treeB N root = true ∧ okSpan (p, q) = true then ((entsT N root).filter fun e => holdsB set e.1 e.2.1 p q).map (·.2.2) else []
set_option maxRecDepth 100000 in
theorem xRelated_c (v : Value) (root set p q : Int) (N : List Nd) (w : World) (hs : IsNodes w v N) : Calls Try.prog 28 #[.agg #[v, .int .i64 root], .agg #[.int .i64 p, .int .i64 q], .int .i64 set] w (IntsRet w (relL N root set p q)) := by
  obtain ⟨A, c, rfl, hnc, hc⟩ := hs.form
  obtain ⟨w0, hw0⟩ : ∃ w0, w0 = (((w.alloc (.cells #[.slice A N.length c, .int .i64 root] 24)).alloc (.cells #[.int .i64 p, .int .i64 q] 33)).alloc (.cells #[.int .i64 set] 3)).alloc (.cells #[.slice none 0 0] 49) := ⟨_, rfl⟩
  have hb1 : Below w.heap.size w w0 := by rw [hw0]; exact (((Below.refl _ _).alloc (Nat.le_refl _) _).alloc (by simp) _ |>.alloc (by simp; omega) _).alloc (by simp; omega) _
  have hz0 : w0.heap.size = w.heap.size + 4 := by rw [hw0]; simp
  have hC : w0.heap[w.heap.size + 3]? = some (.cells #[.slice none 0 0] 49 (0, 0)) := by rw [hw0]; exact new_blk _ _ (by simp)
  have hT : w0.heap[w.heap.size]? = some (.cells #[.slice A N.length c, .int .i64 root] 24 (0, 0)) := by rw [hw0]; exact old_blk (old_blk (old_blk (new_blk _ _ rfl)))
  have hS : w0.heap[w.heap.size + 1]? = some (.cells #[.int .i64 p, .int .i64 q] 33 (0, 0)) := by rw [hw0]; exact old_blk (old_blk (new_blk _ _ (by simp)))
  have hU : w0.heap[w.heap.size + 2]? = some (.cells #[.int .i64 set] 3 (0, 0)) := by rw [hw0]; exact old_blk (new_blk _ _ (by simp))
  have t0 := blk_cell hT 0
  have t1 := blk_cell hT 1
  have s0 := blk_cell hS 0
  have s1 := blk_cell hS 1
  have u0 := blk_cell hU 0
  simp at t0 t1 s0 s1 u0
  have hs1 := hs.below hb1
  have hlow : LowNodes (w.heap.size + 3) w0 (.slice A N.length c) N := ⟨hs1, fun b o n c' hv h0 => by
    have := (LowNodes.of (n₀ := w.heap.size) hs (Nat.le_refl _)).2 b o n c' hv h0
    omega⟩
  have hK := ivValid_c p q
  have HV : ∀ W, Below w0.heap.size w0 W → Calls Try.prog 14 #[.agg #[.slice A N.length c, .int .i64 root]] W (Ret W (.bool (treeB N root))) := fun W hb => xValid_c _ _ _ _ (hs1.below hb)
  have Hb1 := Lib.hid hb1; have HC := Lib.hid hC; have Hlow := Lib.hid hlow; have Hz0 := Lib.hid hz0; have Hs1 := Lib.hid hs1
  have HVH := Lib.hid HV; have HK := Lib.hid hK
  clear hb1 hC hlow hz0 hs1 hs HV hK hT hS hU
  have Hw0 := Lib.hid hw0
  rw [hw0] at t0 t1 s0 s1 u0
  clear hw0
  cases ho : okSpan (p, q)
  · have e : relL N root set p q = [] := if_neg (by rw [ho]; simp)
    rw [e]
    have HKf : Hid (∀ W : World, Calls Try.prog 36 #[.agg #[.int .i64 p, .int .i64 q]] W (Ret W (.bool false))) := Lib.hid fun W => by have := HK.out W; rwa [ho] at this
    clear ho e
    go_enter Try.func28, Try.ntmps28
    go_wp2_with fail
    rw [← Hw0.out]
    refine (HKf.out _).mono ?_
    rintro e w2 ⟨rfl, hb2⟩
    clear t0 t1 s0 s1 u0
    go_wp2_with fail
    go_ret
    exact ⟨_, rfl, OwnsI.nil, Hb1.out.trans (hb2.mono Hb1.out.size)⟩
  · have HKt : Hid (∀ W : World, Calls Try.prog 36 #[.agg #[.int .i64 p, .int .i64 q]] W (Ret W (.bool true))) := Lib.hid fun W => by have := HK.out W; rwa [ho] at this
    cases ht : treeB N root
    · have e : relL N root set p q = [] := if_neg (by rw [ht]; simp)
      rw [e]
      have HVf : Hid (∀ W, Below w0.heap.size w0 W → Calls Try.prog 14 #[.agg #[.slice A N.length c, .int .i64 root]] W (Ret W (.bool false))) := Lib.hid fun W hb => by have := HVH.out W hb; rwa [ht] at this
      clear ho e ht
      go_enter Try.func28, Try.ntmps28
      go_wp2_with fail
      rw [← Hw0.out] at t0 t1 s0 s1 u0 ⊢
      refine (HKt.out _).mono ?_
      rintro e w2 ⟨rfl, hb2⟩
      have hz := Hz0.out
      have t0 := (hb2.cell (p := ⟨w.heap.size, 0, none⟩) (by simp only; omega)).trans t0
      have t1 := (hb2.cell (p := ⟨w.heap.size, 1, none⟩) (by simp only; omega)).trans t1
      clear s0 s1 u0 hz
      go_wp2_with (go_at_call 14; (with_reducible refine (HVf.out _ hb2).mono ?_); rintro e w3 ⟨rfl, hb3⟩)
      go_ret
      exact ⟨_, rfl, OwnsI.nil, Hb1.out.trans ((hb2.trans (hb3.mono hb2.size)).mono Hb1.out.size)⟩
    · have e : relL N root set p q = ((entsT N root).filter fun e => holdsB set e.1 e.2.1 p q).map (·.2.2) := if_pos ⟨ht, ho⟩
      rw [e]
      have HVt : Hid (∀ W, Below w0.heap.size w0 W → Calls Try.prog 14 #[.agg #[.slice A N.length c, .int .i64 root]] W (Ret W (.bool true))) := Lib.hid fun W hb => by have := HVH.out W hb; rwa [ht] at this
      obtain ⟨h1, h2⟩ := treeB_valid ht
      obtain ⟨L, hh, m, hsub, _, e1, e2⟩ := entsT_spec h2
      rw [e2]
      have HW : ∀ W, Below w0.heap.size w0 W → Calls Try.prog 57 #[.agg #[.slice A N.length c, .int .i64 root], .int .i64 root, .func (.func 61) #[] #[.pointer (some ⟨w.heap.size + 2, 0, none⟩), .pointer (some ⟨w.heap.size + 1, 0, none⟩), .pointer (some ⟨w.heap.size + 3, 0, none⟩)]] W (WalkRet (wfBox (w.heap.size + 3) 49) (OBox (w.heap.size + 3) 49) (JR (w.heap.size + 3) (fun e => holdsB set e.1 e.2.1 p q) W) (fun _ _ => False) [] (entsOf N L) W) := fun W hb => by
        have hz := Hz0.out
        have hC := (hb.block _ (by omega)).trans HC.out
        have s0' : W.cell? ⟨w.heap.size + 1, 0, none⟩ = some (.int .i64 p) := (hb.cell (p := ⟨w.heap.size + 1, 0, none⟩) (by simp only; omega)).trans (by rw [Hw0.out]; exact s0)
        have s1' : W.cell? ⟨w.heap.size + 1, 1, none⟩ = some (.int .i64 q) := (hb.cell (p := ⟨w.heap.size + 1, 1, none⟩) (by simp only; omega)).trans (by rw [Hw0.out]; exact s1)
        have u0' : W.cell? ⟨w.heap.size + 2, 0, none⟩ = some (.int .i64 set) := (hb.cell (p := ⟨w.heap.size + 2, 0, none⟩) (by simp only; omega)).trans (by rw [Hw0.out]; exact u0)
        exact xwalk_c 61 #[.pointer (some ⟨w.heap.size + 2, 0, none⟩), .pointer (some ⟨w.heap.size + 1, 0, none⟩), .pointer (some ⟨w.heap.size + 3, 0, none⟩)] ent_xRelated1 (w.heap.size + 3) (wfBox (w.heap.size + 3) 49) (OBox (w.heap.size + 3) 49) (dom_box _ _)
          (JR (w.heap.size + 3) (fun e => holdsB set e.1 e.2.1 p q) W) (fun _ _ => False) jr_keep L.length
          (fun pre x W' hx hj _ hlt => (xRelated1_c (w.heap.size + 3) (w.heap.size + 2) (w.heap.size + 1) set p q W (by omega) (by omega) u0' s0' s1' ho pre x W' hx hj (by omega)).mono fun _ _ h => .inl h) hsub (.slice A N.length c) root [] W ⟨Hlow.out.1.below hb, Hlow.out.2⟩ ⟨⟨_, hC, OwnsI.nil⟩, Below.refl _ _⟩ ⟨_, hC, fun k hk => by simp [Value.ownBlock] at hk⟩ (by simp)
      have HHW := Lib.hid HW
      have HL : Hid ((entsOf N L).length ≤ 1000) := Lib.hid (by simp [entsOf]; omega)
      clear ho e ht HW h1 h2 e1 e2
      go_enter Try.func28, Try.ntmps28
      go_wp2_with fail
      rw [← Hw0.out] at t0 t1 s0 s1 u0 ⊢
      refine (HKt.out _).mono ?_
      rintro e w2 ⟨rfl, hb2⟩
      have hz : w.heap.size < w0.heap.size := by have := Hz0.out; omega
      have t0 := (hb2.cell (p := ⟨w.heap.size, 0, none⟩) hz).trans t0
      have t1 := (hb2.cell (p := ⟨w.heap.size, 1, none⟩) hz).trans t1
      have hz := Nat.lt_of_lt_of_le hz hb2.size
      clear s0 s1 u0
      go_wp2_with (first
        | (go_at_call 57; (with_reducible refine (HHW.out _ hb23).mono ?_); rintro e w4 (⟨rfl, ⟨⟨v4, hv4, ho4⟩, hB4⟩, _⟩ | ⟨_, _, _, hf⟩); obtain ⟨A4, c4, rfl, _, _⟩ := (ints_of_own ho4).form; have q0 : w4.cell? ⟨w.heap.size + 3, 0, none⟩ = some (.slice A4 (((entsOf N L).filter fun e => holdsB set e.1 e.2.1 p q).map (·.2.2)).length c4) := (by simp [World.cell?, hv4]); have Ho4 := Lib.hid ho4; have HB4 := Lib.hid hB4; clear hv4 ho4 hB4)
        | (go_at_call 14; (with_reducible refine (HVt.out _ hb2).mono ?_); rintro e w3 ⟨rfl, hb3⟩; have hb23 := hb2.trans (hb3.mono hb2.size); have t0 := (hb3.cell (p := ⟨w.heap.size, 0, none⟩) hz).trans t0; have t1 := (hb3.cell (p := ⟨w.heap.size, 1, none⟩) hz).trans t1))
      go_ret
      have hb23 := Hb1.out.trans (hb23.mono Hb1.out.size)
      have ho := Ho4.out
      rw [List.nil_append] at ho
      refine ⟨_, rfl, ?_, hb23.trans (HB4.out.mono (by omega))⟩
      rw [List.length_map] at ho
      exact ho.mono (by omega)
end Go.Proofs.Ytgdcgdjlhljbiaa
