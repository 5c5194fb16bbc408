/- Law 39: the visitor of Group. -/
import Derived.Deep.RegionHeld3
import Derived.Test.YtohjgegnamcnlaaGreatAgY
namespace Go.Proofs.YtohjgegnamcnlaaGreat
open Go.RowKit Go.Shelf

/-- aggregate.result, for each function. -/
theorem aresult_c (v : Value) (G : List VRow) (fn colI : Int) (w : World) (hs : IsRv w v G) (hn : 0 < G.length) (hl : G.length ≤ 1000000) (hf : FnOk fn) (hc : fn ≠ 1 → 0 ≤ colI ∧ ∀ r ∈ G, colI.toNat < r.length) (hok : ∀ r ∈ G, okR r) :
    Calls Tryz.prog 38 #[v, .int .i64 fn, .int .i64 colI] w (Ret w (.tuple #[encV (resR fn colI.toNat G).1, .int .i64 (resR fn colI.toNat G).2])) := by
  by_cases h1 : fn = 1
  · subst h1
    exact aresult_count v G colI w hs
  · obtain ⟨hc0, hcr⟩ := hc h1
    have hval : ∀ r ∈ G, colI.toNat < r.length ∧ okV (va r colI.toNat) := fun r hr => ⟨hcr r hr, hok r hr _ (va_mem (hcr r hr))⟩
    have hcol : (colI.toNat : Int) = colI := Int.toNat_of_nonneg hc0
    by_cases h2 : fn = 2
    · subst h2
      have := aresult_sum v G colI.toNat w hs hl fun r hr => ⟨(hval r hr).1, (hval r hr).2.2⟩
      rw [hcol] at this
      exact this
    · have := aresult_best v G colI.toNat fn w hs hn (fun r hr => ⟨(hval r hr).1, (hval r hr).2.1⟩) (by unfold FnOk at hf; omega)
      rw [hcol] at this
      have e : resR fn colI.toNat G = (bestV fn (colV G colI.toNat), 0) := by unfold resR; rw [if_neg h1, if_neg h2]
      rw [e]
      exact this
theorem vB_int (n : Int) : vB (1, n, ⟨#[]⟩) = true := by simp [vB]
theorem res_ok {fn : Int} {col : Nat} {G : List VRow} (hn : G ≠ []) (hl : G.length ≤ 1000000) (hf : FnOk fn) (hc : fn ≠ 1 → ∀ r ∈ G, col < r.length) (hok : ∀ r ∈ G, okR r) (h0 : (resR fn col G).2 = 0) : okV (resR fn col G).1 := by
  unfold resR at h0 ⊢
  by_cases h1 : fn = 1
  · rw [if_pos h1] at h0 ⊢
    refine ⟨vB_int _, ?_⟩
    unfold I64
    simp only
    omega
  · rw [if_neg h1] at h0 ⊢
    by_cases h2 : fn = 2
    · rw [if_pos h2] at h0 ⊢
      refine ⟨vB_int _, ?_⟩
      unfold I64
      simp only at h0 ⊢
      unfold resS at h0 ⊢
      split at h0
      · rename_i hh; rw [if_pos hh]; exact hh
      · cases h0
    · rw [if_neg h2]
      have hne : colV G col ≠ [] := by unfold colV; simpa using hn
      have hm := (best_spec (fn := fn) (by unfold FnOk at hf; omega) hne).1
      unfold colV at hm
      obtain ⟨r, hr, e⟩ := List.mem_map.1 hm
      show okV (bestV fn (List.map (fun r => va r col) G))
      rw [← e]
      exact hok r hr _ (va_mem (hc h1 r hr))
def BoxAt (W : World) (b : Nat) (v : Value) : Prop := ∃ t, W.heap[b]? = some (.cells #[v] t (0, 0))
theorem BoxAt.cell {W : World} {b : Nat} {v : Value} (h : BoxAt W b v) : W.cell? ⟨b, 0, none⟩ = some v := by obtain ⟨t, h⟩ := h; exact blk_get h 0
theorem BoxAt.block {W W' : World} {b : Nat} {v : Value} (h : BoxAt W b v) (hb : W'.heap[b]? = W.heap[b]?) : BoxAt W' b v := by obtain ⟨t, h⟩ := h; exact ⟨t, hb.trans h⟩
theorem BoxAt.lt {W : World} {b : Nat} {v : Value} (h : BoxAt W b v) : b < W.heap.size := by obtain ⟨t, h⟩ := h; exact blk_lt h
theorem BoxAt.notmap {W : World} {b c n : Nat} {v : Value} {f : ByteArray → Option Value} (h : BoxAt W b v) (hm : MapIs W c n f) : b ≠ c := fun e => by
  have := hm.cell 0
  rw [← e, h.cell] at this
  cases this
/-- What is known ahead of a grouping: the facts, the keys, the function. -/
structure GrpE (F : List Fct) (S : Nat → Value) (n0 : Nat) (ks : List Int) (fn colI : Int) (base : Nat) (w0 : World) (v vk : Value) : Prop where
  fs : FsIn w0 v F S
  base : base = w0.heap.size
  row : ∀ f ∈ F, okR f.1 ∧ f.1.length = n0
  n0r : 1 ≤ n0 ∧ n0 ≤ 8
  kint : IsInts w0 vk ks
  kin : keysIn n0 ks
  kl : ks.length ≤ 7
  fnk : FnOk fn
  col : fn ≠ 1 → 0 ≤ colI ∧ colI.toNat < n0
  line : ∀ f ∈ F, OkSp f.2
  len : F.length ≤ 1000
/-- The boxes of the variables that the visitor reads. -/
structure GrpBx (W : World) (bk bf bc bt : Nat) (vk : Value) (fn colI : Int) (p : Nat) : Prop where
  k : BoxAt W bk vk
  f : BoxAt W bf (.int .i64 fn)
  c : BoxAt W bc (.int .i64 colI)
  t : BoxAt W bt (.pointer (some ⟨p, 0, none⟩))
theorem GrpBx.keep {W W' : World} {bk bf bc bt p : Nat} {vk : Value} {fn colI : Int} (h : GrpBx W bk bf bc bt vk fn colI p) (hb : ∀ b, b = bk ∨ b = bf ∨ b = bc ∨ b = bt → W'.heap[b]? = W.heap[b]?) : GrpBx W' bk bf bc bt vk fn colI p :=
  ⟨h.k.block (hb _ (.inl rfl)), h.f.block (hb _ (.inr (.inl rfl))), h.c.block (hb _ (.inr (.inr (.inl rfl)))), h.t.block (hb _ (.inr (.inr (.inr rfl))))⟩
def GrpJ (F : List Fct) (ks : List Int) (fn colI : Int) (base zs z1 : Nat) (w0 : World) (vk : Value) (bk bf bc bt p bv bs : Nat) (Vs : List Vis) (W : World) : Prop :=
  Below base w0 W ∧ GrpBx W bk bf bc bt vk fn colI p ∧ ∃ n E U T A, TabAt base zs z1 W p bv bs n E U T ∧ TabOk E A ∧ GrpA ks fn colI.toNat Vs A ∧ n ≤ F.length * Vs.length ∧ (flatE E).length ≤ n ∧ ∀ v ∈ Vs, ¬ ErrIn ks fn colI.toNat v.2
def GrpFin (ks : List Int) (fn colI : Int) (Vs : List Vis) (c : Int) (_ : World) : Prop := c = 9 ∧ ∃ v ∈ Vs, ErrIn ks fn colI.toNat v.2
theorem grpJ_keep {F : List Fct} {ks : List Int} {fn colI : Int} {base zs z1 : Nat} {w0 : World} {vk : Value} {bk bf bc bt p bv bs : Nat} (h0 : base ≤ w0.heap.size) (hbz : base ≤ zs) (hx : ∀ b, b = bk ∨ b = bf ∨ b = bc ∨ b = bt → b < zs) (Vs : List Vis) (W W' : World)
    (h : GrpJ F ks fn colI base zs z1 w0 vk bk bf bc bt p bv bs Vs W) (hk : Oz zs z1 W W') : GrpJ F ks fn colI base zs z1 w0 vk bk bf bc bt p bv bs Vs W' := by
  obtain ⟨h1, h2, n, E, U, T, A, h3, h4⟩ := h
  refine ⟨hk.below h1 h0 hbz, h2.keep fun b hb => hk.oth b ?_ (by have := hx b hb; omega), n, E, U, T, A, h3.keep hk hbz, h4⟩
  rcases hb with rfl | rfl | rfl | rfl
  · exact h2.k.lt
  · exact h2.f.lt
  · exact h2.c.lt
  · exact h2.t.lt
theorem vr_rowsJ {F : List Fct} {js : List Nat} {i : Nat} (h : i < js.length) : vr (rowsJ F js) i = (fc F (js.getD i 0)).1 := by
  unfold vr rowsJ
  simp [h]
theorem getD_mem {js : List Nat} {i : Nat} (h : i < js.length) : js.getD i 0 ∈ js := by
  rw [List.getD_eq_getElem?_getD, List.getElem?_eq_getElem h]
  exact List.getElem_mem h
theorem pick_ok {r : VRow} {ks : List Int} (hr : okR r) (hk : keysIn r.length ks) : okR (pickR r ks) := fun x hx => by
  obtain ⟨k, hk1, rfl⟩ := List.mem_map.1 hx
  obtain ⟨h1, h2⟩ := hk k hk1
  exact hr _ (va_mem (by omega))
theorem pick_len (r : VRow) (ks : List Int) : (pickR r ks).length = ks.length := by simp [pickR]
/-- The groups done. -/
structure GDn (Ks : List VRow) (ks : List Int) (fn : Int) (col : Nat) (R : List VRow) (s : Sp) (A : List Fct) (dn : List Nat) (A' : List Fct) (todo : ByteArray → Bool) : Prop where
  nd : dn.Nodup
  lt : ∀ i ∈ dn, i < Ks.length
  iff : ∀ i, i < Ks.length → (i ∈ dn ↔ todo (encR (kK Ks i)) = false)
  add : ∀ a, a ∈ A' ↔ a ∈ A ∨ ∃ i ∈ dn, a = (outR ks fn col R (kK Ks i), s)
  err : ∀ i ∈ dn, (resR fn col (memG ks R (kK Ks i))).2 = 0
theorem GDn.start {Ks : List VRow} {ks : List Int} {fn : Int} {col : Nat} {R : List VRow} {s : Sp} {A : List Fct} {V : Nat → Value} (h : KeyOk Ks) : GDn Ks ks fn col R s A [] A (fun x => (lookK Ks V x).isSome) :=
  ⟨List.nodup_nil, fun i hi => absurd hi (by simp), fun i hi => by rw [h.look V hi]; simp, fun a => by simp, fun i hi => absurd hi (by simp)⟩
theorem GDn.step {Ks : List VRow} {ks : List Int} {fn : Int} {col : Nat} {R : List VRow} {s : Sp} {A A' : List Fct} {dn : List Nat} {todo : ByteArray → Bool} (hk : KeyOk Ks) (h : GDn Ks ks fn col R s A dn A' todo) {i : Nat} (hi : i < Ks.length) (ht : todo (encR (kK Ks i)) = true) (he : (resR fn col (memG ks R (kK Ks i))).2 = 0) :
    GDn Ks ks fn col R s A (dn ++ [i]) (A' ++ [(outR ks fn col R (kK Ks i), s)]) (fun x => todo x && !decide (x = encR (kK Ks i))) := by
  have hni : i ∉ dn := fun q => by
    rw [(h.iff i hi).1 q] at ht
    cases ht
  refine ⟨?_, fun j hj => ?_, fun j hj => ?_, fun a => ?_, fun j hj => ?_⟩
  · refine List.nodup_append.2 ⟨h.nd, by simp, fun a ha b hb e => ?_⟩
    rw [List.mem_singleton] at hb
    rw [e, hb] at ha
    exact hni ha
  · rcases List.mem_append.1 hj with e | e
    · exact h.lt j e
    · rw [List.mem_singleton] at e
      rw [e]; exact hi
  · rw [List.mem_append, List.mem_singleton, h.iff j hj]
    constructor
    · rintro (e | e)
      · rw [e]; rfl
      · rw [e]; simp
    · intro e
      by_cases q : encR (kK Ks j) = encR (kK Ks i)
      · exact .inr (hk.inj hj hi q)
      · refine .inl ?_
        rw [decide_eq_false q] at e
        simpa using e
  · rw [List.mem_append, List.mem_singleton, h.add]
    constructor
    · rintro ((e | ⟨j, hj, e⟩) | e)
      · exact .inl e
      · exact .inr ⟨j, by simp [hj], e⟩
      · exact .inr ⟨i, by simp, e⟩
    · rintro (e | ⟨j, hj, e⟩)
      · exact .inl (.inl e)
      · rcases List.mem_append.1 hj with q | q
        · exact .inl (.inr ⟨j, q, e⟩)
        · rw [List.mem_singleton] at q
          rw [q] at e
          exact .inr e
  · rcases List.mem_append.1 hj with e | e
    · exact h.err j e
    · rw [List.mem_singleton] at e
      rw [e]; exact he
theorem grp_rv {W : World} {q : Nat} {o : Value} {J : List Nat} {S : Nat → Value} {R : List VRow} (h : W.ownsRow q 47 1 o J.length (J.map S)) (hv : ∀ j ∈ J, IsVals W (S j) (vr R j)) : IsRv W o (J.map (vr R)) := by
  refine ⟨fun i => S (J.getD i 0), ?_, fun i hi => ?_⟩
  · rw [List.length_map]
    exact rj_own h
  · rw [List.length_map] at hi
    have e : vr (J.map (vr R)) i = vr R (J.getD i 0) := by
      unfold vr
      simp [hi]
    rw [e]
    exact hv _ (getD_mem hi)
/-- What stands while the groups are added: Y is the world ahead of the range. -/
structure FrG (base z1 : Nat) (X Y Z : World) (bv bs : Nat) (E : List Ent) (U T : Nat → Value) : Prop where
  bel : Below base X Z
  hi : ∀ b, X.heap.size ≤ b → b < Y.heap.size → Z.heap[b]? = Y.heap[b]?
  lo : ∀ b, b < z1 → b ≠ bv → b ≠ bs → Z.heap[b]? = X.heap[b]?
  own : ∀ j, j < E.length → ∀ b, (T j).ownBlock = some b → b < X.heap.size ∨ Y.heap.size + 1 ≤ b
  row : ∀ j, j < E.length → ∀ b, sblk (U j) = some b → b ≠ Y.heap.size
  sz : Y.heap.size + 1 ≤ Z.heap.size
theorem grpA_step {ks : List Int} {fn : Int} {col : Nat} {q bg n : Nat} {Y : World} {S : Nat → Value} {R Ks : List VRow} {V : Nat → Value} {Vs : List Vis} {s : Sp} {A A' : List Fct} {dn : List Nat} {todo : ByteArray → Bool} (hA : GrpA ks fn col Vs A) (hG : GrpAt q Y bg n R.length ks S R Ks V) (hd : GDn Ks ks fn col R s A dn A' todo) (hall : ∀ i, i < Ks.length → todo (encR (kK Ks i)) = false) :
    GrpA ks fn col (Vs ++ [(s, R)]) A' ∧ ¬ ErrIn ks fn col R := by
  have hkey : ∀ r ∈ R, ∃ i ∈ dn, kK Ks i = pickR r ks := fun r hr => by
    obtain ⟨m, hm, rfl⟩ := List.getElem_of_mem hr
    rw [vr_at hm]
    obtain ⟨i, hi, e⟩ := List.getElem_of_mem (hG.keys m hm)
    rw [kK_at hi] at e
    exact ⟨i, (hd.iff i hi).2 (hall i hi), e⟩
  refine ⟨fun a => ?_, ?_⟩
  · rw [hd.add, hA]
    constructor
    · rintro (⟨v, hv, e⟩ | ⟨i, hi, rfl⟩)
      · exact ⟨v, List.mem_append_left _ hv, e⟩
      · obtain ⟨m, hm, e⟩ := hG.from_ _ (kK_mem (hd.lt i hi))
        exact ⟨(s, R), by simp, rfl, vr R m, vr_mem hm, by rw [e]⟩
    · rintro ⟨v, hv, e1, e2⟩
      rcases List.mem_append.1 hv with q | q
      · exact .inl ⟨v, q, e1, e2⟩
      · rw [List.mem_singleton] at q
        subst q
        obtain ⟨r, hr, e3⟩ := e2
        obtain ⟨i, hi, e4⟩ := hkey r hr
        exact .inr ⟨i, hi, Prod.ext (by rw [e4]; exact e3) e1.symm⟩
  · rintro ⟨r, hr, he⟩
    obtain ⟨i, hi, e⟩ := hkey r hr
    exact he (by rw [← e]; exact hd.err i hi)
/-- append(own, value): the value's cells in any block. -/
theorem append_val_any {o : Oper} {a : Act} {K : Act → World → Prop} {Q : Exit → Act → World → Prop} (s x : Operand)
    (ho : o.op = .call { callee := .builtin .append, args := #[s, x], argTypes := #[47, 47] })
    {w : World} (base : Nat) (v : Value) (r : VRow) (hs : a.eval s = v) (hown : OwnsV w base v r) (y : Val)
    {b : Nat} (hx : a.eval x = .slice (some ⟨b, 0, none⟩) 1 1) {t : TypeId} (hb : w.heap[b]? = some (.cells #[.int .i64 y.1, .int .i64 y.2.1, .string y.2.2] t (0, 0))) (hlen : r.length < 900000000) (hbase : base ≤ w.heap.size)
    (h : ∀ v' w', OwnsV w' base v' (r ++ [y]) → Below base w w' → K (a.put o.dst v') w') : o.wp Tryz.prog a w K Q := by
  obtain ⟨i, hi, hzz, hss, hbb⟩ := info_parts tValueInfo
  have hbb2 : (r.length + 1) * 32 ≤ 140737488355328 := by omega
  obtain ⟨v', w', hr, hown', hg, _, hbn⟩ := run_append_own_at (P := Tryz.prog) w base 47 o.type 51 i _ 3 32 tValues hi hzz hss hbb rfl (by omega) v r.length (flatV r) hown ⟨b, 0, none⟩ 1 1 (valL y) rfl (by
      intro j u hu
      have e2 : (⟨b, 0, none⟩ : Addr).add j = ⟨b, j, none⟩ := by rw [Addr.add_lit, Nat.zero_add]
      rw [e2]
      have := blk_get hb j
      rw [← Array.getElem?_toList] at this
      exact this.trans hu) (by simp [valL, Value.oneCell']) (by unfold maxLen; omega) hbb2 hbase
  unfold Oper.wp execOp
  simp only [ho, resolve, invoke, builtin, Sem.run_bind, Sem.run_pure, Result.andThen_ok, List.map_toArray, List.map_cons, List.map_nil, hs, hx, hr]
  refine h v' w' ?_ ?_
  · unfold OwnsV flatV
    rw [List.flatMap_append, List.length_append]
    simpa [flatV] using hown'
  · refine (Below.refl base w).grown hg hbase ?_
    intro k hk
    exact (World.ownsRow.lt hown k hk).1
theorem OwnsV.blk {w : World} {base : Nat} {v : Value} {r : VRow} (h : OwnsV w base v r) (b : Nat) (hb : sblk v = some b) : base ≤ b := by
  rcases h.2 with ⟨rfl, _⟩ | ⟨g, cap, cur, rfl, hg, _⟩
  · cases hb
  · have : g = b := Option.some.inj hb
    omega
theorem ent_flat {E : List Ent} {e : Ent} (he : e ∈ E) : e.2.length ≤ (flatE E).length := by
  obtain ⟨a, b, rfl⟩ := List.append_of_mem he
  unfold flatE
  simp only [List.flatMap_append, List.flatMap_cons, List.length_append, List.length_map]
  omega
theorem js_len {F : List Fct} {js : List Nat} (h : (rowsJ F js).Nodup) (hj : ∀ j ∈ js, j < F.length) : js.length ≤ F.length := by
  have hn : js.Nodup := by
    unfold rowsJ at h
    rw [List.nodup_iff_pairwise_ne, List.pairwise_map] at h
    rw [List.nodup_iff_pairwise_ne]
    exact h.imp fun hab e => hab (by rw [e])
  have h1 := sum_part (fun _ => [([], (0, 0))]) F.length js hn hj
  have key : ∀ l : List Nat, (l.flatMap fun _ => ([([], (0, 0))] : List Fct)).length = l.length := fun l => by
    induction l with
    | nil => rfl
    | cons a l ih => rw [List.flatMap_cons, List.length_append, ih, List.length_cons]; simp; omega
  rw [key, key, List.length_range] at h1
  exact h1
theorem tm_ok {F : List Fct} (h : ∀ f ∈ F, OkSp f.2) {t : Int} (ht : Tm F t) : -4398046511104 ≤ t ∧ t ≤ 4398046511104 := by
  obtain ⟨f, hf, e⟩ := ht
  have := h f hf
  unfold OkSp at this
  rcases e with rfl | rfl <;> omega
theorem vis_last {F : List Fct} {Vs : List Vis} {s : Sp} {R : List VRow} {P : Int → Prop} (h : VisOk F (Vs ++ [(s, R)]) P) (hl : ∀ f ∈ F, OkSp f.2) : OkSp s ∧ ∀ v ∈ Vs, v.1.2 ≤ s.1 := by
  obtain ⟨h1, h2, h3⟩ := h.span (s, R) (by simp)
  refine ⟨⟨(tm_ok hl h2).1, h1, (tm_ok hl h3).2⟩, fun v hv => ?_⟩
  have := (List.pairwise_append.1 h.ord).2.2 v hv (s, R) (by simp)
  exact this
def GrpRet (F : List Fct) (ks : List Int) (fn colI : Int) (base zs z1 : Nat) (w0 : World) (vk : Value) (bk bf bc bt p bv bs : Nat) (X : World) (Vs : List Vis) (e : Ending) (w' : World) : Prop :=
  ∃ c : Int, e = .returned (.int .i64 c) ∧ Kv base zs z1 X w' ∧ if c = 0 then GrpJ F ks fn colI base zs z1 w0 vk bk bf bc bt p bv bs Vs w' else GrpFin ks fn colI Vs c w'
theorem tMapSG : Tryz.prog.underlying 68 = some (.map 9 52) := Tryz.underlying68
theorem zero_rows (w : World) : (zeroValue 52).run Tryz.prog w = .ok (.slice none 0 0) w := by kernel_rfl
set_option maxRecDepth 100000 in
set_option maxHeartbeats 8000000 in
theorem agroup1_c {F : List Fct} {S : Nat → Value} {n0 : Nat} {ks : List Int} {fn colI : Int} {base zs z1 : Nat} {w0 : World} {v0 vk : Value} {bk bf bc bt p bv bs : Nat} (hE : GrpE F S n0 ks fn colI base w0 v0 vk) (hbz : base ≤ zs) (hz1 : zs ≤ z1) (hx : ∀ b, b = bk ∨ b = bf ∨ b = bc ∨ b = bt → b < zs)
    (X : World) (v : Value) (js : List Nat) (Vs : List Vis) (s : Sp) (hJ : GrpJ F ks fn colI base zs z1 w0 vk bk bf bc bt p bv bs Vs X) (hzX : z1 ≤ X.heap.size) (hV : ∃ P, VisOk F (Vs ++ [(s, rowsJ F js)]) P) (hrows : RowsIn X v js.length 1 (fun i _ => S (js.getD i 0))) (hjs : ∀ j ∈ js, j < F.length) (hjl : js.length ≤ 2000) (hVl : Vs.length ≤ 2000) :
    Calls Tryz.prog 35 #[.agg #[.int .i64 s.1, .int .i64 s.2], v, .pointer (some ⟨bk, 0, none⟩), .pointer (some ⟨bf, 0, none⟩), .pointer (some ⟨bc, 0, none⟩), .pointer (some ⟨bt, 0, none⟩)] X (GrpRet F ks fn colI base zs z1 w0 vk bk bf bc bt p bv bs X (Vs ++ [(s, rowsJ F js)])) := by
  have hmm := @run_makeMap Tryz.prog
  obtain ⟨A, c, rfl, hnc, hc⟩ := RowsIn.form hrows
  have hjF : js.length ≤ F.length := by
    obtain ⟨P, hP⟩ := hV
    exact js_len (hP.rows (s, rowsJ F js) (by simp)).1 hjs
  have hFV : F.length * Vs.length ≤ 1000 * 2000 := Nat.mul_le_mul hE.len hVl
  have HjF := Lib.hid hjF; have HFV := Lib.hid hFV
  clear hjF hFV
  have HE := Lib.hid hE; have HJ := Lib.hid hJ; have HV := Lib.hid hV; have Hjs := Lib.hid hjs; have Hx := Lib.hid hx
  have hks := hE.kint
  obtain ⟨Ak, ck, rfl, hnk, hck⟩ := hks.form
  have x0 := hJ.2.1.k.cell
  clear hE hJ hV hjs hx hks
  obtain ⟨R, hR⟩ : ∃ R, R = rowsJ F js := ⟨_, rfl⟩
  have HR := Lib.hid hR
  rw [← hR]
  clear hR
  obtain ⟨W0, hW0⟩ : ∃ W, W = (X.alloc (.cells #[.int .i64 s.1, .int .i64 s.2] 34)).alloc (.map #[] 0) := ⟨_, rfl⟩
  have hz1' : (X.alloc (.cells #[.int .i64 s.1, .int .i64 s.2] 34)).heap.size = X.heap.size + 1 := by simp
  have b1 := (Below.refl X.heap.size X).alloc (Nat.le_refl _) (.cells #[.int .i64 s.1, .int .i64 s.2] 34)
  have b2 := (Below.refl _ (X.alloc (.cells #[.int .i64 s.1, .int .i64 s.2] 34))).alloc (Nat.le_refl _) (.map #[] 0)
  have T0 : W0.heap[X.heap.size]? = some (.cells #[.int .i64 s.1, .int .i64 s.2] 34 (0, 0)) := by
    rw [hW0]
    exact (b2.block _ (by omega)).trans (heap_alloc_new X _)
  have T1 : MapIs W0 (X.heap.size + 1) 0 (fun _ => none) := by
    rw [hW0]
    have := MapIs.made (X.alloc (.cells #[.int .i64 s.1, .int .i64 s.2] 34))
    rw [hz1'] at this
    exact this
  have hb0 : Below X.heap.size X W0 := by rw [hW0]; exact b1.trans (b2.mono (by omega))
  have HW0 := Lib.hid hW0
  clear hW0 b1 b2 hz1'
  have hRl : R.length = js.length := by rw [HR.out]; simp [rowsJ]
  have hbX : Below base w0 X := HJ.out.1
  have hbase : base ≤ X.heap.size := by omega
  have hw0 : base = w0.heap.size := HE.out.base
  have HRl := Lib.hid hRl; have Hw0 := Lib.hid hw0
  clear hRl hw0
  go_enter Tryz.func35, Tryz.ntmps35
  go_wp2_with fail
  rw [← HW0.out]
  try go_frame
  go_loopw [20] (fun i Y => ∃ (m n : Nat) (Ks : List VRow) (V : Nat → Value), i = .int .i64 (m : Int) ∧ m ≤ js.length ∧ GrpAt (X.heap.size + 2) Y (X.heap.size + 1) n m ks (fun i => S (js.getD i 0)) R Ks V ∧ n ≤ m ∧ Y.heap[X.heap.size]? = some (.cells #[.int .i64 s.1, .int .i64 s.2] 34 (0, 0)) ∧ Below X.heap.size X Y) (fun i _ => js.length - (intOf i).toNat)
  case atStart => exact ⟨0, 0, [], fun _ => undef, rfl, Nat.zero_le _, GrpAt.start T1 (Nat.lt_succ_self _), Nat.le_refl _, T0, hb0⟩
  case round =>
    obtain ⟨m, n, Ks, V, rfl, hm, hG, hnm, hbx, hbY⟩ := hrel
    rename World => Y
    by_cases hlt : m < js.length
    · obtain ⟨b, off, rfl, hbl⟩ := RowsIn.addr hrows (by omega)
      have c0 := RowsIn.cells (hrows.below hbY) m 0 hlt (by omega)
      simp only [Nat.mul_one, Nat.add_zero] at c0
      have hjm := Hjs.out _ (getD_mem hlt)
      have hBY : Below w0.heap.size w0 Y := by
        have := hbX.trans (hbY.mono hbase)
        rw [Hw0.out] at this
        exact this
      have hr := (HE.out.fs.2 _ hjm).below hBY
      obtain ⟨hrok, hrl⟩ := HE.out.row _ (fc_mem hjm)
      have hvr : vr R m = (fc F (js.getD m 0)).1 := by rw [HR.out]; exact vr_rowsJ hlt
      have HVR := Lib.hid hvr
      obtain ⟨row, hrow⟩ : ∃ r, r = (fc F (js.getD m 0)).1 := ⟨_, rfl⟩
      rw [← hrow] at hr hrok hrl hvr
      obtain ⟨Ar, cr, hSr, hnr, hcr⟩ := hr.form
      rw [hSr] at c0 hr
      have HS := Lib.hid hSr; have HRW := Lib.hid hrow; have HVr := Lib.hid hvr
      have hkin : keysIn row.length ks := by rw [hrl]; exact HE.out.kin
      have KP := Lib.hid (apick_c _ _ row ks Y hr (HE.out.kint.below hBY) hkin (by have := HE.out.kl; omega))
      have hkok := pick_ok hrok hkin
      have hkl : (pickR row ks).length ≤ 100 := by rw [pick_len]; have := HE.out.kl; omega
      have x1 : Y.cell? ⟨bk, 0, none⟩ = some (.slice Ak ks.length ck) := (hbY.cell (p := ⟨bk, 0, none⟩) (by have := Hx.out bk (.inl rfl); show bk < _; omega)).trans x0
      have hheld := hG.held hkok
      obtain ⟨l0, hl0⟩ : ∃ l, (lookK Ks V (encR (pickR row ks))).getD (.slice none 0 0) = l := ⟨_, rfl⟩
      rw [hl0] at hheld
      have hlb : ∀ g, l0.ownBlock = some g → X.heap.size + 2 ≤ g ∧ g < Y.heap.size := fun g hg => World.ownsRow.lt hheld g hg
      have Hlb := Lib.hid hlb
      have hJl : (idxG ks R m (pickR row ks)).length ≤ 2000 := by
        have : (idxG ks R m (pickR row ks)).length ≤ (List.range m).length := List.length_filter_le _ _
        rw [List.length_range] at this
        omega
      have HG := Lib.hid hG; have HHd := Lib.hid hheld; have HBX := Lib.hid hbx; have HKok := Lib.hid hkok
      have hks : (encR (pickR row ks)).size ≤ maxLen := by
        unfold encR
        rw [strOfNums_size]
        have := numsR_len hkok
        unfold maxLen
        omega
      have hgsz : X.heap.size + 1 < Y.heap.size := hG.map.lt
      generalize hkk : pickR row ks = kr at *
      have HKK := Lib.hid hkk
      have HRL := Lib.hid hrl
      clear hkk hrow hSr hr hrok hvr hheld hbx hlb hrl
      go_wp2_with fail
      refine KP.out.mono ?_
      rintro e Y1 ⟨kv, rfl, hown1, hb1⟩
      have KC := Lib.hid (acode_c kv kr Y1 hown1.vals HKok.out (by omega))
      clear hown1
      go_wp2_with fail
      refine KC.out.mono ?_
      rintro e Y2 ⟨rfl, hb2⟩
      have hb12 := hb1.trans (hb2.mono hb1.size)
      have Hb12 := Lib.hid hb12
      have hm2 := HG.out.map.below hb12
      have hown2 := own_below HHd.out hb12 (Nat.le_refl _)
      clear hb1 hb2 hb12 hG
      have hsz2 : X.heap.size + 2 ≤ Y2.heap.size := by have := Hb12.out.size; omega
      go_wp2_with (first
        | (at_lookup; refine wp_look rfl _ _ (by rfl) tMapSG (zero_rows _) (by rfl) hm2 (encR kr) (by rfl) hks ?_; rw [hl0])
        | (at_builtin; refine append1 tRowVs tValuesInfo rfl (by omega) (by omega) rfl _ _ (by rfl) (X.heap.size + 2) l0 (idxG ks R m kr).length ((idxG ks R m kr).map fun i => S (js.getD i 0)) [.slice Ar row.length cr] (by rfl) hown2 (by rfl) (by rfl) (by rfl) rfl (by simp [Value.oneCell']) (by omega) hsz2 ?_; intro v8 w8 hown8 hb8 hbk8 hob8; have hm8 := hm2.block (hbk8 (X.heap.size + 1) (by omega) (fun e => by have := (Hlb.out _ e).1; omega)))
        | (at_mapUpdate; refine wp_mapset rfl _ _ _ (by rfl) tMapSG (by rfl) hm8 (by omega) (encR kr) (by rfl) hks v8 (by rfl) ?_; intro w9 hm9 hon9))
      have hstep := HG.out.step (W := w9) (v7 := v8) ⟨HKok.out, hkl⟩ (by rw [HVR.out, ← HRW.out]; exact HKK.out) hm9 (by
          have e := own_on hown8 hon9 (fun g hg => by have := (World.ownsRow.lt hown8 g hg).1; omega)
          rw [← HS.out] at e
          exact e) (fun g hg1 hg2 hg3 => by
          rw [hl0] at hg3
          have h2 := Hb12.out.size
          exact (hon9.oth g (by have := hb8.size; omega) hg2).trans ((hbk8 g (by omega) hg3).trans (Hb12.out.block g hg1))) (fun g hg => by
          rw [hl0]
          have h2 := Hb12.out.size
          rcases hob8 with e | e
          · exact .inl (e.symm.trans hg)
          · have := Option.some.inj (e.symm.trans hg)
            exact .inr (by omega))
      obtain ⟨Ks', V', hG'⟩ := hstep
      have hbx9 : w9.heap[X.heap.size]? = some (.cells #[.int .i64 s.1, .int .i64 s.2] 34 (0, 0)) := by
        have h2 := Hb12.out.size
        exact (hon9.oth X.heap.size (by have := hb8.size; omega) (by omega)).trans ((hbk8 X.heap.size (by omega) (fun e => by have := (Hlb.out _ e).1; omega)).trans ((Hb12.out.block X.heap.size (by omega)).trans HBX.out))
      have hbY9 : Below X.heap.size X w9 := ((hbY.trans (Hb12.out.mono (by omega))).trans (hb8.mono (by omega))).trans (hon9.bel.mono (by omega))
      have HG' := Lib.hid hG'; have HB9 := Lib.hid hbx9; have HY9 := Lib.hid hbY9
      clear hG' hbx9 hbY9 hm9 hon9 hown8 hb8 hbk8 hob8 hm8 hm2 hown2
      go_wp2_with fail
      go_roundw
      case rel => exact ⟨m + 1, n + 1, Ks', V', by go_num, hlt, HG'.out, by omega, HB9.out, HY9.out⟩
      case measure => simp [intOf]; omega
    · obtain rfl : m = js.length := by omega
      have HGm := Lib.hid hG
      have hmap := hG.map
      have HBX := Lib.hid hbx
      have hysz : X.heap.size + 2 ≤ Y.heap.size := by have := hG.map.lt; omega
      have HYm := Lib.hid hbY
      obtain ⟨hJ1, hJ2, nt, E0, U0, T0', A0, htab0, htok0, hgA0, hnt0, hfl0, hne0⟩ := HJ.out
      have htabY := htab0.below (hbY.mono (Nat.le_refl _))
      have HTab := Lib.hid htabY
      have HOwn0 : Hid (∀ j, j < E0.length → ∀ b, (T0' j).ownBlock = some b → b < X.heap.size) := Lib.hid fun j hj b hb => (htab0.sp_blk hj hb).2
      have HRow0 : Hid (∀ j, j < E0.length → ∀ b, sblk (U0 j) = some b → b < X.heap.size) := Lib.hid fun j hj b hb => htab0.row_blk hj hb
      have HTok := Lib.hid htok0; have HA0 := Lib.hid hgA0; have HNE := Lib.hid hne0; have HBx := Lib.hid hJ2
      have HFl := Lib.hid hfl0; have HNt := Lib.hid hnt0
      have hbvX : base ≤ bv ∧ base ≤ bs := ⟨htab0.lo.2.1, htab0.lo.2.2⟩
      have hbvz : bv < zs ∧ bs < zs := ⟨htab0.hi.2.1, htab0.hi.2.2⟩
      have HNm : Hid (∀ b, b = bk ∨ b = bf ∨ b = bc ∨ b = bt → b ≠ bv ∧ b ≠ bs) := Lib.hid fun b hb => by
        rcases hb with rfl | rfl | rfl | rfl
        · exact ⟨hJ2.k.notmap htab0.vals, hJ2.k.notmap htab0.spans⟩
        · exact ⟨hJ2.f.notmap htab0.vals, hJ2.f.notmap htab0.spans⟩
        · exact ⟨hJ2.c.notmap htab0.vals, hJ2.c.notmap htab0.spans⟩
        · exact ⟨hJ2.t.notmap htab0.vals, hJ2.t.notmap htab0.spans⟩
      clear hJ1 hJ2 htab0 htok0 hgA0 hnt0 hfl0 hne0 hG hbx htabY T0 T1 hb0
      go_wp2_with (at_range; refine wp_maprange rfl _ (by rfl) tMapSG (by rfl) hmap ?_; intro w5 cnt0 hrg0 hcn0 hb5 hs5)
      try go_frame
      go_loopw [] (fun Z => ∃ (dn : List Nat) (todo : ByteArray → Bool) (cnt n' : Nat) (E : List Ent) (U T : Nat → Value) (A : List Fct), RangeIs Z (X.heap.size + 1) Y.heap.size n (lookK Ks V) todo cnt ∧ Hid (TabAt base zs z1 Z p bv bs n' E U T) ∧ Hid (TabOk E A) ∧ Hid (GDn Ks ks fn colI.toNat R s A0 dn A todo) ∧ n' + cnt ≤ nt + n ∧ (flatE E).length ≤ n' ∧ Hid (FrG base z1 X Y Z bv bs E U T)) (fun Z => Z.rangeLeft (X.heap.size + 1) Y.heap.size)
      case atStart => exact ⟨[], _, _, nt, E0, U0, T0', A0, hrg0, Lib.hid (HTab.out.below hb5), HTok, Lib.hid (GDn.start HGm.out.kok), by omega, HFl.out, Lib.hid ⟨(HYm.out.mono hbase).trans (hb5.mono (by omega)), fun b h1 h2 => hb5.block b h2, fun b h1 h2 h3 => (hb5.block b (by omega)).trans (HYm.out.block b (by omega)), fun j hj b hb => .inl (HOwn0.out j hj b hb), fun j hj b hb => by have := HRow0.out j hj b hb; omega, by omega⟩⟩
      case round =>
        obtain ⟨dn, todo, cnt, n', E, U, T, A, hrg, HT, HOk, HD, hcn, hfl, HF⟩ := hrel
        rename World => Z
        have hmeasZ := hrg.left_eq
        go_wp2_with (at_next; refine wp_mapnext rfl _ (by rfl) Y.heap.size todo cnt (by rfl) hrg ?_ ?_)
        · intro hdone
          have hall : ∀ i, i < Ks.length → todo (encR (kK Ks i)) = false := fun i hi => hdone _ (by
            have hk := (HGm.out.kok.ok _ (kK_mem hi))
            unfold encR
            rw [strOfNums_size]
            have := numsR_len hk.1
            unfold maxLen
            omega)
          have HGm2 := HGm.out
          rw [← HRl.out] at HGm2
          have hfin := grpA_step HA0.out HGm2 HD.out hall
          have HFin := Lib.hid hfin; have HGm3 := Lib.hid HGm2
          clear hrg hdone hall hfin HGm2
          go_wp2_with fail
          go_ret
          refine ⟨0, rfl, ⟨HF.out.bel, fun b h1 h2 => HF.out.lo b h2 (by omega) (by omega)⟩, ?_⟩
          · rw [if_pos rfl]
            refine ⟨hbX.trans HF.out.bel, HBx.out.keep fun b hb => HF.out.lo b (by have := Hx.out b hb; omega) (HNm.out b hb).1 (HNm.out b hb).2, n', E, U, T, A, HT.out, HOk.out, HFin.out.1, ?_, hfl, fun v hv => ?_⟩
            · have := HNt.out; have := HjF.out
              rw [List.length_append, List.length_singleton, Nat.mul_succ]
              omega
            · rcases List.mem_append.1 hv with e | e
              · exact HNE.out v e
              · rw [List.mem_singleton] at e
                rw [e]
                exact HFin.out.2
        · intro x vv w6 cnt6 hxs htx hfx hrg6 hlt6 hon6 hsz6 hen
          obtain ⟨i, hi, rfl, hvv⟩ : ∃ i, i < Ks.length ∧ x = encR (kK Ks i) ∧ vv = V i := by
            unfold lookK at hfx
            cases q : idxK Ks x with
            | none => rw [q] at hfx; cases hfx
            | some i => rw [q] at hfx; exact ⟨i, (idxK_some q).1, (idxK_some q).2.symm, (Option.some.inj hfx).symm⟩
          subst hvv
          have hZs : Y.heap.size + 1 ≤ Z.heap.size := HF.out.sz
          have HLo6 : Hid (∀ b, b < z1 → b ≠ bv → b ≠ bs → w6.heap[b]? = X.heap[b]?) := Lib.hid fun b h1 h2 h3 => (hon6.oth b (by omega) (by omega)).trans (HF.out.lo b h1 h2 h3)
          have HHi6 : Hid (∀ b, X.heap.size ≤ b → b < Y.heap.size → w6.heap[b]? = Y.heap[b]?) := Lib.hid fun b h1 h2 => (hon6.oth b (by omega) (by omega)).trans (HF.out.hi b h1 h2)
          have htab6 := HT.out.same hon6.bel.size (hon6.oth p (blk_lt HT.out.blk) (by have := HT.out.hi; omega)) (hon6.oth bv HT.out.vals.lt (by omega)) (hon6.oth bs HT.out.spans.lt (by omega)) (fun j hj b hb => hon6.oth b (HT.out.sp_blk hj hb).2 (by rcases HF.out.own j hj b hb with e | e <;> omega)) (fun j hj b hb => hon6.oth b (HT.out.row_blk hj hb) (HF.out.row j hj b hb))
          have HT6 := Lib.hid htab6
          have hB6X : Below base X w6 := HF.out.bel.trans (hon6.bel.mono (by omega))
          have hB6 : Below w0.heap.size w0 w6 := by
            have := hbX.trans hB6X
            rw [Hw0.out] at this
            exact this
          have HB6X := Lib.hid hB6X
          have howni := HGm.out.own i hi
          have hblk : ∀ g, (V i).ownBlock = some g → X.heap.size + 2 ≤ g ∧ g < Y.heap.size := fun g hg => World.ownsRow.lt howni g hg
          have hown6 := own_blocks (w' := w6) howni fun g hg => HHi6.out g (by have := (hblk g hg).1; omega) (hblk g hg).2
          have hpos := HGm.out.pos hi
          obtain ⟨J, hJ⟩ : ∃ J, J = idxG ks R js.length (kK Ks i) := ⟨_, rfl⟩
          have hmemG : J.map (vr R) = memG ks R (kK Ks i) := by rw [hJ, ← HRl.out]; exact idxG_all ks R _
          rw [← hJ] at hown6 hpos howni
          have hJm : ∀ j ∈ J, j < js.length ∧ pickR (vr R j) ks = kK Ks i := fun j hj => by rw [hJ] at hj; exact idxG_mem.1 hj
          have hJr : ∀ j ∈ J, js.getD j 0 < F.length ∧ vr R j = (fc F (js.getD j 0)).1 := fun j hj => ⟨Hjs.out _ (getD_mem (hJm j hj).1), by rw [HR.out]; exact vr_rowsJ (hJm j hj).1⟩
          have hvals : ∀ j ∈ J, IsVals w6 (S (js.getD j 0)) (vr R j) := fun j hj => by
            rw [(hJr j hj).2]
            exact (HE.out.fs.2 _ (hJr j hj).1).below hB6
          have hrv := grp_rv (S := fun i => S (js.getD i 0)) hown6 hvals
          have hGr : ∀ r ∈ J.map (vr R), okR r ∧ r.length = n0 := fun r hr => by
            obtain ⟨j, hj, rfl⟩ := List.mem_map.1 hr
            rw [(hJr j hj).2]
            exact HE.out.row _ (fc_mem (hJr j hj).1)
          have hJl : J.length ≤ 2000 := by
            have : (idxG ks R js.length (kK Ks i)).length ≤ (List.range js.length).length := List.length_filter_le _ _
            rw [List.length_range, ← hJ] at this
            omega
          have hcol2 : fn ≠ 1 → ∀ r ∈ J.map (vr R), colI.toNat < r.length := fun h r hr => by rw [(hGr r hr).2]; exact (HE.out.col h).2
          have hKR := aresult_c (V i) (J.map (vr R)) fn colI w6 hrv (by rw [List.length_map]; exact hpos) (by rw [List.length_map]; omega) HE.out.fnk (fun h => ⟨(HE.out.col h).1, hcol2 h⟩) fun r hr => (hGr r hr).1
          have hcode := resR_code fn colI.toNat (J.map (vr R))
          have hrok := res_ok (fn := fn) (col := colI.toNat) (G := J.map (vr R)) (by intro e; rw [List.map_eq_nil_iff] at e; rw [e] at hpos; exact Nat.lt_irrefl _ hpos) (by rw [List.length_map]; omega) HE.out.fnk hcol2 fun r hr => (hGr r hr).1
          obtain ⟨gv, capg, hVi, hg1, hg2, hg3, hg4⟩ := own_formG hown6 hpos
          have hgY := hblk gv (by rw [hVi]; rfl)
          have hj0 : J.getD 0 0 ∈ J := getD_mem hpos
          have hrow0 := hvals _ hj0
          have hk0 := (hJm _ hj0).2
          have hr0 := hGr (vr R (J.getD 0 0)) (List.mem_map.2 ⟨_, hj0, rfl⟩)
          have c0 : w6.cell? ⟨gv, 0, none⟩ = some (S (js.getD (J.getD 0 0) 0)) := by
            have := RowsIn.cells (hVi ▸ rj_own hown6) 0 0 hpos (by omega)
            simpa using this
          obtain ⟨Ar, cr, hSr, hnr, hcr⟩ := hrow0.form
          rw [hSr] at c0 hrow0
          obtain ⟨r0, hr0e⟩ : ∃ r, r = vr R (J.getD 0 0) := ⟨_, rfl⟩
          obtain ⟨k0, hk0e⟩ : ∃ k, k = kK Ks i := ⟨_, rfl⟩
          have HR0in : Hid (r0 ∈ R) := Lib.hid (by rw [hr0e]; exact vr_mem (by have := (hJm _ hj0).1; rw [HRl.out]; exact this))
          rw [← hr0e] at c0 hrow0 hnr hk0 hr0
          have HRes : Hid (resR fn colI.toNat (J.map (vr R)) = resR fn colI.toNat (memG ks R k0)) := Lib.hid (by rw [hmemG, hk0e])
          rw [← hk0e] at hk0 hen hrg6
          obtain ⟨⟨⟨r1, r2, r3⟩, rc⟩, hres⟩ : ∃ r, r = resR fn colI.toNat (J.map (vr R)) := ⟨_, rfl⟩
          rw [← hres] at hKR hcode hrok HRes
          unfold encV at hKR
          simp only at hKR
          have HKR := Lib.hid hKR; have HRok := Lib.hid hrok; have HK0 := Lib.hid hk0; have HK0e := Lib.hid hk0e; have HR0 := Lib.hid hr0; have Hrow0 := Lib.hid hrow0; have HCo := Lib.hid hcode
          have f0 := (HBx.out.f.block (HLo6.out bf (by have := Hx.out bf (.inr (.inl rfl)); omega) (HNm.out bf (.inr (.inl rfl))).1 (HNm.out bf (.inr (.inl rfl))).2)).cell
          have f1 := (HBx.out.c.block (HLo6.out bc (by have := Hx.out bc (.inr (.inr (.inl rfl))); omega) (HNm.out bc (.inr (.inr (.inl rfl)))).1 (HNm.out bc (.inr (.inr (.inl rfl)))).2)).cell
          have Hi := Lib.hid hi; have Htx := Lib.hid htx; have Hpos := Lib.hid hpos
          rw [hVi] at hen HKR
          have Hhrg := Lib.hid hrg6
          clear hKR hrok hk0 hk0e hr0 hrow0 hcode hres hr0e hSr hVi hj0 hcol2 hGr hrv hvals hJr hJm hmemG hJ hown6 howni hblk hB6X htab6 hfx hi htx hrg hrg6 hrg0 hb5 hs5 hcn0
          go_wp2_with fail
          refine HKR.out.mono ?_
          rintro e W7 ⟨rfl, hb7⟩
          rcases HCo.out with rfl | ⟨_, rfl⟩
          · have hV0 := HRok.out rfl
            have HV0 := Lib.hid hV0
            clear hV0 hen
            go_wp2_with fail
            have hb8 : Below w6.heap.size w6 (W7.alloc (.cells #[.int .i64 r1, .int .i64 r2, .string r3] 51)) := hb7.alloc hb7.size _
            have hbk := heap_alloc_new W7 (.cells #[.int .i64 r1, .int .i64 r2, .string r3] 51)
            have hq8 : W7.heap.size < (W7.alloc (.cells #[.int .i64 r1, .int .i64 r2, .string r3] 51)).heap.size := by simp
            have hq7 : w6.heap.size ≤ W7.heap.size := hb7.size
            generalize W7.alloc (.cells #[.int .i64 r1, .int .i64 r2, .string r3] 51) = W8 at *
            have hbt : BoxAt W8 bt (.pointer (some ⟨p, 0, none⟩)) := HBx.out.t.block ((hb8.block bt (by have := Hx.out bt (.inr (.inr (.inr rfl))); omega)).trans (HLo6.out bt (by have := Hx.out bt (.inr (.inr (.inr rfl))); omega) (HNm.out bt (.inr (.inr (.inr rfl)))).1 (HNm.out bt (.inr (.inr (.inr rfl)))).2))
            have hbk2 : BoxAt W8 bk (.slice Ak ks.length ck) := HBx.out.k.block ((hb8.block bk (by have := Hx.out bk (.inl rfl); omega)).trans (HLo6.out bk (by have := Hx.out bk (.inl rfl); omega) (HNm.out bk (.inl rfl)).1 (HNm.out bk (.inl rfl)).2))
            have hbs8 : W8.heap[X.heap.size]? = some (.cells #[.int .i64 s.1, .int .i64 s.2] 34 (0, 0)) := (hb8.block _ (by omega)).trans ((HHi6.out _ (Nat.le_refl _) (by omega)).trans HBX.out)
            have hc8 : W8.cell? ⟨gv, 0, none⟩ = some (.slice Ar r0.length cr) := (hb8.cell (p := ⟨gv, 0, none⟩) hg2).trans c0
            have hbtl := hbt.lt; have hbkl := hbk2.lt
            have hgvl : gv < W8.heap.size := by have := hb8.size; omega
            have hxl : X.heap.size < W8.heap.size := by have := hb8.size; omega
            have FC : Hid (∀ Q : World, Q.heap[bt]? = W8.heap[bt]? → Q.heap[gv]? = W8.heap[gv]? → Q.heap[bk]? = W8.heap[bk]? → Q.heap[W7.heap.size]? = W8.heap[W7.heap.size]? → Q.heap[X.heap.size]? = W8.heap[X.heap.size]? → Q.cell? ⟨bt, 0, none⟩ = some (.pointer (some ⟨p, 0, none⟩)) ∧ Q.cell? ⟨gv, 0, none⟩ = some (.slice Ar r0.length cr) ∧ Q.cell? ⟨bk, 0, none⟩ = some (.slice Ak ks.length ck) ∧ Q.cell? ⟨W7.heap.size, 0, none⟩ = some (.int .i64 r1) ∧ Q.cell? ⟨W7.heap.size, 1, none⟩ = some (.int .i64 r2) ∧ Q.cell? ⟨W7.heap.size, 2, none⟩ = some (.string r3) ∧ Q.cell? ⟨X.heap.size, 0, none⟩ = some (.int .i64 s.1) ∧ Q.cell? ⟨X.heap.size, 1, none⟩ = some (.int .i64 s.2)) := Lib.hid fun Q h1 h2 h3 h4 h5 => ⟨(hbt.block h1).cell, (World.cell?_of_block h2).trans hc8, (hbk2.block h3).cell, blk_get (h4.trans hbk) 0, blk_get (h4.trans hbk) 1, blk_get (h4.trans hbk) 2, blk_get (h5.trans hbs8) 0, blk_get (h5.trans hbs8) 1⟩
            have FB : Hid (∀ Q, Below W8.heap.size W8 Q → Q.cell? ⟨bt, 0, none⟩ = some (.pointer (some ⟨p, 0, none⟩)) ∧ Q.cell? ⟨gv, 0, none⟩ = some (.slice Ar r0.length cr) ∧ Q.cell? ⟨bk, 0, none⟩ = some (.slice Ak ks.length ck) ∧ Q.cell? ⟨W7.heap.size, 0, none⟩ = some (.int .i64 r1) ∧ Q.cell? ⟨W7.heap.size, 1, none⟩ = some (.int .i64 r2) ∧ Q.cell? ⟨W7.heap.size, 2, none⟩ = some (.string r3) ∧ Q.cell? ⟨X.heap.size, 0, none⟩ = some (.int .i64 s.1) ∧ Q.cell? ⟨X.heap.size, 1, none⟩ = some (.int .i64 s.2)) := Lib.hid fun Q h => FC.out Q (h.block _ hbtl) (h.block _ hgvl) (h.block _ hbkl) (h.block _ hq8) (h.block _ hxl)
            have hB8 : Below w0.heap.size w0 W8 := hB6.trans (hb8.mono hB6.size)
            have KP : Hid (∀ Q, Below W8.heap.size W8 Q → Calls Tryz.prog 37 #[.slice Ar r0.length cr, .slice Ak ks.length ck] Q (VRet k0 Q)) := Lib.hid fun Q h => by
              have hr := Hrow0.out.below (hb8.trans (h.mono hb8.size))
              have := apick_c _ _ r0 ks Q hr (HE.out.kint.below (hB8.trans (h.mono hB8.size))) (by rw [HR0.out.2]; exact HE.out.kin) (by have := HE.out.kl; omega)
              rw [HK0.out] at this
              exact this
            have hrow : okR (k0 ++ [(r1, r2, r3)]) ∧ 1 ≤ (k0 ++ [(r1, r2, r3)]).length ∧ (k0 ++ [(r1, r2, r3)]).length ≤ 100 := by
              refine ⟨fun x hx => ?_, by simp, ?_⟩
              · rcases List.mem_append.1 hx with e | e
                · rw [← HK0.out] at e
                  exact pick_ok HR0.out.1 (by rw [HR0.out.2]; exact HE.out.kin) x e
                · rw [List.mem_singleton] at e
                  rw [e]; exact HV0.out
              · rw [List.length_append, ← HK0.out, pick_len]
                have := HE.out.kl
                simp; omega
            have KA : Hid (∀ Q va, Below W8.heap.size W8 Q → IsVals Q va (k0 ++ [(r1, r2, r3)]) → (∀ b, sblk va = some b → W8.heap.size ≤ b) → Calls Tryz.prog 39 #[.pointer (some ⟨p, 0, none⟩), va, .agg #[.int .i64 s.1, .int .i64 s.2]] Q (AddRet base zs z1 Q p bv bs n' E U T va (k0 ++ [(r1, r2, r3)]) s)) := Lib.hid fun Q va h hv hb => by
              have h8 := hb8.size; have hq := h.size
              have hcn := hcn; have hnt := HNt.out; have hfv := HFV.out
              refine aadd_c (HT6.out.below (hb8.trans (h.mono hb8.size))) (by omega) hbz hz1 (by omega) va _ hv hrow s (fun b e => .inr (by have := hb b e; omega)) (fun j hj b e e2 => ?_) fun e he => by have := ent_flat he; omega
              have h1 := hb b e
              have h2 := (HT6.out.sp_blk hj e2).2
              omega
            have HB8 := Lib.hid hb8
            have kb : Below W8.heap.size W8 W8 := Below.refl _ _
            clear hbt hbk2 hbs8 hc8 hbk hb7 c0 hB6 f0 f1 hb8
            have hpos1 : 1 ≤ J.length := hpos
            have hk0l : k0.length ≤ 100 := by rw [← HK0.out, pick_len]; have := HE.out.kl; omega
            have hbtb := Hx.out bt (.inr (.inr (.inr rfl)))
            have hbkb := Hx.out bk (.inl rfl)
            have hnbt := HNm.out bt (.inr (.inr (.inr rfl)))
            have hnbk := HNm.out bk (.inl rfl)
            have HTb : Hid (∀ j, j < E.length → ∀ b, (T j).ownBlock = some b → z1 ≤ b ∧ b < w6.heap.size ∧ (b < X.heap.size ∨ Y.heap.size + 1 ≤ b)) := Lib.hid fun j hj b e => ⟨(HT6.out.sp_blk hj e).1, (HT6.out.sp_blk hj e).2, HF.out.own j hj b e⟩
            have hw68 := HB8.out.size
            go_region_held3 (fun Q => Q.cell? ⟨bt, 0, none⟩ = some (.pointer (some ⟨p, 0, none⟩)) ∧ Q.cell? ⟨gv, 0, none⟩ = some (.slice Ar r0.length cr) ∧ Q.cell? ⟨bk, 0, none⟩ = some (.slice Ak ks.length ck) ∧ Q.cell? ⟨W7.heap.size, 0, none⟩ = some (.int .i64 r1) ∧ Q.cell? ⟨W7.heap.size, 1, none⟩ = some (.int .i64 r2) ∧ Q.cell? ⟨W7.heap.size, 2, none⟩ = some (.string r3) ∧ Q.cell? ⟨X.heap.size, 0, none⟩ = some (.int .i64 s.1) ∧ Q.cell? ⟨X.heap.size, 1, none⟩ = some (.int .i64 s.2)) ((first | exact FB.out _ kb | exact FB.out _ kb.drew | exact FB.out _ (kb.drew.alloc kb.drew.size _) | exact FB.out _ (kb.alloc kb.size _) | exact HS9 | exact HS12)) (first
              | (go_at_call 37; (have kb := kb.drew; with_reducible refine (KP.out _ kb).mono ?_); rintro e Wa ⟨kv, rfl, hkv, hba⟩; have HKV := Lib.hid hkv; have HKZ := Lib.hid (show W8.heap.size ≤ W8.drew.heap.size from Nat.le_refl _); have HKB := Lib.hid hba.size; have kb := kb.trans (hba.mono kb.size); clear hkv hba)
              | (go_at_call 37; (have kb := (kb.alloc kb.size (.cells #[.int .i64 r1, .int .i64 r2, .string r3] 51)).drew; with_reducible refine (KP.out _ kb).mono ?_); rintro e Wa ⟨kv, rfl, hkv, hba⟩; have HKV := Lib.hid hkv; have HKZ := Lib.hid (show W8.heap.size ≤ (W8.alloc (.cells #[.int .i64 r1, .int .i64 r2, .string r3] 51)).drew.heap.size from kb.size); have hbuilt := (hba.block W8.heap.size (by show W8.heap.size < (W8.alloc (.cells #[.int .i64 r1, .int .i64 r2, .string r3] 51)).heap.size; simp)).trans (heap_alloc_new W8 (.cells #[.int .i64 r1, .int .i64 r2, .string r3] 51)); have HKB := Lib.hid hba.size; have kb := kb.trans (hba.mono kb.size); clear hkv hba)
              | (go_at_call 39; (with_reducible refine (KA.out _ _ kb9 hvals9 hblk9).mono ?_); rintro e Wb ⟨rfl, U2, T2, htab2, hkeep2⟩; have HS12 := FC.out Wb ((hkeep2.oth bt (by have := kb9.size; omega) hnbt.1 hnbt.2 (fun j hj e => by have := HTb.out j hj _ e; omega)).trans (kb9.block bt hbtl)) ((hkeep2.oth gv (by have := kb9.size; omega) (by omega) (by omega) (fun j hj e => by have := HTb.out j hj _ e; omega)).trans (kb9.block gv hgvl)) ((hkeep2.oth bk (by have := kb9.size; omega) hnbk.1 hnbk.2 (fun j hj e => by have := HTb.out j hj _ e; omega)).trans (kb9.block bk hbkl)) ((hkeep2.oth W7.heap.size (by have := kb9.size; omega) (by omega) (by omega) (fun j hj e => by have := HTb.out j hj _ e; omega)).trans (kb9.block _ hq8)) ((hkeep2.oth X.heap.size (by have := kb9.size; omega) (by omega) (by omega) (fun j hj e => by have := HTb.out j hj _ e; omega)).trans (kb9.block _ hxl)))
              | ((try rw [if_pos (by rfl)]); refine append_val_any (.tmp 58) (.tmp 60) (by rfl) _ kv k0 (by rfl) HKV.out (r1, r2, r3) (by rfl) hbuilt (by omega) HKB.out (fun v9 w9 hown9 hb9 => ?_); have kb9 := kb.trans (hb9.mono HKZ.out); have HS9 := FB.out _ kb9; have hvals9 := hown9.vals; have hblk9 := fun b e => Nat.le_trans HKZ.out (hown9.blk b e))
              | ((try rw [if_pos (by rfl)]); refine append_val_any (.tmp 58) (.tmp 60) (by rfl) _ kv k0 (by rfl) (HKV.out.below ((Below.refl _ _).alloc (Nat.le_refl _) _)) (r1, r2, r3) (by rfl) (heap_alloc_new _ _) (by omega) (by have := kb.size; simp; omega) (fun v9 w9 hown9 hb9 => ?_); have kb9 := (kb.alloc kb.size _).trans (hb9.mono HKZ.out); have HS9 := FB.out _ kb9; have hvals9 := hown9.vals; have hblk9 := fun b e => Nat.le_trans HKZ.out (hown9.blk b e)))
            all_goals
              have hb69 : Below w6.heap.size w6 w9 := HB8.out.trans (kb9.mono hw68)
              have hs69 := hb69.size
              have hs9b := hkeep2.size
              have hzs6 : Y.heap.size + 1 ≤ w6.heap.size := by omega
              have hmid : ∀ b, X.heap.size ≤ b → b < Y.heap.size + 1 → Wb.heap[b]? = w6.heap[b]? := fun b h1 h2 => (hkeep2.oth b (by omega) (by omega) (by omega) (fun j hj e => by have := HTb.out j hj _ e; omega)).trans (hb69.block b (by omega))
              have hlow : ∀ b, b < z1 → b ≠ bv → b ≠ bs → Wb.heap[b]? = w6.heap[b]? := fun b h1 h2 h3 => (hkeep2.oth b (by omega) h2 h3 (fun j hj e => by have := HTb.out j hj _ e; omega)).trans (hb69.block b (by omega))
              have hrgb := Hhrg.out.block (hmid (X.heap.size + 1) (by omega) (by omega)) (hmid Y.heap.size (by omega) (by omega))
              have hout : outR ks fn colI.toNat R (kK Ks i) = k0 ++ [(r1, r2, r3)] := by
                unfold outR
                rw [← HK0e.out, ← HRes.out]
              have hres0 : (resR fn colI.toNat (memG ks R (kK Ks i))).2 = 0 := by rw [← HK0e.out, ← HRes.out]
              have hgd := HD.out.step HGm.out.kok Hi.out Htx.out hres0
              rw [hout, ← HK0e.out] at hgd
              have hspan : OkSp s ∧ ∀ v ∈ Vs, v.1.2 ≤ s.1 := by
                obtain ⟨P, hP⟩ := HV.out
                exact vis_last hP HE.out.line
              have htok := HOk.out.add HT6.out.eok (r := k0 ++ [(r1, r2, r3)]) (s := s) hrow.1 hspan.1 (fun a ha hea => by
                rcases (HD.out.add a).1 ha with e | ⟨i', hi', e⟩
                · obtain ⟨v, hv, hv2, _⟩ := (HA0.out a).1 e
                  rw [← hv2]
                  exact hspan.2 v hv
                · rw [e] at hea
                  have e2 := (List.append_inj' (hea.trans hout.symm) rfl).1
                  have e3 := HGm.out.kok.inj (HD.out.lt i' hi') Hi.out (by rw [e2])
                  rw [e3] at hi'
                  have := (HD.out.iff i Hi.out).1 hi'
                  rw [Htx.out] at this
                  cases this)
              have hfr : FrG base z1 X Y Wb bv bs (addE E (k0 ++ [(r1, r2, r3)]) s) U2 T2 := ⟨(HB6X.out.trans (hb69.mono (by omega))).trans hkeep2.bel, fun b h1 h2 => (hmid b h1 (by omega)).trans (HHi6.out b h1 h2), fun b h1 h2 h3 => (hlow b h1 h2 h3).trans (HLo6.out b h1 h2 h3), fun j hj b e => by
                  rcases hkeep2.own j hj b e with ⟨l, hl, e2⟩ | e2
                  · exact HF.out.own l hl b e2
                  · omega, fun j hj b e => by
                  rcases hkeep2.row j hj b e with ⟨l, hl, e2⟩ | e2
                  · exact HF.out.row l hl b e2
                  · have := hblk9 b e2
                    omega, by omega⟩
              have hfl2 := flatE_add E (k0 ++ [(r1, r2, r3)]) s
              have HFR := Lib.hid hfr; have HTK := Lib.hid htok; have HGD := Lib.hid hgd; have HT2 := Lib.hid htab2; have HRB := Lib.hid hrgb
              clear hfr htok hgd htab2 hrgb hspan hres0 hout hmid hlow hkeep2 hvals9 hown9
              go_wp2_with fail
              go_roundw
              case rel => exact ⟨dn ++ [i], _, cnt6, n' + 1, _, U2, T2, _, HRB.out, HT2, HTK, HGD, by omega, by omega, HFR⟩
              case measure => have := HRB.out.left_eq; omega
          · clear hen
            go_wp2_with fail
            go_ret
            refine ⟨9, rfl, ⟨(HB6X.out.trans (hb7.mono (by omega))).alloc (by have := hb7.size; omega) _, fun b h1 h2 => ?_⟩, ?_⟩
            · exact ((hb7.alloc hb7.size (.cells #[.int .i64 r1, .int .i64 r2, .string r3] 51)).block b (by omega)).trans (HLo6.out b h2 (by omega) (by omega))
            · rw [if_neg (by decide)]
              exact ⟨rfl, (s, R), by simp, r0, HR0in.out, by rw [HK0.out, ← HRes.out]; show (9 : Int) ≠ 0; decide⟩
end Go.Proofs.YtohjgegnamcnlaaGreat
