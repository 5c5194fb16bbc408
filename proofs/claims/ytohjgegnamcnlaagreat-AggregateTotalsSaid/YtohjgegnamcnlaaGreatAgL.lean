/- Law 39: table.add. -/
import Derived.Deep.RegionHeld3
import Derived.Test.YtohjgegnamcnlaaGreatAgN
namespace Go.Proofs.YtohjgegnamcnlaaGreat
open Go.RowKit Go.Shelf
open Go.ChangeMaps (setBlock)

/-- append(own, x) met alone in a drawn region: x of any kind, its cells in the block just built. -/
theorem append1_wp {P : Program} {tS tE : TypeId} {z : Value} {size bytes : Nat} (hS : P.underlying tS = some (.slice tE)) (hE : (P.info? tE).map (fun i => (i.zero, i.size, i.bytes)) = some (some z, size, bytes))
    (hz : z.cells.size = size) (hsz : 0 < size) (hby : bytes ≤ 64)
    {o : Oper} {a : Act} {K : Act → World → Prop} {Q : Exit → Act → World → Prop} (s x : Operand)
    (ho : o.op = .call { callee := .builtin .append, args := #[s, x], argTypes := #[tS, tS] })
    {w : World} {cs : Array Value} {t : TypeId} (base : Nat) (v : Value) (n : Nat) (xs news : List Value) (hs : a.eval s = v) (hown : w.ownsRow base tE size v n xs)
    {b : Nat} (hx : a.eval x = .slice (some ⟨b, 0, none⟩) 1 1) (hb0 : w.heap.size = b) (hcs : cs.toList = news) (hl : news.length = size) (h1 : ∀ u ∈ news, u.oneCell' = true) (hlen : n < 900000000) (hbase : base ≤ w.heap.size)
    (h : ∀ v' w', w'.ownsRow base tE size v' (n + 1) (xs ++ news) → Below base w w' → (∀ k, k < w.heap.size → v.ownBlock ≠ some k → w'.heap[k]? = w.heap[k]?) → (v'.ownBlock = v.ownBlock ∨ v'.ownBlock = some (w.heap.size + 1)) → K (a.put o.dst v') w') :
    o.wp P a (w.alloc (.cells cs t)).drew K Q := by
  subst hb0
  obtain ⟨i, hi, hzz, hss, hbb⟩ := info_parts hE
  have hbb2 : (n + 1) * bytes ≤ 140737488355328 := Nat.le_trans (Nat.mul_le_mul_left _ hby) (by omega)
  have hbd : Below w.heap.size w (w.alloc (.cells cs t)).drew := ((Below.refl _ _).alloc (Nat.le_refl _) _).drew
  obtain ⟨v', w', hr, hown', hg, _, hb⟩ := run_append_own_at (P := P) (w.alloc (.cells cs t)).drew base tS o.type tE i z size bytes hS hi hzz hss hbb hz hsz v n xs (own_below hown hbd (Nat.le_refl _)) ⟨w.heap.size, 0, none⟩ 1 1 news (by omega) (by
      intro j u hu
      have e2 : (⟨w.heap.size, 0, none⟩ : Addr).add j = ⟨w.heap.size, j, none⟩ := by rw [Addr.add_lit, Nat.zero_add]
      rw [e2]
      have := blk_get (heap_alloc_new w (.cells cs t)) j
      rw [← Array.getElem?_toList, hcs, hu] at this
      exact this) h1 (by unfold maxLen; omega) hbb2 (by simp; omega)
  unfold Oper.wp execOp
  simp only [ho, resolve, invoke, builtin, Sem.run_bind, Sem.run_pure, Result.andThen_ok, List.map_toArray, List.map_cons, List.map_nil, hs, hx, hr]
  refine h v' w' hown' ?_ (fun k hk hne => ?_) ?_
  · refine (hbd.mono hbase).grown hg (by simp; omega) ?_
    intro k hk
    exact (hown.lt k hk).1
  · rw [hg.block k (by simp; omega) (fun e => hne e.symm)]
    exact hbd.block k hk
  · simpa using hb
theorem tMapSV : Tryz.prog.underlying 100 = some (.map 9 47) := Tryz.underlying100
theorem tMapSS : Tryz.prog.underlying 101 = some (.map 9 44) := Tryz.underlying101
theorem zero_vals (w : World) : (zeroValue 47).run Tryz.prog w = .ok (.slice none 0 0) w := by kernel_rfl
theorem zero_spans (w : World) : (zeroValue 44).run Tryz.prog w = .ok (.slice none 0 0) w := by kernel_rfl
theorem encR_size {r : VRow} (hr : okR r ∧ 1 ≤ r.length ∧ r.length ≤ 100) : (encR r).size ≤ maxLen := by
  unfold encR
  rw [strOfNums_size]
  have := numsR_len hr.1
  unfold maxLen
  omega
/-- The block b turned, in a world. -/
theorem setB_other {W : World} {b c : Nat} {o : Obj} (h : c ≠ b) : (setBlock W b o).heap[c]? = W.heap[c]? := by
  show (W.heap.setIfInBounds b o)[c]? = W.heap[c]?
  rw [Array.getElem?_setIfInBounds, if_neg (fun e => h e.symm)]
theorem setB_same {W : World} {b : Nat} {o : Obj} (h : b < W.heap.size) : (setBlock W b o).heap[b]? = some o := by
  show (W.heap.setIfInBounds b o)[b]? = some o
  rw [Array.getElem?_setIfInBounds, if_pos rfl, if_pos h]
theorem setB_size {W : World} {b : Nat} {o : Obj} : (setBlock W b o).heap.size = W.heap.size := by simp [setBlock]
/-- What the last assignment of add leaves: v7 is the list with s more. -/
structure AddRaw (z1 : Nat) (w : World) (bv bs n : Nat) (fU fT : ByteArray → Option Value) (r : VRow) (v l0 : Value) (m : Nat) (xs : List Value) (s : Sp) (v7 : Value) (W : World) : Prop where
  size : w.heap.size ≤ W.heap.size
  oth : ∀ b, b < w.heap.size → b ≠ bv → b ≠ bs → l0.ownBlock ≠ some b → W.heap[b]? = w.heap[b]?
  vals : MapIs W bv (n + 1) (updF fU (encR r) (some v))
  spans : MapIs W bs (n + 1) (updF fT (encR r) (some v7))
  own : W.ownsRow z1 34 2 v7 (m + 1) (xs ++ [.int .i64 s.1, .int .i64 s.2])
  new : ∀ b, v7.ownBlock = some b → l0.ownBlock = some b ∨ w.heap.size ≤ b
  env : Below 0 w W
set_option maxRecDepth 100000 in
set_option maxHeartbeats 4000000 in
theorem aadd_raw0 {base zs z1 p bv bs n : Nat} {w : World} {E : List Ent} {U T : Nat → Value} (h : TabAt base zs z1 w p bv bs n E U T) (hz : z1 ≤ w.heap.size) (_hbz : base ≤ zs) (hz1 : zs ≤ z1) (hn : n < 100000000) (v : Value) (r : VRow) (hv : IsVals w v r) (hr : okR r ∧ 1 ≤ r.length ∧ r.length ≤ 100) (s : Sp)
    (hnew : idxE E (encR r) = none) :
    Calls Tryz.prog 39 #[.pointer (some ⟨p, 0, none⟩), v, .agg #[.int .i64 s.1, .int .i64 s.2]] w (fun e W => e = .returned (.tuple #[]) ∧ ∃ v7, AddRaw z1 w bv bs n (lookE E U) (lookE E T) r v (.slice none 0 0) (0) [] s v7 W) := by
  have K : Hid (∀ X, Below w.heap.size w X → Calls Tryz.prog 36 #[v] X (Ret X (.string (encR r)))) := Lib.hid fun X hX => acode_c v r X (hv.below hX) hr.1 (by omega)
  obtain ⟨A, c, rfl, hnc, hc⟩ := hv.form
  have hsz := encR_size hr
  have Hh := h.hi; have Hlo := h.lo
  have hpn := h.p_ne; have hne := h.ne
  have hplt := blk_lt h.blk; have hvlt := h.vals.lt; have hslt := h.spans.lt
  have H := Lib.hid h; have Hv := Lib.hid hv; have Hr := Lib.hid hr
  have hpn1 : p ≠ bv := hpn.1
  have hpn2 : p ≠ bs := hpn.2
  have hl0 : (lookE E T (encR r)).getD (.slice none 0 0) = .slice none 0 0 := by unfold lookE; rw [hnew]; rfl
  clear hnew
  clear h hv hr
  go_enter Tryz.func39, Tryz.ntmps39
  go_wp2_with fail
  refine (K.out _ ((Below.refl _ _).alloc (Nat.le_refl _) _)).mono ?_
  rintro e w1 ⟨rfl, hb1⟩
  have hbw := ((Below.refl w.heap.size w).alloc (Nat.le_refl _) (.cells #[.int .i64 s.1, .int .i64 s.2] 34)).trans (hb1.mono (by simp))
  have hp1 := (hbw.block p (blk_lt H.out.blk)).trans H.out.blk
  have t0 := blk_get hp1 0
  have t1 := blk_get hp1 1
  simp at t0 t1
  have hms := H.out.spans.below hbw
  go_wp2_with (at_lookup; refine wp_look rfl _ _ (by rfl) tMapSS (zero_spans _) (by rfl) hms (encR r) (by rfl) hsz ?_; rw [hl0])
  have hbx : w1.heap[w.heap.size]? = some (.cells #[.int .i64 s.1, .int .i64 s.2] 34 (0, 0)) := (hb1.block w.heap.size (by simp)).trans (heap_alloc_new w _)
  go_quiet (fail)
  have hbq : Below w.heap.size w (w1.drewN nq) := hbw.trans (below_grow w1 nq #[] |> fun h => by simpa [Go.Sort.grow_empty] using h.mono hbw.size)
  have hql : w.heap.size < (w1.drewN nq).heap.size := by
    have := hb1.size
    rw [World.size_alloc] at this
    exact this
  have hbx2 : (w1.drewN nq).heap[w.heap.size]? = some (.cells #[.int .i64 s.1, .int .i64 s.2] 34 (0, 0)) := hbx
  generalize w1.drewN nq = w2 at *
  have hpl : p < w2.heap.size := Nat.lt_of_lt_of_le hplt hbq.size
  have hvl : bv < w2.heap.size := Nat.lt_of_lt_of_le hvlt hbq.size
  have hsl : bs < w2.heap.size := Nat.lt_of_lt_of_le hslt hbq.size
  have hqv : w.heap.size ≠ bv := by omega
  have hqs : w.heap.size ≠ bs := by omega
  have hp2 : w2.heap[p]? = some (.cells #[.map (some bv), .map (some bs)] 103 (0, 0)) := (hbq.block p hplt).trans H.out.blk
  have FC : Hid (∀ X : World, X.heap[p]? = w2.heap[p]? → X.heap[w.heap.size]? = w2.heap[w.heap.size]? → X.cell? ⟨p, 0, none⟩ = some (.map (some bv)) ∧ X.cell? ⟨p, 1, none⟩ = some (.map (some bs)) ∧ X.cell? ⟨w.heap.size, 0, none⟩ = some (.int .i64 s.1) ∧ X.cell? ⟨w.heap.size, 1, none⟩ = some (.int .i64 s.2)) := Lib.hid fun X h1 h2 => ⟨blk_get (h1.trans hp2) 0, blk_get (h1.trans hp2) 1, blk_get (h2.trans hbx2) 0, blk_get (h2.trans hbx2) 1⟩
  have FB : Hid (∀ X, Below w2.heap.size w2 X → X.cell? ⟨p, 0, none⟩ = some (.map (some bv)) ∧ X.cell? ⟨p, 1, none⟩ = some (.map (some bs)) ∧ X.cell? ⟨w.heap.size, 0, none⟩ = some (.int .i64 s.1) ∧ X.cell? ⟨w.heap.size, 1, none⟩ = some (.int .i64 s.2)) := Lib.hid fun X hX => FC.out X (hX.block p hpl) (hX.block _ hql)
  have kb : Below w2.heap.size w2 w2 := Below.refl _ _
  obtain ⟨v0, st0, o1, o2, he1, he2, he3⟩ := entry_store (H.out.vals.below hbq) (by omega) tMapSV zero_vals hsz (.slice A r.length c)
  have HE1 := Lib.hid he1; have HE2 := Lib.hid he2; have HE3 := Lib.hid he3
  clear he1 he2 he3
  have Hbq := Lib.hid hbq
  clear t0 t1 hms hp1 hbw hbx hbx2 hp2 hb1
  go_wp2_with fail
  go_region_held3 (fun X => X.cell? ⟨p, 0, none⟩ = some (.map (some bv)) ∧ X.cell? ⟨p, 1, none⟩ = some (.map (some bs)) ∧ X.cell? ⟨w.heap.size, 0, none⟩ = some (.int .i64 s.1) ∧ X.cell? ⟨w.heap.size, 1, none⟩ = some (.int .i64 s.2)) ((first | exact FB.out _ kb | exact FB.out _ kb.drew | exact FB.out _ (kb.drew.alloc kb.drew.size _) | exact FB.out _ (kb.alloc kb.size _).drew | exact FB.out _ (kb.alloc kb.size _) | exact HS7 | exact HS8 | exact HS9 | exact HS10 | exact HS11)) (first | (refine append1_wp tSpans tSpanInfo rfl (by omega) (by omega) (.tmp 50) (.tmp 52) (by rfl) z1 (.slice none 0 0) (0) [] [.int .i64 s.1, .int .i64 s.2] (by rfl) (own_nil _ _ _ _) (by rfl) (by rfl) rfl rfl (by simp [Value.oneCell']) (by omega) (Nat.le_trans hz Hbq.out.size) (fun v7 w7 hown7 hb7 hbk7 hob7 => ?_); have hw7 := Nat.le_trans kb.size hb7.size; have e7p := hbk7 p hpl (by simp [Value.ownBlock]); have e7q := hbk7 _ hql (by simp [Value.ownBlock]); have e7v := hbk7 bv hvl (by simp [Value.ownBlock]); have e7s := hbk7 bs hsl (by simp [Value.ownBlock]); have HS7 := FC.out w7 e7p e7q; have hm1 := HE1.out w7 e7v; have HS8 := FC.out (setBlock w7 bv o1) ((setB_other hpn1).trans e7p) ((setB_other hqv).trans e7q); have hm2 := HE2.out (setBlock w7 bv o1) (setB_same (by omega)); have HS9 := FC.out (setBlock (setBlock w7 bv o1) bv o2) ((setB_other hpn1).trans ((setB_other hpn1).trans e7p)) ((setB_other hqv).trans ((setB_other hqv).trans e7q)); have e9s := ((setB_other (W := setBlock w7 bv o1) (o := o2) hne.symm).trans ((setB_other (o := o1) hne.symm).trans e7s)); obtain ⟨v1, st1, o3, o4, he4, he5, he6⟩ := entry_store (H.out.spans.below Hbq.out) (by omega) tMapSS zero_spans hsz v7; have HE4 := Lib.hid he4; have HE5 := Lib.hid he5; have HE6 := Lib.hid he6; clear he4 he5 he6; have hm3 := HE4.out (setBlock (setBlock w7 bv o1) bv o2) e9s; have HS10 := FC.out (setBlock (setBlock (setBlock w7 bv o1) bv o2) bs o3) ((setB_other hpn2).trans ((setB_other hpn1).trans ((setB_other hpn1).trans e7p))) ((setB_other hqs).trans ((setB_other hqv).trans ((setB_other hqv).trans e7q))); have hm4 := HE5.out (setBlock (setBlock (setBlock w7 bv o1) bv o2) bs o3) (setB_same (by rw [setB_size, setB_size]; omega)); have HS11 := FC.out (setBlock (setBlock (setBlock (setBlock w7 bv o1) bv o2) bs o3) bs o4) ((setB_other hpn2).trans ((setB_other hpn2).trans ((setB_other hpn1).trans ((setB_other hpn1).trans e7p)))) ((setB_other hqs).trans ((setB_other hqs).trans ((setB_other hqv).trans ((setB_other hqv).trans e7q))))))
  go_end0
  have hnv : ∀ b, v7.ownBlock = some b → (.slice none 0 0 : Value).ownBlock = some b ∨ w.heap.size ≤ b := fun b hb => by
    rcases hob7 with e | e
    · exact .inl (e.symm.trans hb)
    · rw [e] at hb
      have := Option.some.inj hb
      exact .inr (by omega)
  have hnv2 : ∀ b, v7.ownBlock = some b → b ≠ bv ∧ b ≠ bs := fun b hb => by
    have hlt := (World.ownsRow.lt hown7 b hb).1
    omega
  refine ⟨rfl, v7, ⟨?_, fun b hb h1 h2 h3 => ?_, HE3.out _ ?_, HE6.out _ ?_, own_blocks hown7 fun g hg => ?_, hnv, ?_⟩⟩
  · rw [setB_size, setB_size, setB_size, setB_size]
    have := Hbq.out.size
    omega
  · rw [setB_other h2, setB_other h2, setB_other h1, setB_other h1, hbk7 b (Nat.lt_of_lt_of_le hb Hbq.out.size) h3]
    exact Hbq.out.block b hb
  · rw [setB_other hne, setB_other hne]
    exact setB_same (by rw [setB_size]; omega)
  · exact setB_same (by rw [setB_size, setB_size, setB_size]; omega)
  · have := hnv2 g hg
    rw [setB_other this.2, setB_other this.2, setB_other this.1, setB_other this.1]
  · refine ⟨hb7.os.trans Hbq.out.os, hb7.tape.trans Hbq.out.tape, hb7.output.trans Hbq.out.output, ?_, fun k hk => absurd hk (Nat.not_lt_zero k)⟩
    rw [setB_size, setB_size, setB_size, setB_size]
    exact Nat.le_trans Hbq.out.size hb7.size
set_option maxRecDepth 100000 in
set_option maxHeartbeats 4000000 in
theorem aadd_raw1 {base zs z1 p bv bs n : Nat} {w : World} {E : List Ent} {U T : Nat → Value} (h : TabAt base zs z1 w p bv bs n E U T) (hz : z1 ≤ w.heap.size) (_hbz : base ≤ zs) (hz1 : zs ≤ z1) (hn : n < 100000000) (v : Value) (r : VRow) (hv : IsVals w v r) (hr : okR r ∧ 1 ≤ r.length ∧ r.length ≤ 100) (s : Sp)
    {i : Nat} (hi : i < E.length) (hix : idxE E (encR r) = some i) (hlast : tt (ent E i).2 ((ent E i).2.length - 1) ≠ s.1) (hlen : (ent E i).2.length < 900000000) :
    Calls Tryz.prog 39 #[.pointer (some ⟨p, 0, none⟩), v, .agg #[.int .i64 s.1, .int .i64 s.2]] w (fun e W => e = .returned (.tuple #[]) ∧ ∃ v7, AddRaw z1 w bv bs n (lookE E U) (lookE E T) r v (T i) ((ent E i).2.length) (flat (ent E i).2) s v7 W) := by
  have K : Hid (∀ X, Below w.heap.size w X → Calls Tryz.prog 36 #[v] X (Ret X (.string (encR r)))) := Lib.hid fun X hX => acode_c v r X (hv.below hX) hr.1 (by omega)
  obtain ⟨A, c, rfl, hnc, hc⟩ := hv.form
  have hsz := encR_size hr
  have Hh := h.hi; have Hlo := h.lo
  have hpn := h.p_ne; have hne := h.ne
  have hplt := blk_lt h.blk; have hvlt := h.vals.lt; have hslt := h.spans.lt
  have H := Lib.hid h; have Hv := Lib.hid hv; have Hr := Lib.hid hr
  have hpn1 : p ≠ bv := hpn.1
  have hpn2 : p ≠ bs := hpn.2
  have hl0 : (lookE E T (encR r)).getD (.slice none 0 0) = T i := by unfold lookE; rw [hix]; rfl
  have hown0 := h.own i hi
  have hpos := h.some_ i hi
  obtain ⟨g, cap, hT, hgb, hglt, hcap, hcm⟩ := own_form hown0 hpos
  rw [hT] at hl0 hown0 ⊢
  have hgp : g ≠ p := by omega
  have hgq : g ≠ w.heap.size := by omega
  have hgv : g ≠ bv := by omega
  have hgs : g ≠ bs := by omega
  clear hT hix
  have hc1 := (spans_of_own hown0).c1 ((ent E i).2.length - 1) (by omega)
  rw [Nat.zero_add] at hc1
  have hq : (tt (ent E i).2 ((ent E i).2.length - 1) == s.1) = false := by simpa using hlast
  generalize (ent E i).2 = ss at hl0 hown0 hpos hcap hc1 hq hlen ⊢
  clear hlast
  generalize tt ss (ss.length - 1) = x at hc1 hq
  clear h hv hr
  go_enter Tryz.func39, Tryz.ntmps39
  go_wp2_with fail
  refine (K.out _ ((Below.refl _ _).alloc (Nat.le_refl _) _)).mono ?_
  rintro e w1 ⟨rfl, hb1⟩
  have hbw := ((Below.refl w.heap.size w).alloc (Nat.le_refl _) (.cells #[.int .i64 s.1, .int .i64 s.2] 34)).trans (hb1.mono (by simp))
  have hp1 := (hbw.block p (blk_lt H.out.blk)).trans H.out.blk
  have t0 := blk_get hp1 0
  have t1 := blk_get hp1 1
  simp at t0 t1
  have hms := H.out.spans.below hbw
  go_wp2_with (at_lookup; refine wp_look rfl _ _ (by rfl) tMapSS (zero_spans _) (by rfl) hms (encR r) (by rfl) hsz ?_; rw [hl0])
  have hbx : w1.heap[w.heap.size]? = some (.cells #[.int .i64 s.1, .int .i64 s.2] 34 (0, 0)) := (hb1.block w.heap.size (by simp)).trans (heap_alloc_new w _)
  have e0 := blk_get hbx 0
  simp at e0
  have e1 := (hbw.cell (p := ⟨g, (ss.length - 1) * 2 + 1, none⟩) hglt).trans hc1
  have hsum : IntKind.i64.wrap ((ss.length : Int) - 1) = (ss.length : Int) - 1 := IntWalk.i64_in _ (by omega)
  have hkl : ss.length - 1 < ss.length := by omega
  have hk1 : (0 : Int) ≤ (ss.length : Int) - 1 := by omega
  have hk2 : ((ss.length : Int) - 1).toNat = ss.length - 1 := by omega
  have hk3 : (1 : Int) ≤ (ss.length : Int) := by omega
  have hk4 : 1 ≤ ss.length := by omega
  have hk5 : (ss.length : Int) - 1 < (ss.length : Int) := by omega
  have hk6 : decide ((0 : Int) < (ss.length : Int)) = true := decide_eq_true (by omega)
  go_quiet (fail)
  clear hsum hkl hk1 hk2 hk3 hk4 hk5 hk6 e0 e1
  have hbq : Below w.heap.size w (w1.drewN nq) := hbw.trans (below_grow w1 nq #[] |> fun h => by simpa [Go.Sort.grow_empty] using h.mono hbw.size)
  have hql : w.heap.size < (w1.drewN nq).heap.size := by
    have := hb1.size
    rw [World.size_alloc] at this
    exact this
  have hbx2 : (w1.drewN nq).heap[w.heap.size]? = some (.cells #[.int .i64 s.1, .int .i64 s.2] 34 (0, 0)) := hbx
  generalize w1.drewN nq = w2 at *
  have hpl : p < w2.heap.size := Nat.lt_of_lt_of_le hplt hbq.size
  have hvl : bv < w2.heap.size := Nat.lt_of_lt_of_le hvlt hbq.size
  have hsl : bs < w2.heap.size := Nat.lt_of_lt_of_le hslt hbq.size
  have hqv : w.heap.size ≠ bv := by omega
  have hqs : w.heap.size ≠ bs := by omega
  have hp2 : w2.heap[p]? = some (.cells #[.map (some bv), .map (some bs)] 103 (0, 0)) := (hbq.block p hplt).trans H.out.blk
  have FC : Hid (∀ X : World, X.heap[p]? = w2.heap[p]? → X.heap[w.heap.size]? = w2.heap[w.heap.size]? → X.cell? ⟨p, 0, none⟩ = some (.map (some bv)) ∧ X.cell? ⟨p, 1, none⟩ = some (.map (some bs)) ∧ X.cell? ⟨w.heap.size, 0, none⟩ = some (.int .i64 s.1) ∧ X.cell? ⟨w.heap.size, 1, none⟩ = some (.int .i64 s.2)) := Lib.hid fun X h1 h2 => ⟨blk_get (h1.trans hp2) 0, blk_get (h1.trans hp2) 1, blk_get (h2.trans hbx2) 0, blk_get (h2.trans hbx2) 1⟩
  have FB : Hid (∀ X, Below w2.heap.size w2 X → X.cell? ⟨p, 0, none⟩ = some (.map (some bv)) ∧ X.cell? ⟨p, 1, none⟩ = some (.map (some bs)) ∧ X.cell? ⟨w.heap.size, 0, none⟩ = some (.int .i64 s.1) ∧ X.cell? ⟨w.heap.size, 1, none⟩ = some (.int .i64 s.2)) := Lib.hid fun X hX => FC.out X (hX.block p hpl) (hX.block _ hql)
  have kb : Below w2.heap.size w2 w2 := Below.refl _ _
  obtain ⟨v0, st0, o1, o2, he1, he2, he3⟩ := entry_store (H.out.vals.below hbq) (by omega) tMapSV zero_vals hsz (.slice A r.length c)
  have HE1 := Lib.hid he1; have HE2 := Lib.hid he2; have HE3 := Lib.hid he3
  clear he1 he2 he3
  have Hbq := Lib.hid hbq
  clear t0 t1 hms hp1 hbw hbx hbx2 hp2 hb1 hc1 hq
  go_wp2_with fail
  go_region_held3 (fun X => X.cell? ⟨p, 0, none⟩ = some (.map (some bv)) ∧ X.cell? ⟨p, 1, none⟩ = some (.map (some bs)) ∧ X.cell? ⟨w.heap.size, 0, none⟩ = some (.int .i64 s.1) ∧ X.cell? ⟨w.heap.size, 1, none⟩ = some (.int .i64 s.2)) ((first | exact FB.out _ kb | exact FB.out _ kb.drew | exact FB.out _ (kb.drew.alloc kb.drew.size _) | exact FB.out _ (kb.alloc kb.size _).drew | exact FB.out _ (kb.alloc kb.size _) | exact HS7 | exact HS8 | exact HS9 | exact HS10 | exact HS11)) (first | (refine append1_wp tSpans tSpanInfo rfl (by omega) (by omega) (.tmp 50) (.tmp 52) (by rfl) z1 (.slice (some ⟨g, 0, none⟩) ss.length cap) (ss.length) (flat ss) [.int .i64 s.1, .int .i64 s.2] (by rfl) (own_below hown0 Hbq.out (Nat.le_refl _)) (by rfl) (by rfl) rfl rfl (by simp [Value.oneCell']) hlen (Nat.le_trans hz Hbq.out.size) (fun v7 w7 hown7 hb7 hbk7 hob7 => ?_); have hw7 := Nat.le_trans kb.size hb7.size; have e7p := hbk7 p hpl (fun e => hgp (Option.some.inj e)); have e7q := hbk7 _ hql (fun e => hgq (Option.some.inj e)); have e7v := hbk7 bv hvl (fun e => hgv (Option.some.inj e)); have e7s := hbk7 bs hsl (fun e => hgs (Option.some.inj e)); have HS7 := FC.out w7 e7p e7q; have hm1 := HE1.out w7 e7v; have HS8 := FC.out (setBlock w7 bv o1) ((setB_other hpn1).trans e7p) ((setB_other hqv).trans e7q); have hm2 := HE2.out (setBlock w7 bv o1) (setB_same (by omega)); have HS9 := FC.out (setBlock (setBlock w7 bv o1) bv o2) ((setB_other hpn1).trans ((setB_other hpn1).trans e7p)) ((setB_other hqv).trans ((setB_other hqv).trans e7q)); have e9s := ((setB_other (W := setBlock w7 bv o1) (o := o2) hne.symm).trans ((setB_other (o := o1) hne.symm).trans e7s)); obtain ⟨v1, st1, o3, o4, he4, he5, he6⟩ := entry_store (H.out.spans.below Hbq.out) (by omega) tMapSS zero_spans hsz v7; have HE4 := Lib.hid he4; have HE5 := Lib.hid he5; have HE6 := Lib.hid he6; clear he4 he5 he6; have hm3 := HE4.out (setBlock (setBlock w7 bv o1) bv o2) e9s; have HS10 := FC.out (setBlock (setBlock (setBlock w7 bv o1) bv o2) bs o3) ((setB_other hpn2).trans ((setB_other hpn1).trans ((setB_other hpn1).trans e7p))) ((setB_other hqs).trans ((setB_other hqv).trans ((setB_other hqv).trans e7q))); have hm4 := HE5.out (setBlock (setBlock (setBlock w7 bv o1) bv o2) bs o3) (setB_same (by rw [setB_size, setB_size]; omega)); have HS11 := FC.out (setBlock (setBlock (setBlock (setBlock w7 bv o1) bv o2) bs o3) bs o4) ((setB_other hpn2).trans ((setB_other hpn2).trans ((setB_other hpn1).trans ((setB_other hpn1).trans e7p)))) ((setB_other hqs).trans ((setB_other hqs).trans ((setB_other hqv).trans ((setB_other hqv).trans e7q))))))
  go_end0
  have hnv : ∀ b, v7.ownBlock = some b → (.slice (some ⟨g, 0, none⟩) ss.length cap : Value).ownBlock = some b ∨ w.heap.size ≤ b := fun b hb => by
    rcases hob7 with e | e
    · exact .inl (e.symm.trans hb)
    · rw [e] at hb
      have := Option.some.inj hb
      exact .inr (by omega)
  have hnv2 : ∀ b, v7.ownBlock = some b → b ≠ bv ∧ b ≠ bs := fun b hb => by
    have hlt := (World.ownsRow.lt hown7 b hb).1
    omega
  refine ⟨rfl, v7, ⟨?_, fun b hb h1 h2 h3 => ?_, HE3.out _ ?_, HE6.out _ ?_, own_blocks hown7 fun g hg => ?_, hnv, ?_⟩⟩
  · rw [setB_size, setB_size, setB_size, setB_size]
    have := Hbq.out.size
    omega
  · rw [setB_other h2, setB_other h2, setB_other h1, setB_other h1, hbk7 b (Nat.lt_of_lt_of_le hb Hbq.out.size) h3]
    exact Hbq.out.block b hb
  · rw [setB_other hne, setB_other hne]
    exact setB_same (by rw [setB_size]; omega)
  · exact setB_same (by rw [setB_size, setB_size, setB_size]; omega)
  · have := hnv2 g hg
    rw [setB_other this.2, setB_other this.2, setB_other this.1, setB_other this.1]
  · refine ⟨hb7.os.trans Hbq.out.os, hb7.tape.trans Hbq.out.tape, hb7.output.trans Hbq.out.output, ?_, fun k hk => absurd hk (Nat.not_lt_zero k)⟩
    rw [setB_size, setB_size, setB_size, setB_size]
    exact Nat.le_trans Hbq.out.size hb7.size
end Go.Proofs.YtohjgegnamcnlaaGreat
