/- Law 39: table.add, the whole of it. -/
import Derived.Test.YtohjgegnamcnlaaGreatAgL
import Derived.Test.YtohjgegnamcnlaaGreatAgQ
namespace Go.Proofs.YtohjgegnamcnlaaGreat
open Go.RowKit Go.Shelf

/-- What adding leaves alone. -/
structure AddKeep (base : Nat) (w : World) (bv bs : Nat) (E E' : List Ent) (U T : Nat → Value) (v : Value) (U' T' : Nat → Value) (w' : World) : Prop where
  size : w.heap.size ≤ w'.heap.size
  bel : Below base w w'
  oth : ∀ b, b < w.heap.size → b ≠ bv → b ≠ bs → (∀ j, j < E.length → (T j).ownBlock ≠ some b) → w'.heap[b]? = w.heap[b]?
  own : ∀ j, j < E'.length → ∀ b, (T' j).ownBlock = some b → (∃ i, i < E.length ∧ (T i).ownBlock = some b) ∨ w.heap.size ≤ b
  row : ∀ j, j < E'.length → ∀ b, sblk (U' j) = some b → (∃ i, i < E.length ∧ sblk (U i) = some b) ∨ sblk v = some b
def AddRet (base zs z1 : Nat) (w : World) (p bv bs n : Nat) (E : List Ent) (U T : Nat → Value) (v : Value) (r : VRow) (s : Sp) (e : Ending) (w' : World) : Prop :=
  e = .returned (.tuple #[]) ∧ ∃ U' T', TabAt base zs z1 w' p bv bs (n + 1) (addE E r s) U' T' ∧ AddKeep base w bv bs E (addE E r s) U T v U' T' w'
set_option maxRecDepth 100000 in
/-- The last span of the row is made longer. -/
theorem aadd_join {base zs z1 p bv bs n : Nat} {w : World} {E : List Ent} {U T : Nat → Value} (h : TabAt base zs z1 w p bv bs n E U T) (_hz1 : zs ≤ z1) (v : Value) (r : VRow) (hv : IsVals w v r) (hr : okR r ∧ 1 ≤ r.length ∧ r.length ≤ 100) (s : Sp)
    {i : Nat} (hi : i < E.length) (hix : idxE E (encR r) = some i) (hlast : tt (ent E i).2 ((ent E i).2.length - 1) = s.1) (hlen : (ent E i).2.length < 900000000) :
    Calls Tryz.prog 39 #[.pointer (some ⟨p, 0, none⟩), v, .agg #[.int .i64 s.1, .int .i64 s.2]] w (fun e W => e = .returned (.tuple #[]) ∧ ∃ g, (T i).ownBlock = some g ∧ w.heap.size ≤ W.heap.size ∧ Below 0 w W ∧ (∀ b, b < w.heap.size → b ≠ g → W.heap[b]? = w.heap[b]?) ∧
      W.ownsRow z1 34 2 (T i) (ent E i).2.length (flat ((ent E i).2.take ((ent E i).2.length - 1) ++ [(fr (ent E i).2 ((ent E i).2.length - 1), s.2)]))) := by
  have K : Hid (∀ X, Below w.heap.size w X → Calls Tryz.prog 36 #[v] X (Ret X (.string (encR r)))) := Lib.hid fun X hX => acode_c v r X (hv.below hX) hr.1 (by omega)
  obtain ⟨A, c, rfl, hnc, hc⟩ := hv.form
  have hsz := encR_size hr
  have Hh := h.hi
  have hplt := blk_lt h.blk
  have H := Lib.hid h
  have hl0 : (lookE E T (encR r)).getD (.slice none 0 0) = T i := by unfold lookE; rw [hix]; rfl
  have hown0 := h.own i hi
  have hpos := h.some_ i hi
  obtain ⟨g, cap, hT, hgb, hglt, hcap, hcm⟩ := own_form hown0 hpos
  rw [hT] at hl0 hown0 ⊢
  clear hT hix h hv hr
  have hc1 := (spans_of_own hown0).c1 ((ent E i).2.length - 1) (by omega)
  rw [Nat.zero_add] at hc1
  have Hst := Lib.hid (flat_last (r := (ent E i).2) (q := s.2) hpos)
  have hq : (tt (ent E i).2 ((ent E i).2.length - 1) == s.1) = true := by simpa using hlast
  generalize (ent E i).2.take ((ent E i).2.length - 1) ++ [(fr (ent E i).2 ((ent E i).2.length - 1), s.2)] = ss' at Hst ⊢
  generalize (ent E i).2 = ss at hl0 hown0 hpos hcap hc1 hq hlen Hst ⊢
  clear hlast
  generalize tt ss (ss.length - 1) = x at hc1 hq
  go_enter Tryz.func39, Tryz.ntmps39
  go_wp2_with fail
  refine (K.out _ ((Below.refl _ _).alloc (Nat.le_refl _) _)).mono ?_
  rintro e w1 ⟨rfl, hb1⟩
  have hbw := ((Below.refl w.heap.size w).alloc (Nat.le_refl _) (.cells #[.int .i64 s.1, .int .i64 s.2] 34)).trans (hb1.mono (by simp))
  have hp1 := (hbw.block p (blk_lt H.out.blk)).trans H.out.blk
  have t0 := blk_get hp1 0
  have t1 := blk_get hp1 1
  simp at t0 t1
  have hms := H.out.spans.below hbw
  go_wp2_with (at_lookup; refine wp_look rfl _ _ (by rfl) tMapSS (zero_spans _) (by rfl) hms (encR r) (by rfl) hsz ?_; rw [hl0])
  have hbx : w1.heap[w.heap.size]? = some (.cells #[.int .i64 s.1, .int .i64 s.2] 34 (0, 0)) := (hb1.block w.heap.size (by simp)).trans (heap_alloc_new w _)
  have e0 := blk_get hbx 0
  have e2 := blk_get hbx 1
  simp at e0 e2
  have e1 := (hbw.cell (p := ⟨g, (ss.length - 1) * 2 + 1, none⟩) hglt).trans hc1
  have hsum : IntKind.i64.wrap ((ss.length : Int) - 1) = (ss.length : Int) - 1 := IntWalk.i64_in _ (by omega)
  have hkl : ss.length - 1 < ss.length := by omega
  have hk1 : (0 : Int) ≤ (ss.length : Int) - 1 := by omega
  have hk2 : ((ss.length : Int) - 1).toNat = ss.length - 1 := by omega
  have hk3 : (1 : Int) ≤ (ss.length : Int) := by omega
  have hk4 : 1 ≤ ss.length := by omega
  have hk5 : (ss.length : Int) - 1 < (ss.length : Int) := by omega
  have hk6 : decide ((0 : Int) < (ss.length : Int)) = true := decide_eq_true (by omega)
  go_quiet (fail)
  have hbq : Below w.heap.size w (w1.drewN nq) := hbw.trans (below_grow w1 nq #[] |> fun h => by simpa [Go.Sort.grow_empty] using h.mono hbw.size)
  have hown2 := own_below hown0 hbq (Nat.le_refl _)
  have f1 := hown2.frozenAt ((ss.length - 1) * 2 + 1)
  have e3 : (w1.drewN nq).cell? ⟨w.heap.size, 1, none⟩ = some (.int .i64 s.2) := e2
  have e4 : (w1.drewN nq).cell? ⟨g, (ss.length - 1) * 2 + 1, none⟩ = some (.int .i64 x) := e1
  generalize w1.drewN nq = w2 at *
  go_wp2_with fail
  (try simp only [Exit.inBlock, Exit.then])
  refine bodyPost_ret (results_none rfl _ _ _) rfl ?_
  have hst := hown2.stored ((ss.length - 1) * 2 + 1) (.int .i64 s.2)
  rw [Hst.out] at hst
  refine ⟨rfl, g, rfl, ?_, hbq.mono (Nat.zero_le _) |>.trans ⟨hst.2.1, hst.2.2, hst.2.3, by simp, fun k hk => absurd hk (Nat.not_lt_zero k)⟩, fun b hb hbg => ?_, hst.1⟩
  · have := hbq.size
    simpa using this
  · rw [hst.2.block b (Nat.lt_of_lt_of_le hb hbq.size) (fun e => hbg (Option.some.inj e))]
    exact hbq.block b hb
theorem joinS_last {ss : List Sp} (h : 0 < ss.length) (s : Sp) : joinS ss s = if tt ss (ss.length - 1) = s.1 then ss.take (ss.length - 1) ++ [(fr ss (ss.length - 1), s.2)] else ss ++ [s] := by
  rcases List.eq_nil_or_concat ss with rfl | ⟨S, x, rfl⟩
  · simp at h
  · rw [List.concat_eq_append, joinS_snoc]
    have h1 : (S ++ [x]).length - 1 = S.length := by simp
    have h2 : tt (S ++ [x]) S.length = x.2 := by simp [tt]
    have h3 : fr (S ++ [x]) S.length = x.1 := by simp [fr]
    have h4 : (S ++ [x]).take S.length = S := by simp
    rw [h1, h2, h3, h4]
theorem lookE_same {E : List Ent} {U : Nat → Value} (h : EntOk E) {i : Nat} (hi : i < E.length) (ss : List Sp) (s : ByteArray) : lookE E U s = lookE (E.set i ((ent E i).1, ss)) (updI U i (U i)) s := by
  rw [← lookE_set h hi ss (U i) s]
  unfold updF
  by_cases e : s = encR (ent E i).1
  · rw [if_pos e, e]
    exact h.look U hi
  · rw [if_neg e]
theorem bel_of {base zs z1 p bv bs n : Nat} {w W : World} {E : List Ent} {U T : Nat → Value} (h : TabAt base zs z1 w p bv bs n E U T) (hbz : base ≤ zs) (hz1 : zs ≤ z1) (he : Below 0 w W) (hoth : ∀ b, b < w.heap.size → b ≠ bv → b ≠ bs → (∀ j, j < E.length → (T j).ownBlock ≠ some b) → W.heap[b]? = w.heap[b]?) : Below base w W :=
  ⟨he.os, he.tape, he.output, he.size, fun k hk => by
    have hlo := h.lo
    have hp := blk_lt h.blk
    exact hoth k (by omega) (by omega) (by omega) fun j hj e => by have := (h.sp_blk hj e).1; omega⟩
theorem aadd_c {base zs z1 p bv bs n : Nat} {w : World} {E : List Ent} {U T : Nat → Value} (h : TabAt base zs z1 w p bv bs n E U T) (hz : z1 ≤ w.heap.size) (hbz : base ≤ zs) (hz1 : zs ≤ z1) (hn : n < 100000000) (v : Value) (r : VRow) (hv : IsVals w v r) (hr : okR r ∧ 1 ≤ r.length ∧ r.length ≤ 100) (s : Sp)
    (hvb : ∀ b, sblk v = some b → b < base ∨ z1 ≤ b) (hoff : ∀ j, j < E.length → ∀ b, sblk v = some b → (T j).ownBlock ≠ some b) (hlen : ∀ e ∈ E, e.2.length < 900000000) :
    Calls Tryz.prog 39 #[.pointer (some ⟨p, 0, none⟩), v, .agg #[.int .i64 s.1, .int .i64 s.2]] w (AddRet base zs z1 w p bv bs n E U T v r s) := by
  cases q : idxE E (encR r) with
  | none =>
    have hE : addE E r s = E ++ [(r, [s])] := by unfold addE; rw [q]
    refine (aadd_raw0 h hz hbz hz1 hn v r hv hr s q).mono ?_
    rintro e W ⟨rfl, v7, R⟩
    have hnb : ∀ b, v7.ownBlock = some b → w.heap.size ≤ b := fun b hb => by
      rcases R.new b hb with e | e
      · cases e
      · exact e
    have hoth : ∀ b, b < w.heap.size → b ≠ bv → b ≠ bs → W.heap[b]? = w.heap[b]? := fun b h1 h2 h3 => R.oth b h1 h2 h3 (fun e => by cases e)
    refine ⟨rfl, updI U E.length v, updI T E.length v7, ?_, ?_⟩
    · rw [hE]
      exact h.put_new hbz hz1 hv hr s q hvb hoff R.size hoth R.vals R.spans R.own hnb
    · refine ⟨R.size, bel_of h hbz hz1 R.env fun b h1 h2 h3 _ => hoth b h1 h2 h3, fun b h1 h2 h3 _ => hoth b h1 h2 h3, fun j hj b hb => ?_, fun j hj b hb => ?_⟩
      · rw [hE, List.length_append, List.length_singleton] at hj
        by_cases e : j = E.length
        · subst e
          rw [updI_at] at hb
          exact .inr (hnb b hb)
        · rw [updI_ne _ _ e] at hb
          exact .inl ⟨j, by omega, hb⟩
      · rw [hE, List.length_append, List.length_singleton] at hj
        by_cases e : j = E.length
        · subst e
          rw [updI_at] at hb
          exact .inr hb
        · rw [updI_ne _ _ e] at hb
          exact .inl ⟨j, by omega, hb⟩
  | some i =>
    obtain ⟨hi, hc⟩ := idxE_some q
    have hri : (ent E i).1 = r := encR_inj (h.eok.ok _ (ent_mem hi)).1 hr.1 hc
    have hE : addE E r s = E.set i ((ent E i).1, joinS (ent E i).2 s) := by unfold addE; rw [q]
    have hpos := h.some_ i hi
    have hkeep : ∀ {W : World} {v7 u7 : Value}, (u7 = v ∨ u7 = U i) → w.heap.size ≤ W.heap.size → Below 0 w W → (∀ b, b < w.heap.size → b ≠ bv → b ≠ bs → (T i).ownBlock ≠ some b → W.heap[b]? = w.heap[b]?) → (∀ b, v7.ownBlock = some b → (T i).ownBlock = some b ∨ w.heap.size ≤ b) → AddKeep base w bv bs E (addE E r s) U T v (updI U i u7) (updI T i v7) W := fun {W v7 u7} hu h1 h0 h2 h3 => by
      refine ⟨h1, bel_of h hbz hz1 h0 fun b e1 e2 e3 e4 => h2 b e1 e2 e3 (e4 i hi), fun b e1 e2 e3 e4 => h2 b e1 e2 e3 (e4 i hi), fun j hj b hb => ?_, fun j hj b hb => ?_⟩
      · rw [hE, List.length_set] at hj
        by_cases e : j = i
        · subst e
          rw [updI_at] at hb
          exact (h3 b hb).imp (fun e => ⟨j, hj, e⟩) id
        · rw [updI_ne _ _ e] at hb
          exact .inl ⟨j, hj, hb⟩
      · rw [hE, List.length_set] at hj
        by_cases e : j = i
        · subst e
          rw [updI_at] at hb
          rcases hu with q | q
          · rw [q] at hb; exact .inr hb
          · rw [q] at hb; exact .inl ⟨j, hj, hb⟩
        · rw [updI_ne _ _ e] at hb
          exact .inl ⟨j, hj, hb⟩
    by_cases hlast : tt (ent E i).2 ((ent E i).2.length - 1) = s.1
    · have hJ : joinS (ent E i).2 s = (ent E i).2.take ((ent E i).2.length - 1) ++ [(fr (ent E i).2 ((ent E i).2.length - 1), s.2)] := by rw [joinS_last hpos, if_pos hlast]
      have hJl : (joinS (ent E i).2 s).length = (ent E i).2.length := by rw [hJ]; simp; omega
      refine (aadd_join h hz1 v r hv hr s hi q hlast (hlen _ (ent_mem hi))).mono ?_
      rintro e W ⟨rfl, g, hg, h1, h0, h2, h3⟩
      have hne := h.sp_ne hz1 hi hg
      rw [← hJ] at h3
      have hoth : ∀ b, b < w.heap.size → b ≠ bv → b ≠ bs → (T i).ownBlock ≠ some b → W.heap[b]? = w.heap[b]? := fun b e1 _ _ e4 => h2 b e1 fun e => e4 (by rw [hg, e])
      refine ⟨rfl, updI U i (U i), updI T i (T i), ?_, hkeep (.inr rfl) h1 h0 hoth fun b hb => .inl hb⟩
      rw [hE]
      refine h.turn hbz hz1 hi (h.rowIn i hi) (by omega) (h.rowAt i hi) (fun j hj b hb e => h.off i j hi hj (hb.trans e.symm)) h1 hoth (((h.vals.block (h2 bv h.vals.lt hne.1.symm)).mono (Nat.le_succ n)).congr fun x _ => lookE_same h.eok hi _ x) (((h.spans.block (h2 bs h.spans.lt hne.2.1.symm)).mono (Nat.le_succ n)).congr fun x _ => lookE_same h.eok hi _ x) ?_ fun b hb => .inl hb
      rw [hJl]
      exact h3
    · have hJ : joinS (ent E i).2 s = (ent E i).2 ++ [s] := by rw [joinS_last hpos, if_neg hlast]
      refine (aadd_raw1 h hz hbz hz1 hn v r hv hr s hi q hlast (hlen _ (ent_mem hi))).mono ?_
      rintro e W ⟨rfl, v7, R⟩
      refine ⟨rfl, updI U i v, updI T i v7, ?_, hkeep (.inl rfl) R.size R.env R.oth R.new⟩
      rw [hE]
      have hR1 := R.vals
      have hR2 := R.spans
      rw [← hri] at hR1 hR2
      refine h.turn hbz hz1 hi (by rw [hri]; exact hv) (by rw [hJ]; simp) hvb hoff R.size R.oth (hR1.congr fun x _ => lookE_set h.eok hi _ v x) (hR2.congr fun x _ => lookE_set h.eok hi _ v7 x) ?_ R.new
      rw [hJ, List.length_append, List.length_singleton, flat_snoc]
      exact R.own
/-- A table stands where none of its blocks turns. -/
theorem TabAt.same {base zs z1 p bv bs n : Nat} {w w' : World} {E : List Ent} {U T : Nat → Value} (h : TabAt base zs z1 w p bv bs n E U T) (hsz : w.heap.size ≤ w'.heap.size) (hp : w'.heap[p]? = w.heap[p]?) (hv : w'.heap[bv]? = w.heap[bv]?) (hs : w'.heap[bs]? = w.heap[bs]?)
    (hT : ∀ j, j < E.length → ∀ b, (T j).ownBlock = some b → w'.heap[b]? = w.heap[b]?) (hU : ∀ j, j < E.length → ∀ b, sblk (U j) = some b → w'.heap[b]? = w.heap[b]?) : TabAt base zs z1 w' p bv bs n E U T :=
  ⟨hp.trans h.blk, h.vals.block hv, h.spans.block hs, h.ne, h.lo, h.hi, h.eok, fun i hi => (h.rowIn i hi).blocks hsz (hU i hi), h.rowAt, fun i hi => own_blocks (h.own i hi) (hT i hi), h.some_, h.apart, h.off⟩
theorem TabAt.below {base zs z1 p bv bs n : Nat} {w w' : World} {E : List Ent} {U T : Nat → Value} (h : TabAt base zs z1 w p bv bs n E U T) (hb : Below w.heap.size w w') : TabAt base zs z1 w' p bv bs n E U T :=
  h.same hb.size (hb.block _ (blk_lt h.blk)) (hb.block _ h.vals.lt) (hb.block _ h.spans.lt) (fun _ hj b e => hb.block b (h.sp_blk hj e).2) (fun _ hj b e => hb.block b (h.row_blk hj e))
theorem flatE_add (E : List Ent) (r : VRow) (s : Sp) : (flatE (addE E r s)).length ≤ (flatE E).length + 1 := by
  have join : ∀ ss : List Sp, (joinS ss s).length ≤ ss.length + 1 := fun ss => by
    rcases List.eq_nil_or_concat ss with rfl | ⟨S, x, rfl⟩
    · simp [joinS_nil]
    · rw [List.concat_eq_append, joinS_snoc]
      split <;> simp
  unfold addE flatE
  split
  · rename_i i hi
    obtain ⟨h1, _⟩ := idxE_some hi
    have e : E = E.take i ++ ent E i :: E.drop (i + 1) := by rw [← ent_at h1]; exact (by rw [← List.drop_eq_getElem_cons h1, List.take_append_drop])
    have e2 : E.set i ((ent E i).1, joinS (ent E i).2 s) = E.take i ++ ((ent E i).1, joinS (ent E i).2 s) :: E.drop (i + 1) := List.set_eq_take_append_cons_drop .. |>.trans (if_pos h1)
    rw [e2]
    conv => rhs; rw [e]
    have := join (ent E i).2
    simp only [List.flatMap_append, List.flatMap_cons, List.length_append, List.length_map]
    omega
  · simp
end Go.Proofs.YtohjgegnamcnlaaGreat
