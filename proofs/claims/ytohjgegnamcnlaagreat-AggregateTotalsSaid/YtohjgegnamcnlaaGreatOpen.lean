/- An argument that is a list of spans, or a span, reads as a plain list (a pair of numbers); the last step of a law's row. -/
import Derived.Test.YtohjgegnamcnlaaGreatRows
import Derived.Test.YtohjgegnamcnlaaGreatPre
import Derived.ProofKit
import Derived.OpenShut
import Derived.Lib.SmallJoins
import Derived.Deep.Slices
import Derived.Deep.Fields
namespace Go.Proofs.YtohjgegnamcnlaaGreat
open Go.RowKit Go.ChangeShapes Go.WideShapes Go.Deep Go.Joins

theorem Tryz.own : ownKnob Tryz.prog.godebug = none := by kernel_rfl
theorem Tryz.laidOut : laidOutB Tryz.prog = true := by kernel_rfl
theorem cells_Span : Tryz.prog.cellsOf 34 = 2 := by kernel_rfl
theorem one_Span : oneCellFields Tryz.prog (Tryz.prog.fieldsOf 34) = true := by kernel_rfl
theorem under_Span : Tryz.prog.underlying 34 = some (.struct (Tryz.prog.fieldsOf 34)) := by kernel_rfl
theorem size_Span : (Tryz.prog.fieldsOf 34).size = 2 := by kernel_rfl
theorem fields_Span : ∀ j : Nat, j < 2 → ((Tryz.prog.fieldsOf 34)[j]?).map (·.type) = some 3 := fun j hj => by
  rcases (by omega : j = 0 ∨ j = 1) with rfl | rfl <;> kernel_rfl

theorem add_form {w : World} {a : Addr} {v : Value} {k : Nat} (h : w.cell? (a.add k) = some v) : ∃ b off, a.add k = ⟨b, off, none⟩ ∧ a.block = b ∧ a.off + k = off ∧ b < w.heap.size := by
  have hs : (a.add k).spot = none := by
    unfold World.cell? at h
    cases hsp : (a.add k).spot with
    | none => rfl
    | some x =>
      rw [hsp] at h
      split at h <;> simp at h
  have hb : (a.add k).block < w.heap.size := by
    unfold World.cell? at h
    rcases Nat.lt_or_ge (a.add k).block w.heap.size with h1 | h1
    · exact h1
    · rw [Array.getElem?_eq_none h1] at h; cases h
  refine ⟨(a.add k).block, (a.add k).off, ?_, ?_, ?_, hb⟩
  · cases hx : a.add k with
    | mk b o s => rw [hx] at hs; simp only at hs; rw [hs]
  · unfold Addr.add; split <;> rfl
  · unfold Addr.add; split
    · rename_i h0; rw [h0]; rfl
    · rfl

section
variable {H : Type} {enc : TypeId × Value → H} {w : World} {base : Nat} {spare : Nat → Bool} {held : Bool}
set_option maxRecDepth 100000 in
theorem open_spans {r : Reach} {b0 : Nat} {v : Value} {d : DataW H} {p : List MemPlace} (hv : Value.okWide Tryz.prog w r b0 44 v) (h : DataW.Trod enc Tryz.prog w base spare held 44 v d p) :
    ∃ l : List Sp, IsSpans w v l ∧ ∀ i, i < l.length → -9223372036854775808 ≤ fr l i ∧ fr l i ≤ 9223372036854775807 ∧ -9223372036854775808 ≤ tt l i ∧ tt l i ≤ 9223372036854775807 := by
  obtain ⟨a0, len, cap, rfl⟩ := okWide_slice Tryz.underlying44 hv
  obtain ⟨fuel, hf⟩ := h
  rcases open_slice Tryz.underlying44 hf with ⟨h0, _⟩ | ⟨a, len', cap', m, n, D, Pl, hcs, hb, hl, hm, hmm, _, hi⟩
  · simp only [Value.cells, List.cons.injEq, and_true] at h0
    injection h0 with e1 e2 e3
    subst e1 e2 e3
    exact ⟨[], IsSpans.nil, fun i hi => absurd hi (by simp)⟩
  · simp only [Value.cells, List.cons.injEq, and_true] at hcs
    injection hcs with e1 e2 e3
    subst e1 e2 e3
    have hlm : len ≤ m := by rw [hmm]; split <;> omega
    have hcell : ∀ i j, i < len → j < 2 → ∃ q : Int, w.cell? (a.add (i * 2 + j)) = some (.int .i64 q) ∧ -9223372036854775808 ≤ q ∧ q ≤ 9223372036854775807 := by
      intro i j hil hj
      obtain ⟨cs', hc, ht'⟩ := hi i (by omega)
      rw [cells_Span] at hc
      obtain ⟨ys, n', hn', hy, hlen, hyl, hg⟩ := DataW.trod_struct under_Span ht'
      obtain ⟨_, hcl, hat⟩ := World.cells?_some hc
      obtain ⟨f, hfj, hft⟩ := Option.map_eq_some_iff.1 (fields_Span j hj)
      obtain ⟨ho, hk⟩ := hone_of one_Span j f hfj
      have hcell := hat j hj
      have hv : cs'[j]? = some (cs'[j]'(by omega)) := List.getElem?_eq_getElem (by omega)
      have h1 := hg j f hfj
      rw [ho, hk] at h1
      have hone' : (cs'.drop j).take 1 = [cs'[j]'(by omega)] := by
        rw [List.drop_eq_getElem_cons (by omega)]
        rfl
      rw [hone', hft] at h1
      have hyl2 : ys.length = 2 := hyl.trans size_Span
      have hys : ys[j]? = some (ys[j]'(by omega)) := List.getElem?_eq_getElem (by omega)
      obtain ⟨q, e1, e2, e3⟩ := DataW.trod_int Tryz.underlying3 (h1.trans hys)
      simp only [List.cons.injEq, and_true] at e1
      refine ⟨q, ?_, ?_⟩
      · rw [← Go.Deep.add_add, hcell, hv, e1]
      · simp [Lit.wf, IntKind.min, IntKind.max, IntKind.signed, IntKind.bits] at e3
        omega
    have hch : ∀ n, n ≤ len → ∃ l : List Sp, l.length = n ∧ ∀ i, i < n → (w.cell? (a.add (i * 2 + 0)) = some (.int .i64 (fr l i)) ∧ w.cell? (a.add (i * 2 + 1)) = some (.int .i64 (tt l i))) ∧
        (-9223372036854775808 ≤ fr l i ∧ fr l i ≤ 9223372036854775807 ∧ -9223372036854775808 ≤ tt l i ∧ tt l i ≤ 9223372036854775807) := by
      intro n
      induction n with
      | zero => intro _; exact ⟨[], rfl, fun i hi => absurd hi (by omega)⟩
      | succ n ih =>
        intro hn
        obtain ⟨l, hll, hlc⟩ := ih (by omega)
        obtain ⟨p, hp, hpb⟩ := hcell n 0 (by omega) (by omega)
        obtain ⟨q, hq, hqb⟩ := hcell n 1 (by omega) (by omega)
        refine ⟨l ++ [(p, q)], by simp [hll], fun i hi => ?_⟩
        rcases Nat.lt_or_ge i n with h1 | h1
        · have := hlc i h1
          have e1 : fr (l ++ [(p, q)]) i = fr l i := by simp [fr, List.getElem?_append_left (show i < l.length by omega)]
          have e2 : tt (l ++ [(p, q)]) i = tt l i := by simp [tt, List.getElem?_append_left (show i < l.length by omega)]
          rw [e1, e2]; exact this
        · obtain rfl : i = n := by omega
          have e1 : fr (l ++ [(p, q)]) i = p := by simp [fr, ← hll]
          have e2 : tt (l ++ [(p, q)]) i = q := by simp [tt, ← hll]
          rw [e1, e2]; exact ⟨⟨hp, hq⟩, hpb.1, hpb.2, hqb.1, hqb.2⟩
    obtain ⟨l, hll, hlc⟩ := hch len (Nat.le_refl _)
    refine ⟨l, ⟨some a, cap, by rw [hll], by omega, by unfold maxLen at hm; exact hm, fun hn => ?_⟩, fun i hi => (hlc i (by omega)).2⟩
    obtain ⟨b, off, e1, e2, e3, hlt⟩ := add_form (hlc 0 (by omega)).1.1
    have ea : a = ⟨b, off, none⟩ := by simpa [Addr.add] using e1
    subst ea
    refine ⟨b, off, rfl, hlt, fun i j hi hj => ?_⟩
    have := (hlc i (by omega)).1
    have ead : ∀ k, (⟨b, off, none⟩ : Addr).add k = ⟨b, off + k, none⟩ := by
      intro k; unfold Addr.add; split
      · rename_i h0; rw [h0]; rfl
      · rfl
    rw [ead, ead] at this
    rcases (by omega : j = 0 ∨ j = 1) with rfl | rfl
    · have h1 := this.1; simpa [spanCell, Nat.add_assoc] using h1
    · have h1 := this.2; simpa [spanCell, Nat.add_assoc] using h1
end

theorem wf64 {x : Int} (h : (Lit.int .i64 x).wf = true) : -9223372036854775808 ≤ x ∧ x ≤ 9223372036854775807 := by
  simp [Lit.wf, IntKind.min, IntKind.max, IntKind.signed, IntKind.bits] at h
  omega
theorem struct_Span : Tryz.prog.underlying 34 = some (.struct #[(Tryz.prog.fieldsOf 34).getD 0 default, (Tryz.prog.fieldsOf 34).getD 1 default]) := by kernel_rfl
theorem one_Span2 : oneCellFields Tryz.prog #[(Tryz.prog.fieldsOf 34).getD 0 default, (Tryz.prog.fieldsOf 34).getD 1 default] = true := by kernel_rfl
theorem type_Span0 : ((Tryz.prog.fieldsOf 34).getD 0 default).type = 3 := by kernel_rfl
theorem type_Span1 : ((Tryz.prog.fieldsOf 34).getD 1 default).type = 3 := by kernel_rfl
section
variable {H : Type} {enc : TypeId × Value → H} {w : World} {base : Nat} {spare : Nat → Bool} {held : Bool}
set_option maxRecDepth 100000 in
theorem open_span {r : Reach} {b0 : Nat} {v : Value} {d : DataW H} {p : List MemPlace} (hv : Value.okWide Tryz.prog w r b0 34 v) (h : DataW.Trod enc Tryz.prog w base spare held 34 v d p) :
    ∃ a b : Int, v = .agg #[.int .i64 a, .int .i64 b] ∧ -9223372036854775808 ≤ a ∧ a ≤ 9223372036854775807 ∧ -9223372036854775808 ≤ b ∧ b ≤ 9223372036854775807 := by
  obtain ⟨c0, c1, y0, y1, m, rfl, _, _, h0, h1⟩ := open_agg2 struct_Span one_Span2 cells_Span hv h
  rw [type_Span0] at h0
  rw [type_Span1] at h1
  obtain ⟨a, e0, _, wa⟩ := DataW.trod_int Tryz.underlying3 h0
  obtain ⟨b, e1, _, wb⟩ := DataW.trod_int Tryz.underlying3 h1
  simp only [List.cons.injEq, and_true] at e0 e1
  subst e0 e1
  have := wf64 wa
  have := wf64 wb
  exact ⟨a, b, rfl, by omega, by omega, by omega, by omega⟩
end

section
variable {H : Type} {enc : TypeId × Value → H} {P : Program}
theorem post_of_below {f : Func} {s : ChangeSpec} {apart fresh handsOn again : Bool} {W W' : World} {args : Array Value} {v : Value} {ds gs : List (DataW H)} {before pa pv : List MemPlace}
    (hW : DataW.Whole enc P f.params.toList s.vars apart W args.toList ds gs before)
    (hres : ∀ (b : Nat) (sp : Nat → Bool) (hd : Bool), DataW.TrodAll enc P W' b sp hd f.resultTypes.toList (v.resultList f.resultTypes.size) (s.fn H (ds ++ gs)).results [])
    (hargs : ∀ sp : Nat → Bool, (∀ p ∈ before, sp p.block = true) → DataW.TrodAll enc P W' 0 sp true f.params.toList args.toList (s.fn H (ds ++ gs)).args pa)
    (hvars : ∀ sp : Nat → Bool, (∀ p ∈ before, sp p.block = true) → DataW.TrodVars enc P W' sp s.vars (s.fn H (ds ++ gs)).vars pv)
    (hps : before = pa ++ pv) (hb : Below W.heap.size W W')
    (hok : ∀ (j : Nat) (t : TypeId) (r : Value), f.resultTypes[j]? = some t → (v.resultList f.resultTypes.size)[j]? = some r → Value.okWide P W' .any 0 t r) :
    s.post enc P f apart fresh handsOn again W args v W' := by
  have hlt : ∀ p ∈ before, p.block < W.heap.size := fun p hp => hW.lt p hp
  have hold : ∀ p ∈ before, (fun b => decide (b < W.heap.size)) p.block = true := fun p hp => by simpa using hlt p hp
  refine ⟨ds, gs, before, [], pa, pv, hW, hres _ _ _, hargs _ hold, hvars _ hold, World.keptBut_mono (fun p hp => ⟨hp, ?_⟩) (hb.frame (· ∈ before)), fun _ => ?_⟩
  · rw [hps, List.mem_append] at hp
    exact Or.inr hp
  · obtain ⟨_, _, _, _, _, hz, hn⟩ := hW
    refine ⟨hok, _, _, ([] ++ pa) ++ pv, ⟨[] ++ pa, pv, trodAll_append (hargs _ (fun _ _ => rfl)) (hres _ _ _), hvars _ (fun _ _ => rfl), rfl, ?_, ?_⟩, ?_⟩
    · intro b off hp
      have hin : MemPlace.cell b off ∈ before := by rw [hps]; simpa using hp
      rw [hb.frozen (hlt _ hin)]
      exact hz b off hin
    · intro ha
      have := hn ha
      rw [hps] at this
      simpa using this
    · intro p hp _
      rw [hps]
      simpa using hp
end
def argOk (P : Program) (t : TypeId) : Bool := P.readableRec t && Nat.blt t P.types.size
theorem argOk_spec {P : Program} {t : TypeId} (h : argOk P t = true) : P.readableRec t = true ∧ t < P.types.size :=
  ⟨(Bool.and_eq_true_iff.1 h).1, by have := (Bool.and_eq_true_iff.1 h).2; exact Nat.le_of_ble_eq_true this⟩
theorem trodAll_keep {H : Type} {enc : TypeId × Value → H} {P : Program} (hl : laidOutB P = true) {W W' : World} {sp : Nat → Bool} (hb : Below W.heap.size W W') : ∀ {ts : List TypeId} {vs : List Value} {ds : List (DataW H)} {ps : List MemPlace},
    ts.all (argOk P) = true → DataW.TrodAll enc P W 0 (fun _ => true) true ts vs ds ps → (∀ x ∈ ps, x.block < W.heap.size) → (∀ x ∈ ps, sp x.block = true) →
    DataW.TrodAll enc P W' 0 sp true ts vs ds ps
  | [], _, _, _, _, h, _, _ => by
    obtain ⟨rfl, rfl, rfl⟩ := trodAll_nil h
    exact trodAll_mk0
  | t :: ts, _, _, _, hr, h, hlt, hs => by
    obtain ⟨v, vs, d, ds, p, q, rfl, rfl, rfl, h1, h2⟩ := trodAll_cons h
    rw [List.all_cons, Bool.and_eq_true] at hr
    have ho := argOk_spec hr.1
    exact trodAll_cons_mk (WideElems.Trod_stays hl ho.1 ho.2 h1 (fun x hx => hb.same (hlt x (by simp [hx]))) (fun x hx => hs x (by simp [hx])))
      (trodAll_keep hl hb hr.2 h2 (fun x hx => hlt x (by simp [hx])) (fun x hx => hs x (by simp [hx])))
end Go.Proofs.YtohjgegnamcnlaaGreat
