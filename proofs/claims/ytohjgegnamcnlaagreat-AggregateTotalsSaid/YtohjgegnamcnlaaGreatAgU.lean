/- Law 39: Clone at values, the sort of facts. -/
import Derived.Test.YtohjgegnamcnlaaGreatAgN
namespace Go.Proofs.YtohjgegnamcnlaaGreat
open Go.RowKit Go.Shelf Go.Sort

/-! ### slices.Clone at values -/
theorem eql_nilV (a : Option Addr) (n c : Nat) (w : World) : (binOp .eql 47 (.slice a n c) (.slice none 0 0)).run Tryz.prog w = .ok (.bool a.isNone) w := by
  simp only [binOp]
  simp [run_equal_slice_nil (P := Tryz.prog) w 47 51 a n c tValues]
attribute [local go_sem ↓] eql_nilV
def CloneVRet (r : VRow) (w : World) (e : Ending) (w' : World) : Prop := ∃ v, e = .returned v ∧ IsVals w' v r ∧ (∀ b, sblk v = some b → w.heap.size ≤ b) ∧ Below w.heap.size w w'
set_option maxRecDepth 100000 in
theorem slCloneValue_c (v : Value) (r : VRow) (w : World) (hs : IsVals w v r) (hl : r.length ≤ 100000) : Calls Tryz.prog 74 #[v] w (CloneVRet r w) := by
  obtain ⟨A, c, rfl, hnc, hc⟩ := hs.form
  cases A with
  | none =>
    have hz : r.length = 0 := by
      rcases Nat.eq_zero_or_pos r.length with h | h
      · exact h
      · obtain ⟨b, off, h1, _⟩ := hs.addr h; cases h1
    obtain rfl : r = [] := List.length_eq_zero_iff.1 hz
    clear hs hnc hc hz
    go_enter Tryz.func74, Tryz.ntmps74
    go_wp2
    go_ret
    exact ⟨_, rfl, IsVals.nil, fun b hb => (by cases hb), Below.refl _ _⟩
  | some ad =>
    obtain ⟨i, hi, hz, hsz, hby⟩ := info_parts tValueInfo
    have hbA := (Below.refl w.heap.size w).alloc (Nat.le_refl _) (.cells #[] 51)
    have hsA := hs.below hbA
    have hone := flatV_one r
    have hnews : ∀ j u, (flatV r)[j]? = some u → (w.alloc (.cells #[] 51)).cell? (ad.add j) = some u := fun j u hu => by
      have hj : j < r.length * 3 := by
        rcases Nat.lt_or_ge j (r.length * 3) with h | h
        · exact h
        · rw [List.getElem?_eq_none (by rw [flatV_len]; exact h)] at hu; cases hu
      obtain ⟨b, off, hb, _⟩ := hsA.addr (by omega)
      injection hb with hb
      subst hb
      have h1 := RowsIn.cells hsA (j / 3) (j % 3) (by omega) (by omega)
      have h2 := flatV_get r (j / 3) (j % 3) (by omega) (by omega)
      rw [show j / 3 * 3 + j % 3 = j from by omega] at h2
      rw [h2] at hu
      rw [← Option.some.inj hu, ← h1]
      have e2 : (⟨b, off, none⟩ : Addr).add j = ⟨b, off + j, none⟩ := by simp [Addr.add]
      rw [e2, Nat.add_assoc off, show j / 3 * 3 + j % 3 = j from by omega]
    have Hone := Lib.hid hone; have Hnews := Lib.hid hnews; have HbA := Lib.hid hbA; have Hl := Lib.hid hl
    clear hone hnews hbA hsA hs
    go_enter Tryz.func74, Tryz.ntmps74
    go_wp2_with (at_builtin; refine wpList_append_own_at (w := w.alloc (.cells #[] 51)) rfl _ _ 47 rfl w.heap.size 51 i _ 3 32 tValues hi hz hsz hby rfl (by omega) _ 0 [] rfl (World.ownsRow_made w #[] 0 (Nat.le_refl _) (by unfold maxLen; omega) rfl) ad r.length c (flatV r) rfl (flatV_len _) Hnews.out Hone.out (by unfold maxLen; have := Hl.out; omega) (by have := Hl.out; omega) (by simp) ?_; intro v3 w1 hown1 hg1 _ _)
    go_ret
    have hb1 : Below w.heap.size w w1 := HbA.out.grown hg1 (by simp) (fun k hk => by
      have e : some w.heap.size = some k := hk
      injection e with e
      omega)
    rw [Nat.zero_add, List.nil_append] at hown1
    refine ⟨v3, rfl, OwnsV.vals hown1, fun b hb => ?_, hb1⟩
    rcases hown1.2 with ⟨rfl, _⟩ | ⟨g, cap, cur, rfl, hg, _⟩
    · cases hb
    · have : g = b := Option.some.inj hb
      omega
/-! ### lists of facts of one's own -/
/-- A fact whose values lie in the slice x.1. -/
abbrev Fx := Value × Fct
def encFx (x : Fx) : List Value := [x.1, .int .i64 x.2.2.1, .int .i64 x.2.2.2]
theorem tFacts : Tryz.prog.underlying 22 = some (.slice 49) := Tryz.underlying22
theorem tFactInfoA : (Tryz.prog.info? 49).map (fun i => (i.zero, i.size, i.bytes)) = some (some (.agg #[.slice none 0 0, .int .i64 0, .int .i64 0]), 3, 40) := by kernel_rfl
/-- The facts in memory: each with its values in a block that is not the list's. -/
structure OwnsFx (w : World) (base : Nat) (v : Value) (G : List Fx) : Prop where
  own : w.ownsRow base 49 3 v G.length (G.flatMap encFx)
  row : ∀ x ∈ G, IsVals w x.1 x.2.1 ∧ ∀ b, sblk x.1 = some b → b < w.heap.size ∧ v.ownBlock ≠ some b
theorem OwnsFx.below {w w' : World} {base : Nat} {v : Value} {G : List Fx} (h : OwnsFx w base v G) (hb : Below w.heap.size w w') : OwnsFx w' base v G :=
  ⟨own_below h.own hb (Nat.le_refl _), fun x hx => ⟨(h.row x hx).1.below hb, fun b hbb => ⟨Nat.lt_of_lt_of_le ((h.row x hx).2 b hbb).1 hb.size, ((h.row x hx).2 b hbb).2⟩⟩⟩
theorem OwnsFx.fs {w : World} {base : Nat} {v : Value} {G : List Fx} (h : OwnsFx w base v G) : IsFs w v (G.map (·.2)) := by
  refine ⟨fun i => (G.getD i (undef, ([], (0, 0)))).1, ?_, fun i hi => ?_⟩
  · have : RowsIn w v G.length 3 (fcCell (G.map (·.2)) fun i => (G.getD i (undef, ([], (0, 0)))).1) := rows_of_own h.own fun i j hi hj => by
      rw [flatK_get (k := 3) (fun x => rfl) G i j hi hj]
      have e1 : fc (G.map (·.2)) i = G[i].2 := by unfold fc; simp [hi]
      have e2 : (G.getD i (undef, ([], (0, 0)))).1 = G[i].1 := by simp [hi]
      unfold fcCell
      simp only [e1, e2]
      rcases (by omega : j = 0 ∨ j = 1 ∨ j = 2) with rfl | rfl | rfl <;> rfl
    rw [← List.length_map (f := fun x : Fx => x.2)] at this
    exact this
  · rw [List.length_map] at hi
    have e1 : fc (G.map (·.2)) i = G[i].2 := by unfold fc; simp [hi]
    have e2 : (G.getD i (undef, ([], (0, 0)))).1 = G[i].1 := by simp [hi]
    simp only [e1, e2]
    exact (h.row _ (List.getElem_mem hi)).1
/-! ### the sort -/
/-- Valid rows in a world, apart from the block g. -/
def FxOk (w : World) (g : Nat) (x : Fx) : Prop := okR x.2.1 ∧ IsVals w x.1 x.2.1 ∧ (∀ b, sblk x.1 = some b → b < w.heap.size ∧ g ≠ b) ∧ -4000000000000000000 ≤ x.2.2.1 ∧ x.2.2.1 ≤ 4000000000000000000
def cfFx (x y : Fx) : Int := if cmpR x.2.1 y.2.1 ≠ 0 then cmpR x.2.1 y.2.1 else x.2.2.1 - y.2.2.1
theorem ltFx (x y : Fx) : ltOf cfFx x y = decide (cmpF x.2 y.2 < 0) := by
  unfold ltOf cfFx cmpF lexC
  rw [decide_eq_decide]
  by_cases h : cmpR x.2.1 y.2.1 = 0
  · simp only [h, ne_eq, not_true, if_false]
    unfold sgI
    constructor
    · intro h; rw [if_pos (by omega)]; omega
    · intro h
      by_cases e : x.2.2.1 < y.2.2.1
      · omega
      · rw [if_neg e] at h
        split at h <;> omega
  · simp only [h, ne_eq, not_false_eq_true, if_true]
theorem sortK_other {α : Type} [Inhabited α] {enc : α → List Value} {k : Nat} {w : World} {g m : Nat} {d : Array α} {os : Array Obj} {i : Nat} (hi : i < w.heap.size) (hg : i ≠ g) : (sortWorldK enc k w g 0 m d os).heap[i]? = w.heap[i]? := by
  unfold sortWorldK
  rw [heap_grow_old _ _ (by simpa [putRowK, putRow, mapBlock, Sort.ahead] using hi)]
  simp [putRowK, putRow, mapBlock, Sort.ahead, Array.getElem?_modify, Ne.symm hg]
theorem sortK_size {α : Type} [Inhabited α] {enc : α → List Value} {k : Nat} {w : World} {g m : Nat} {d : Array α} {os : Array Obj} : w.heap.size ≤ (sortWorldK enc k w g 0 m d os).heap.size := by
  simp [sortWorldK, putRowK, putRow, mapBlock, Sort.ahead]
theorem ent_afacts1 : ∀ (args : Array Value) (w : World), Sem.run Tryz.prog (callFunc 76 args) w = .ok (.enter 76 args) w := fun _ _ => by kernel_rfl
set_option maxRecDepth 100000 in
theorem afacts1_c (v1 v2 : Value) (a b : VRow) (s t : Sp) (W : World) (h1 : IsVals W v1 a) (h2 : IsVals W v2 b) (ha : okR a) (hb : okR b) (hs : -4000000000000000000 ≤ s.1 ∧ s.1 ≤ 4000000000000000000) (ht : -4000000000000000000 ≤ t.1 ∧ t.1 ≤ 4000000000000000000) :
    Calls Tryz.prog 76 #[.agg #[v1, .int .i64 s.1, .int .i64 s.2], .agg #[v2, .int .i64 t.1, .int .i64 t.2]] W (Grown W (.int .i64 (if cmpR a b ≠ 0 then cmpR a b else s.1 - t.1))) := by
  have K : Hid (∀ X, Below W.heap.size W X → Calls Tryz.prog 77 #[v1, v2] X (Grown X (.int .i64 (cmpR a b)))) := Lib.hid fun X hX => by
    have := vOrder_c v1 v2 a b X (h1.below hX) (h2.below hX)
    unfold ordR_ at this
    rw [rowB_ok ha, rowB_ok hb] at this
    exact this
  obtain ⟨A1, c1, rfl, hn1, hc1⟩ := h1.form
  obtain ⟨A2, c2, rfl, hn2, hc2⟩ := h2.form
  obtain ⟨s1, s2⟩ := s
  obtain ⟨t1, t2⟩ := t
  simp only at hs ht
  obtain ⟨hs1, hs2⟩ := hs
  obtain ⟨ht1, ht2⟩ := ht
  obtain ⟨R, hR⟩ : ∃ R, R = if cmpR a b ≠ 0 then cmpR a b else s1 - t1 := ⟨_, rfl⟩
  simp only
  rw [← hR]
  generalize cmpR a b = z at K hR
  have HR := Lib.hid hR
  clear hR
  have HA : Hid (Below W.heap.size W ((W.alloc (.cells #[.slice A1 a.length c1, .int .i64 s1, .int .i64 s2] 49)).alloc (.cells #[.slice A2 b.length c2, .int .i64 t1, .int .i64 t2] 49))) := Lib.hid (((Below.refl _ _).alloc (Nat.le_refl _) _).alloc (by simp) _)
  have hW : IntKind.i64.wrap (s1 - t1) = s1 - t1 := IntWalk.i64_in _ (by omega)
  clear h1 h2
  go_enter Tryz.func76, Tryz.ntmps76
  go_wp2_with fail
  refine (K.out _ HA.out).mono ?_
  rintro e w1 ⟨rfl, hg⟩
  have hg0 : ∃ n os, w1 = grow (W.drewN n) os := by
    have := grown_trans (w := W) ⟨0, _, by rw [alloc_eq_grow, alloc_eq_grow, grow_grow]; rfl⟩ hg
    exact this
  have Hg := Lib.hid hg0
  have hb1 := gw_below hg
  have xb : w1.heap[W.heap.size]? = some (.cells #[.slice A1 a.length c1, .int .i64 s1, .int .i64 s2] 49 (0, 0)) := (hb1.block W.heap.size (by simp; omega)).trans ((((Below.refl _ _).alloc (Nat.le_refl _) _).block W.heap.size (by simp)).trans (heap_alloc_new W _))
  have yb : w1.heap[W.heap.size + 1]? = some (.cells #[.slice A2 b.length c2, .int .i64 t1, .int .i64 t2] 49 (0, 0)) := (hb1.block (W.heap.size + 1) (by simp)).trans (by have := heap_alloc_new (W.alloc (.cells #[.slice A1 a.length c1, .int .i64 s1, .int .i64 s2] 49)) (.cells #[.slice A2 b.length c2, .int .i64 t1, .int .i64 t2] 49); rw [World.size_alloc] at this; exact this)
  have x1 := blk_get xb 1
  have y1 := blk_get yb 1
  simp at x1 y1
  clear hg hg0
  by_cases hz : z = 0
  · subst hz
    go_wp2_with fail
    go_ret
    exact ⟨by rw [HR.out]; simp, Hg.out⟩
  · go_wp2_with fail
    go_ret
    exact ⟨by rw [HR.out, if_pos hz]; rfl, Hg.out⟩
def SortFRet (base : Nat) (w : World) (v : Value) (G : List Fx) (e : Ending) (w' : World) : Prop :=
  e = .returned (.tuple #[]) ∧ ∃ G', G'.Perm G ∧ G'.Pairwise (fun x y => ¬ cmpF y.2 x.2 < 0) ∧ OwnsFx w' base v G' ∧ Below base w w'
theorem swoFx (α : Type) (f : α → Fx) : SWO (ltOf fun x y : α => cfFx (f x) (f y)) := by
  have h : ∀ x y : α, ltOf (fun x y : α => cfFx (f x) (f y)) x y = decide (cmpF (f x).2 (f y).2 < 0) := fun x y => ltFx (f x) (f y)
  exact
  { irrefl := fun x => by rw [h]; exact decide_eq_false (cmpF_irr _)
    trans := fun x y z h1 h2 => by
      rw [h] at *
      exact decide_eq_true (cmpF_trans (of_decide_eq_true h1) (of_decide_eq_true h2))
    ntrans := fun x y z h1 h2 => by
      rw [h] at *
      have h1 := of_decide_eq_false h1
      have h2 := of_decide_eq_false h2
      refine decide_eq_false fun h3 => ?_
      have T := ordR.lex ordI
      unfold cmpF at h1 h2 h3
      have a1 := T.anti ((f x).2.1, (f x).2.2.1) ((f y).2.1, (f y).2.2.1)
      have a2 := T.anti ((f y).2.1, (f y).2.2.1) ((f z).2.1, (f z).2.2.1)
      rcases Int.lt_or_eq_of_le (show lexC cmpR sgI ((f y).2.1, (f y).2.2.1) ((f x).2.1, (f x).2.2.1) ≤ 0 by omega) with p | p
      · have p2 := T.trans _ _ _ p h3
        omega
      · have := (T.eq _ _).1 p
        rw [this] at h2
        omega }
theorem slSortFact_c (v : Value) (G : List Fx) (w : World) (base : Nat) (hown : OwnsFx w base v G) (hok : ∀ x ∈ G, okR x.2.1 ∧ -4000000000000000000 ≤ x.2.2.1 ∧ x.2.2.1 ≤ 4000000000000000000) (hl : G.length ≤ 100000000) :
    Calls Tryz.prog 75 #[v, .func (.func 76) #[] #[]] w (SortFRet base w v G) := by
  by_cases h0 : 0 < G.length
  · obtain ⟨g, cap, rfl, hgb, hglt, hcap, hcm⟩ := own_formG hown.own h0
    have hall : ∀ x ∈ G, FxOk w g x := fun x hx => ⟨(hok x hx).1, (hown.row x hx).1, fun b hb => ⟨((hown.row x hx).2 b hb).1, fun e => ((hown.row x hx).2 b hb).2 (by rw [e]; rfl)⟩, (hok x hx).2⟩
    obtain ⟨L0, hL0⟩ : ∃ L0 : List {x : Fx // FxOk w g x}, L0.map (·.1) = G := ⟨G.attach.map fun s => ⟨s.1, hall s.1 s.2⟩, by rw [List.map_map]; exact List.attach_map_subtype_val G⟩
    have hlen : L0.length = G.length := by rw [← hL0]; simp
    haveI : Inhabited {x : Fx // FxOk w g x} := ⟨L0[0]⟩
    have hfl : ∀ L : List {x : Fx // FxOk w g x}, L.flatMap (fun x => encFx x.1) = (L.map (·.1)).flatMap encFx := fun L => by rw [List.flatMap_map]
    have hown2 : w.ownsRow base 49 3 (.slice (some ⟨g, 0, none⟩) G.length cap) G.length (L0.flatMap fun x => encFx x.1) := by
      rw [hfl, hL0]; exact hown.own
    obtain ⟨hH, hblk, _⟩ := holdsK_own (enc := fun x : {x : Fx // FxOk w g x} => encFx x.1) (k := 3) (fun _ => rfl) hown2
    have hcon := AnyQ.slices_SortFunc lay_sortFact 3 Tryz.isAgg49 Tryz.sizeOf49 (fun x : {x : Fx // FxOk w g x} => encFx x.1) (fun _ => rfl) (fun x u hu => by
        obtain ⟨A, c, hx, _⟩ := x.2.2.1.form
        simp [encFx] at hu
        rcases hu with rfl | rfl | rfl
        · rw [hx]; rfl
        · rfl
        · rfl) (fun x y => cfFx x.1 y.1) (swoFx {x : Fx // FxOk w g x} (fun x => x.1)) 76 #[] g 0 cap L0.toArray w ent_afacts1
      (fun m os dk hsz x y => by
        have hx := x.2.2.1.blocks (w' := sortWorldK (fun x : {x : Fx // FxOk w g x} => encFx x.1) 3 w g 0 m dk os) sortK_size fun b hb => sortK_other (x.2.2.2.1 b hb).1 (fun e => (x.2.2.2.1 b hb).2 e.symm)
        have hy := y.2.2.1.blocks (w' := sortWorldK (fun x : {x : Fx // FxOk w g x} => encFx x.1) 3 w g 0 m dk os) sortK_size fun b hb => sortK_other (y.2.2.2.1 b hb).1 (fun e => (y.2.2.2.1 b hb).2 e.symm)
        exact afacts1_c x.1.1 y.1.1 x.1.2.1 y.1.2.1 x.1.2.2 y.1.2.2 _ hx hy x.2.1 y.2.1 x.2.2.2.2 y.2.2.2.2) hH hblk (by simp; omega)
    change Calls Tryz.prog 75 _ _ _ at hcon
    have hsz : L0.toArray.size = G.length := by simpa using hlen
    rw [hsz] at hcon
    refine hcon.mono ?_
    rintro e w' ⟨rfl, d', n, os, hp, hs, rfl⟩
    rw [← hsz] at hp
    have hd : d'.size = L0.length := by have := hp.1; simpa using this
    obtain ⟨o1, o2⟩ := own_sorted (enc := fun x : {x : Fx // FxOk w g x} => encFx x.1) (k := 3) (fun _ => rfl) hown2 n os d' hd
    have hperm : (d'.toList.map (·.1)).Perm G := by rw [← hL0]; exact (permIn_all hp).map _
    refine ⟨rfl, d'.toList.map (·.1), hperm, ?_, ⟨?_, fun x hx => ?_⟩, o2⟩
    · rw [List.pairwise_map, List.pairwise_iff_getElem]
      intro i j hi hj hij
      have := hs i j (Nat.zero_le _) hij (by rw [← hlen, ← hd]; simpa using hj)
      rw [getElem!_pos d' j (by simpa using hj), getElem!_pos d' i (by simpa using hi)] at this
      simp only [Array.getElem_toList]
      have h3 := (ltFx (d'[j]'(by simpa using hj)).1 (d'[i]'(by simpa using hi)).1).symm.trans this
      exact of_decide_eq_false h3
    · rw [hperm.length_eq, ← hfl]; exact o1
    · have hx := hperm.mem_iff.1 hx
      refine ⟨(hown.row x hx).1.blocks sortK_size fun b hb => sortK_other ((hown.row x hx).2 b hb).1 fun e => ((hown.row x hx).2 b hb).2 (by rw [e]; rfl), fun b hb => ⟨Nat.lt_of_lt_of_le ((hown.row x hx).2 b hb).1 sortK_size, ((hown.row x hx).2 b hb).2⟩⟩
  · obtain rfl : G = [] := List.length_eq_zero_iff.1 (by omega)
    obtain ⟨A, cap, rfl⟩ : ∃ A cap, v = .slice A 0 cap := by
      rcases hown.own.2 with ⟨h, _⟩ | ⟨g, cap, cur, h, _⟩
      · exact ⟨_, _, h⟩
      · exact ⟨_, _, h⟩
    have hcon := AnyF.slices_SortFunc_none lay_sortFact A cap (.func (.func 76) #[] #[]) w
    change Calls Tryz.prog 75 _ _ _ at hcon
    refine hcon.mono ?_
    rintro e w' ⟨rfl, rfl⟩
    exact ⟨rfl, [], List.Perm.nil, List.Pairwise.nil, hown, Below.refl _ _⟩
end Go.Proofs.YtohjgegnamcnlaaGreat
