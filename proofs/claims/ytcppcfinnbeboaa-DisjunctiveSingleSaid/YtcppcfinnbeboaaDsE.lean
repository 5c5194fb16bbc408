/- Law 47: sort.SliceStable at choices: a permutation of them. -/
import Derived.Test.YtcppcfinnbeboaaDsD
import Derived.Test.YtcppcfinnbeboaaLayS
import Derived.Test.YtcppcfinnbeboaaDkI
import Derived.Test.YtcppcfinnbeboaaDjV
import Derived.Shelf.GgSortFunc.SmallK
namespace Go.Proofs.Ytcppcfinnbeboaa
open Go.RowKit Go.Shelf Go.Lib Go.Sort

noncomputable def chT : TypeInfo := (Try.prog.info? 22).get (by kernel_rfl)
noncomputable def chE : TypeInfo := (Try.prog.info? 36).get (by kernel_rfl)
theorem chK (n : Nat) (h2 : 2 ≤ n) : Lib.swapperK n chE 25 = 9 := by
  have a : chE.hasPointers = true := by kernel_rfl
  have b : chE.bytes = 40 := by kernel_rfl
  have c : (n == 0) = false := by simp; omega
  have d : (n == 1) = false := by simp; omega
  simp [Lib.swapperK, a, b, c, d]
/-- A choice as the row holds it. -/
abbrev ChV := Int × Int × Option Addr × Nat × Nat
def encV (x : ChV) : List Value := [.int .i64 x.1, .int .i64 x.2.1, .slice x.2.2.1 x.2.2.2.1 x.2.2.2.2]
theorem enc_len (x : ChV) : (encV x).length = 3 := rfl
theorem enc_one (x : ChV) : ∀ v ∈ encV x, v.oneCell' = true := by
  intro v hv
  unfold encV at hv
  simp only [List.mem_cons, List.not_mem_nil, or_false] at hv
  rcases hv with rfl | rfl | rfl <;> rfl
def partsV : Value → Option Addr × Nat × Nat
  | .slice a n c => (a, n, c)
  | _ => (none, 0, 0)
def rowV (L : List Cho) (S : Nat → Value) : Array ChV := ((List.range L.length).map fun i => ((cho L i).1, (cho L i).2.1, partsV (S i))).toArray
theorem rowV_size (L : List Cho) (S : Nat → Value) : (rowV L S).size = L.length := by unfold rowV; simp
theorem rowV_get (L : List Cho) (S : Nat → Value) {i : Nat} (hi : i < L.length) : (rowV L S)[i]! = ((cho L i).1, (cho L i).2.1, partsV (S i)) := by
  unfold rowV
  rw [getElem!_pos _ _ (by simpa using hi)]
  simp
theorem below_grow47 (w : World) (os : Array Obj) : Below w.heap.size w (Sort.grow w os) := by
  refine ⟨rfl, rfl, rfl, ?_, fun b hb => ?_⟩
  · rw [size_grow]; omega
  · show (w.heap ++ os)[b]? = w.heap[b]?
    rw [Array.getElem?_append_left hb]
/-- What the sort keeps: the row holds a permutation; the box of its slice. -/
structure SrtI (Z : Value → List Sp → Prop) (L0 : List Cho) (base g B c : Nat) (W : World) : Prop where
  row : ∃ L S, L.Perm L0 ∧ ChosAt W g L S ∧ ∀ i, i < L.length → Z (S i) (cho L i).2.2
  box : W.heap[B]? = some (.cells #[.slice (some ⟨g, 0, none⟩) L0.length c] 22 (0, 0))
  hB : B ≠ g
  hb : base ≤ W.heap.size
  hg : base ≤ g
theorem SrtI.below {Z : Value → List Sp → Prop} {L0 : List Cho} {base g B c : Nat} {W W' : World} (h : SrtI Z L0 base g B c W) (hb : Below W.heap.size W W') : SrtI Z L0 base g B c W' := by
  obtain ⟨⟨L, S, h1, h2, hz⟩, h3, h4, h5, h6⟩ := h
  exact ⟨⟨L, S, h1, h2.below hb, hz⟩, (hb.block _ (blk_lt h3)).trans h3, h4, Nat.le_trans h5 hb.size, h6⟩
theorem spans_slice {w : World} {v : Value} {l : List Sp} (h : IsSpans w v l) : v = .slice (partsV v).1 l.length (partsV v).2.2 ∧ (partsV v).2.1 = l.length := by
  obtain ⟨A, c, rfl, _, _⟩ := h.form
  exact ⟨rfl, rfl⟩
set_option maxRecDepth 100000 in
theorem djsearch1_c (Z : Value → List Sp → Prop) (L0 : List Cho) (base g B c i j : Nat) (W : World) (hI : SrtI Z L0 base g B c W) (hi : i < L0.length) (hj : j < L0.length) : Calls Try.prog 78 #[.int .i64 (i : Int), .int .i64 (j : Int), .pointer (some ⟨B, 0, none⟩)] W (LessRet base g (SrtI Z L0 base g B c) W) := by
  obtain ⟨⟨L, S, h1, h2, _⟩, h3, _, h5, _⟩ := id hI
  have hl := h1.length_eq
  have HI : Hid (∀ q, SrtI Z L0 base g B c (W.drewN q)) := Lib.hid fun q => hI.below (below_dnL (Below.refl _ _) q)
  have HK : Hid (∀ q, Kp base g W (W.drewN q)) := Lib.hid fun q => Kp.of (below_dnL (Below.refl _ _) q) h5
  have b0 := blk_get h3 0
  simp only [List.getElem?_toArray, List.getElem?_cons_zero] at b0
  have ci := h2.c2 i (by omega)
  have cj := h2.c2 j (by omega)
  obtain ⟨Ai, ki, hei, _, _⟩ := (h2.spans i (by omega)).form
  obtain ⟨Aj, kj, hej, _, _⟩ := (h2.spans j (by omega)).form
  rw [hei] at ci
  rw [hej] at cj
  have i0 : (i : Int) < (L0.length : Int) := by omega
  have i1 : (0 : Int) ≤ (i : Int) := by omega
  have j0 : (j : Int) < (L0.length : Int) := by omega
  have j1 : (0 : Int) ≤ (j : Int) := by omega
  clear hI h1 h2 h3 h5 hl hei hej hi hj
  go_enter Try.func78, Try.ntmps78
  go_wp2_with fail
  go_quiet (fail)
  go_wp2_with fail
  go_ret
  exact ⟨_, rfl, HI.out _, HK.out _⟩
theorem cho_set (L : List Cho) (i : Nat) (x : Cho) (k : Nat) (hi : i < L.length) : cho (L.set i x) k = if k = i then x else cho L k := by
  unfold cho
  rw [List.getD_eq_getElem?_getD, List.getElem?_set]
  by_cases e : k = i
  · subst e
    rw [if_pos rfl, if_pos rfl, if_pos hi]
    rfl
  · rw [if_neg (fun h => e h.symm), if_neg e, List.getD_eq_getElem?_getD]
def swpL (L : List Cho) (i j : Nat) : List Cho := (L.set i (cho L j)).set j (cho L i)
def swpS (S : Nat → Value) (i j k : Nat) : Value := if k = j then S i else if k = i then S j else S k
theorem swpL_get (L : List Cho) (i j k : Nat) (hi : i < L.length) (hj : j < L.length) : cho (swpL L i j) k = if k = j then cho L i else if k = i then cho L j else cho L k := by
  unfold swpL
  rw [cho_set _ _ _ _ (by simpa using hj), cho_set _ _ _ _ hi]
theorem swpL_perm (L : List Cho) (i j : Nat) (hi : i < L.length) (hj : j < L.length) : (swpL L i j).Perm L := by
  unfold swpL
  rw [← cho_at hi, ← cho_at hj]
  exact List.set_set_perm hi hj
theorem setCells_oth (W : World) (g : Nat) : ∀ (vs : List Value) (o k : Nat), k ≠ g → (W.setCells g o vs).heap[k]? = W.heap[k]? := by
  intro vs
  induction vs generalizing W with
  | nil => intro o k _; rfl
  | cons v vs ih =>
    intro o k hk
    show ((W.setCell ⟨g, o, none⟩ v).setCells g (o + 1) vs).heap[k]? = _
    rw [ih _ _ _ hk, blk_oth hk]
theorem setCells_blk47 {g : Nat} {t : TypeId} : ∀ (vs : List Value) (o : Nat) (W : World) (cs : Array Value), W.heap[g]? = some (.cells cs t (0, 0)) → ∃ cs', (W.setCells g o vs).heap[g]? = some (.cells cs' t (0, 0)) ∧ cs'.size = cs.size ∧ ∀ k, k < cs.size → cs'[k]? = if o ≤ k ∧ k < o + vs.length then vs[k - o]? else cs[k]?
  | [], o, W, cs, h => ⟨cs, h, rfl, fun k _ => by rw [if_neg (by simp)]⟩
  | v :: vs, o, W, cs, h => by
    obtain ⟨cs', h1, h2, h3⟩ := setCells_blk47 vs (o + 1) (W.setCell ⟨g, o, none⟩ v) _ (blk_set h o v)
    refine ⟨cs', h1, by rw [h2]; simp, fun k hk => ?_⟩
    rw [h3 k (by simpa using hk)]
    by_cases e : o + 1 ≤ k ∧ k < o + 1 + vs.length
    · rw [if_pos e, if_pos (by rw [List.length_cons]; omega), show k - o = (k - (o + 1)) + 1 from by omega]
      rfl
    · rw [if_neg e, Array.getElem?_setIfInBounds]
      by_cases e2 : o = k
      · subst e2
        rw [if_pos rfl, if_pos hk, if_pos (by simp), Nat.sub_self]
        rfl
      · rw [if_neg e2, if_neg (by simp; omega)]
/-- The two stores of a swap. -/
theorem ChosAt.swap {W : World} {g : Nat} {L : List Cho} {S : Nat → Value} (h : ChosAt W g L S) (i j : Nat) (hi : i < L.length) (hj : j < L.length) :
    ChosAt ((W.setCells g (0 + i * 3) [.int .i64 (cho L j).1, .int .i64 (cho L j).2.1, S j]).setCells g (0 + j * 3) [.int .i64 (cho L i).1, .int .i64 (cho L i).2.1, S i]) g (swpL L i j) (swpS S i j) := by
  obtain ⟨⟨cs, h1, h2⟩, h3, h4⟩ := h
  obtain ⟨c1, a1, a2, a3⟩ := setCells_blk47 [.int .i64 (cho L j).1, .int .i64 (cho L j).2.1, S j] (0 + i * 3) W cs h1
  obtain ⟨c2, b1, b2, b3⟩ := setCells_blk47 [.int .i64 (cho L i).1, .int .i64 (cho L i).2.1, S i] (0 + j * 3) _ c1 a1
  have hlen : (swpL L i j).length = L.length := (swpL_perm L i j hi hj).length_eq
  have hsz : ∀ (V : World) (o : Nat) (vs : List Value), (V.setCells g o vs).heap.size = V.heap.size := fun V o vs => by
    induction vs generalizing V o with
    | nil => rfl
    | cons v vs ih =>
      show ((V.setCell ⟨g, o, none⟩ v).setCells g (o + 1) vs).heap.size = _
      rw [ih]
      simp [World.setCell]
  refine ⟨⟨c2, b1, fun k q hk hq => ?_⟩, fun k hk => ?_, fun k hk => ?_⟩
  · rw [hlen] at hk
    have hcs : k * 3 + q < cs.size := (Array.getElem?_eq_some_iff.1 (h2 k q hk hq)).1
    rw [b3 _ (by omega)]
    unfold choCell
    rw [swpL_get L i j k hi hj]
    by_cases e : k = j
    · subst e
      rw [if_pos (by simp; omega), show k * 3 + q - (0 + k * 3) = q from by omega, if_pos rfl]
      unfold swpS
      rw [if_pos rfl]
      rcases (by omega : q = 0 ∨ q = 1 ∨ q = 2) with rfl | rfl | rfl <;> rfl
    · rw [if_neg (by simp; omega), a3 _ hcs]
      by_cases e2 : k = i
      · subst e2
        rw [if_pos (by simp; omega), show k * 3 + q - (0 + k * 3) = q from by omega, if_neg e, if_pos rfl]
        unfold swpS
        rw [if_neg e, if_pos rfl]
        rcases (by omega : q = 0 ∨ q = 1 ∨ q = 2) with rfl | rfl | rfl <;> rfl
      · rw [if_neg (by simp; omega), if_neg e, if_neg e2, h2 k q hk hq]
        unfold choCell swpS
        rw [if_neg e, if_neg e2]
  · rw [hlen] at hk
    rw [swpL_get L i j k hi hj]
    have hkeep : ∀ x, x < L.length → IsSpans ((W.setCells g (0 + i * 3) [.int .i64 (cho L j).1, .int .i64 (cho L j).2.1, S j]).setCells g (0 + j * 3) [.int .i64 (cho L i).1, .int .i64 (cho L i).2.1, S i]) (S x) (cho L x).2.2 := fun x hx => (h3 x hx).blocks (by rw [hsz, hsz]; exact Nat.le_refl _) fun b hb => by
      have hne : b ≠ g := fun e => h4 x hx (by rw [hb, e])
      rw [setCells_oth _ _ _ _ _ hne, setCells_oth _ _ _ _ _ hne]
    unfold swpS
    by_cases e : k = j
    · rw [if_pos e, if_pos e]; exact hkeep i hi
    · rw [if_neg e, if_neg e]
      by_cases e2 : k = i
      · rw [if_pos e2, if_pos e2]; exact hkeep j hj
      · rw [if_neg e2, if_neg e2]; exact hkeep k hk
  · rw [hlen] at hk
    unfold swpS
    split
    · exact h4 i hi
    · split
      · exact h4 j hj
      · exact h4 k hk
theorem rlSwap_run (n g c : Nat) : SwapSwapsK Try.prog 115 #[.slice (some ⟨g, 0, none⟩) n c, typeHandle Try.prog 36] encV 3 g 0 n :=
  swapSwapsK_of_literal false 115 (fun args W => run_callFunc_extern Try.func115 (by kernel_rfl) (by kernel_rfl) (by kernel_rfl) (e := Extern.ReflectliteSwapper.swap false) (by kernel_rfl) args W) 36 chE (by kernel_rfl) encV 3 enc_len (by kernel_rfl) (fun _ => by kernel_rfl) enc_one g 0 n c
theorem srt_holds {L : List Cho} {S : Nat → Value} {W : World} {g : Nat} (h : ChosAt W g L S) : HoldsK encV 3 W g 0 (rowV L S) := by
  intro k hk
  rw [size_flatK, rowV_size] at hk
  rw [get_flatK encV 3 (rowV L S) k (by rw [rowV_size]; exact hk), rowV_get L S (by omega)]
  have hc := h.cell (k / 3) (k % 3) (by omega) (by omega)
  rw [show k / 3 * 3 + k % 3 = k from by omega] at hc
  refine ⟨?_, h.soft _⟩
  rw [Nat.zero_add]
  refine hc.trans ?_
  obtain ⟨e1, e2⟩ := spans_slice (h.spans (k / 3) (by omega))
  unfold choCell encV
  have hm : k % 3 < 3 := Nat.mod_lt _ (by omega)
  generalize k % 3 = q at *
  generalize k / 3 = r at *
  rcases (by omega : q = 0 ∨ q = 1 ∨ q = 2) with rfl | rfl | rfl
  · rfl
  · rfl
  · simp only [if_true, id]
    rw [e1]
    simp [partsV]
theorem srt_env (Z : Value → List Sp → Prop) (L0 : List Cho) (base g B c : Nat) : SEnv base g L0.length (.pointer (some ⟨B, 0, none⟩)) (.slice (some ⟨g, 0, none⟩) L0.length c) (typeHandle Try.prog 36) 115 (SrtI Z L0 base g B c) where
  keep := fun W W' h hb => h.below hb
  lt := fun W h => by
    obtain ⟨⟨L, S, h1, h2, _⟩, h3, h4, h5, h6⟩ := h
    exact ⟨h2.lt, h5⟩
  less := fun W i j hi hj h => djsearch1_c Z L0 base g B c i j W h hi hj
  swap := fun W i j hi hj h => by
    obtain ⟨⟨L, S, h1, h2, hz⟩, h3, h4, h5, h6⟩ := h
    have hl := h1.length_eq
    have hr := rlSwap_run L0.length g c W (rowV L S) (srt_holds h2) (by rw [rowV_size, hl]) i j hi hj
    rw [rowV_get L S (by omega), rowV_get L S (by omega)] at hr
    have ei := (spans_slice (h2.spans i (by omega))).1
    have ej := (spans_slice (h2.spans j (by omega))).1
    have fi := (spans_slice (h2.spans i (by omega))).2
    have fj := (spans_slice (h2.spans j (by omega))).2
    have gi : (.slice (partsV (S i)).1 (partsV (S i)).2.1 (partsV (S i)).2.2 : Value) = S i := by rw [fi]; exact ei.symm
    have gj : (.slice (partsV (S j)).1 (partsV (S j)).2.1 (partsV (S j)).2.2 : Value) = S j := by rw [fj]; exact ej.symm
    unfold encV at hr
    simp only [gi, gj] at hr
    have hsw := h2.swap i j (by omega) (by omega)
    have hzs : ∀ k, k < (swpL L i j).length → Z (swpS S i j k) (cho (swpL L i j) k).2.2 := fun k hk => by
      rw [show (swpL L i j).length = L.length from by unfold swpL; simp] at hk
      rw [swpL_get L i j k (by omega) (by omega)]
      unfold swpS
      by_cases e : k = j
      · rw [if_pos e, if_pos e]; exact hz i (by omega)
      · rw [if_neg e, if_neg e]
        by_cases e2 : k = i
        · rw [if_pos e2, if_pos e2]; exact hz j (by omega)
        · rw [if_neg e2, if_neg e2]; exact hz k hk
    refine ⟨_, hr, ⟨⟨_, _, (swpL_perm L i j (by omega) (by omega)).trans h1, hsw, hzs⟩, ?_, h4, ?_, h6⟩, ⟨?_, fun b _ hne => ?_⟩⟩
    · rw [setCells_oth _ _ _ _ _ h4, setCells_oth _ _ _ _ _ h4]; exact h3
    · have hb := dj_belowSet (a := W) h6 [.int .i64 (cho L i).1, .int .i64 (cho L i).2.1, S i] (0 + j * 3) _ (dj_belowSet (a := W) h6 [.int .i64 (cho L j).1, .int .i64 (cho L j).2.1, S j] (0 + i * 3) W (Below.refl _ _))
      exact Nat.le_trans h5 hb.size
    · exact dj_belowSet (a := W) h6 _ _ _ (dj_belowSet (a := W) h6 _ _ W (Below.refl _ _))
    · rw [setCells_oth _ _ _ _ _ hne, setCells_oth _ _ _ _ _ hne]
set_option maxRecDepth 100000 in
theorem slStable_c (Z : Value → List Sp → Prop) (L0 : List Cho) (base g B c : Nat) (w : World) (h2 : 2 ≤ L0.length) (hn : L0.length ≤ 1000) (hI : SrtI Z L0 base g B c w) : Calls Try.prog 77 #[.iface 22 (.slice (some ⟨g, 0, none⟩) L0.length c), .func (.func 78) #[] #[.pointer (some ⟨B, 0, none⟩)]] w (SoRet base g (SrtI Z L0 base g B c) w) := by
  have hs := soStable_c (srt_env Z L0 base g B c) hn
  have hz : sliceBound Try.prog 36 chE 25 (some ⟨g, 0, none⟩) L0.length c = #[.slice (some ⟨g, 0, none⟩) L0.length c, typeHandle Try.prog 36] := by
    unfold sliceBound
    rw [chK _ h2, if_neg (by decide)]
  have hSt := Any.sort_SliceStable_of_stable lay_sliceStable 22 36 chT chE (by kernel_rfl) (by kernel_rfl) (by kernel_rfl) (by kernel_rfl) 25 (fun _ => by kernel_rfl) (some ⟨g, 0, none⟩) L0.length c (by omega) 115 (by rw [chK _ h2]; kernel_rfl) (.func 78) #[] #[.pointer (some ⟨B, 0, none⟩)] w (fun w' => SrtI Z L0 base g B c w' ∧ Kp base g w w') (by
    rw [hz]
    have hb : Below w.heap.size w (stableWorld Try.prog lay_sliceStable_ren 22 (some ⟨g, 0, none⟩) L0.length c w) := by
      unfold stableWorld
      exact ((Below.refl _ _).alloc (Nat.le_refl _) _).alloc (by simp) _
    refine (hs _ (hI.below hb)).mono ?_
    rintro e w' ⟨rfl, h3, h4⟩
    exact ⟨rfl, h3, (Kp.of hb hI.hb).trans h4⟩)
  exact hSt.mono fun e w' h => ⟨h.1, h.2.1, h.2.2⟩
set_option maxRecDepth 100000 in
theorem slStable_tiny (A : Option Addr) (n c B : Nat) (w : World) (hn : n ≤ 1) : Calls Try.prog 77 #[.iface 22 (.slice A n c), .func (.func 78) #[] #[.pointer (some ⟨B, 0, none⟩)]] w (fun e w' => e = .returned (.tuple #[]) ∧ Below w.heap.size w w') := by
  have key : ∀ f, Try.prog.funcs.findIdx? (·.name == "internal/reflectlite" ++ ".Swapper$" ++ toString (swapperK n chE 25)) = some f → Calls Try.prog 77 #[.iface 22 (.slice A n c), .func (.func 78) #[] #[.pointer (some ⟨B, 0, none⟩)]] w (fun e w' => e = .returned (.tuple #[]) ∧ Below w.heap.size w w') := fun f hf =>
    (Any.sort_SliceStable_tiny lay_sliceStable 22 36 chT chE (by kernel_rfl) (by kernel_rfl) (by kernel_rfl) (by kernel_rfl) 25 (fun _ => by kernel_rfl) A n c hn f hf (.func 78) #[] #[.pointer (some ⟨B, 0, none⟩)] w).mono fun e w' ⟨h1, os, h2⟩ => ⟨h1, by rw [h2]; exact below_grow47 w os⟩
  rcases (by omega : n = 0 ∨ n = 1) with rfl | rfl
  · exact key 107 (by kernel_rfl)
  · exact key 108 (by kernel_rfl)
end Go.Proofs.Ytcppcfinnbeboaa
