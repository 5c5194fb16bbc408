/- Law 42: index.Insert. -/
import Derived.Test.YtgdcgdjlhljbiaaIyI
namespace Go.Proofs.Ytgdcgdjlhljbiaa
open Go.RowKit

/-- What Insert answers: a tree's entries and one more, or an error. -/
def InsT (N : List Nd) (root : Int) (x : En) (w : World) (e : Ending) (w' : World) : Prop :=
  if treeB N root = false ∨ okSpan (x.1, x.2.1) = false then NoT 1 w e w' else if x ∈ entsT N root then NoT 8 w e w' else if N.length = 1000 then NoT 5 w e w' else ∃ M : List En, M.Pairwise enLt ∧ M.Perm (x :: entsT N root) ∧ MadeT M w e w'
section
variable {N : List Nd} {root p q y : Int} {w w' : World} {e : Ending}
theorem InsT_1 (h : treeB N root = false ∨ okSpan (p, q) = false) (hn : NoT 1 w e w') : InsT N root (p, q, y) w e w' := by unfold InsT; rw [if_pos h]; exact hn
theorem InsT_8 (h1 : treeB N root = true) (h2 : okSpan (p, q) = true) (h : (p, q, y) ∈ entsT N root) (hn : NoT 8 w e w') : InsT N root (p, q, y) w e w' := by
  unfold InsT
  rw [if_neg (by simp [h1, h2]), if_pos h]
  exact hn
theorem InsT_5 (h1 : treeB N root = true) (h2 : okSpan (p, q) = true) (h : (p, q, y) ∉ entsT N root) (h5 : N.length = 1000) (hn : NoT 5 w e w') : InsT N root (p, q, y) w e w' := by
  unfold InsT
  rw [if_neg (by simp [h1, h2]), if_neg h, if_pos h5]
  exact hn
theorem InsT_ok (h1 : treeB N root = true) (h2 : okSpan (p, q) = true) (h : (p, q, y) ∉ entsT N root) (h5 : N.length ≠ 1000) (hn : ∃ M : List En, M.Pairwise enLt ∧ M.Perm ((p, q, y) :: entsT N root) ∧ MadeT M w e w') : InsT N root (p, q, y) w e w' := by
  unfold InsT
  rw [if_neg (by simp [h1, h2]), if_neg h, if_neg h5]
  exact hn
end
theorem len_dec (L : List En) : (((L.length : Int) == 1000) = true ∧ Hid (L.length = 1000)) ∨ (((L.length : Int) == 1000) = false ∧ Hid (L.length ≠ 1000)) := by
  by_cases h : L.length = 1000
  · exact .inl ⟨by simp [h], Lib.hid h⟩
  · exact .inr ⟨by rw [beq_eq_false_iff_ne]; omega, Lib.hid h⟩
theorem ins_list {L : List En} {x : En} {k : Nat} (ho : L.Pairwise enLt) (hok : ∀ e ∈ L, okSpan (e.1, e.2.1) = true) (hx : okSpan (x.1, x.2.1) = true) (hl : L.length ≤ 1000) (hn : x ∉ L) (hk : IsBs L x k) :
    (L.take k ++ [x] ++ L.drop k).Pairwise enLt ∧ (L.take k ++ [x] ++ L.drop k).Perm (x :: L) ∧ (∀ e ∈ L.take k ++ [x] ++ L.drop k, okSpan (e.1, e.2.1) = true) ∧ (L.take k ++ [x] ++ L.drop k).length ≤ 100000 := by
  have hp : (L.take k ++ [x] ++ L.drop k).Perm (x :: L) := by
    have := List.perm_middle (l₁ := L.take k) (a := x) (l₂ := L.drop k)
    rw [List.take_append_drop] at this
    simpa using this
  refine ⟨?_, hp, fun e he => ?_, ?_⟩
  · have h0 := ho
    rw [← List.take_append_drop k L, List.pairwise_append] at h0
    obtain ⟨h1, h2, h3⟩ := h0
    rw [List.append_assoc, List.pairwise_append]
    have hlo : ∀ a ∈ L.take k, enLt a x := fun a ha => by
      obtain ⟨t, ht, rfl⟩ := List.mem_iff_getElem.1 ha
      rw [List.length_take] at ht
      rw [List.getElem_take, en_at]
      exact hk.lo t (by omega)
    have hhi : ∀ a ∈ L.drop k, enLt x a := fun a ha => by
      obtain ⟨t, ht, rfl⟩ := List.mem_iff_getElem.1 ha
      rw [List.length_drop] at ht
      rw [List.getElem_drop, en_at]
      rcases enLt_tri x (en L (k + t)) with h | h | h
      · exact h
      · exact absurd (by rw [h, ← en_at (show k + t < L.length by omega)]; exact List.getElem_mem _) hn
      · exact absurd h (hk.hi (k + t) (by omega) (by omega))
    refine ⟨h1, List.pairwise_cons.2 ⟨hhi, h2⟩, fun a ha b hb => ?_⟩
    rcases List.mem_cons.1 hb with rfl | hb
    · exact hlo a ha
    · exact h3 a ha b hb
  · rcases List.mem_cons.1 (hp.mem_iff.1 he) with rfl | h
    · exact hx
    · exact hok e h
  · rw [hp.length_eq]; simp; omega
set_option maxRecDepth 100000 in
set_option maxHeartbeats 4000000 in
theorem xInsert_c (v : Value) (root p q y : Int) (N : List Nd) (w : World) (hs : IsNodes w v N) : Calls Try.prog 34 #[.agg #[v, .int .i64 root], .agg #[.int .i64 p, .int .i64 q], .int .i64 y] w (InsT N root (p, q, y) w) := by
  obtain ⟨A, c, rfl, hnc, hc⟩ := hs.form
  have hB1 : Below w.heap.size w (((w.alloc (.cells #[.slice A N.length c, .int .i64 root] 24)).alloc (.cells #[.int .i64 p, .int .i64 q] 33)).alloc (.cells #[.slice none 0 0, .int .i64 0] 24)) := (((Below.refl _ _).alloc (Nat.le_refl _) _).alloc (by simp) _).alloc (by simp; omega) _
  have hbx := Box3.mk3 w (.slice A N.length c) root p q
  have HB1 := Lib.hid hB1; have Hbx := Lib.hid hbx; have Hs := Lib.hid hs
  have KV : Hid (∀ W, Below w.heap.size w W → Calls Try.prog 14 #[.agg #[.slice A N.length c, .int .i64 root]] W (Ret W (.bool (treeB N root)))) := Lib.hid fun W hb => xValid_c _ _ _ _ (hs.below hb)
  have KS : Hid (∀ W, Calls Try.prog 36 #[.agg #[.int .i64 p, .int .i64 q]] W (Ret W (.bool (okSpan (p, q))))) := Lib.hid fun W => ivValid_c p q W
  clear hB1 hbx hs
  cases ht : treeB N root
  · rw [ht] at KV
    have Ht := Lib.hid ht; clear ht
    go_enter Try.func34, Try.ntmps34
    go_wp2_with fail
    have hB := HB1.out; have hbx := Hbx.out
    generalize (((w.alloc (.cells #[.slice A N.length c, .int .i64 root] 24)).alloc (.cells #[.int .i64 p, .int .i64 q] 33)).alloc (.cells #[.slice none 0 0, .int .i64 0] 24)) = w1 at *
    refine (KV.out _ hB).mono ?_
    rintro e W ⟨rfl, hb⟩
    have hB := hB.trans (hb.mono hB.size); have hbx := hbx.below hb; clear hb; have t0 := hbx.t0; have t1 := hbx.t1; have s0 := hbx.s0; have s1 := hbx.s1; have r0 := hbx.r0; have r1 := hbx.r1; have f0 := hbx.f0; have f1 := hbx.f1; clear HB1 Hbx
    have HB2 := Lib.hid hB; have HX2 := Lib.hid hbx
    go_wp2_with fail
    have F := res_stored HX2.out.r (.slice none 0 0) (.int .i64 0)
    have F0 := blk_cell F 0
    have F1 := blk_cell F 1
    have hbF := (HB2.out.setCell (p := ⟨w.heap.size + 1 + 1, 0, none⟩) (by simp only; omega) (.slice none 0 0)).setCell (p := ⟨w.heap.size + 1 + 1, 1, none⟩) (by simp only; omega) (.int .i64 0)
    clear r0 r1 f0 f1 F
    generalize ((W.setCell ⟨w.heap.size + 1 + 1, 0, none⟩ (.slice none 0 0)).setCell ⟨w.heap.size + 1 + 1, 1, none⟩ (.int .i64 0)) = wF at *
    refine bodyPost_ret (by simp [results, Try.results34, go_sem, F0, F1]; try rfl) rfl ?_
    exact InsT_1 (.inl Ht.out) ⟨rfl, hbF⟩
  · rw [ht] at KV
    cases ho : okSpan (p, q)
    · rw [ho] at KS
      have Ho := Lib.hid ho; clear ho ht
      go_enter Try.func34, Try.ntmps34
      go_wp2_with fail
      have hB := HB1.out; have hbx := Hbx.out
      generalize (((w.alloc (.cells #[.slice A N.length c, .int .i64 root] 24)).alloc (.cells #[.int .i64 p, .int .i64 q] 33)).alloc (.cells #[.slice none 0 0, .int .i64 0] 24)) = w1 at *
      refine (KV.out _ hB).mono ?_
      rintro e W ⟨rfl, hb⟩
      have hB := hB.trans (hb.mono hB.size); have hbx := hbx.below hb; clear hb; have t0 := hbx.t0; have t1 := hbx.t1; have s0 := hbx.s0; have s1 := hbx.s1; have r0 := hbx.r0; have r1 := hbx.r1; have f0 := hbx.f0; have f1 := hbx.f1; clear HB1 Hbx
      go_wp2_with (go_at_call 36; (with_reducible refine (KS.out _).mono ?_); rintro e W ⟨rfl, hb⟩; have hB := hB.trans (hb.mono hB.size); have hbx := hbx.below hb; clear hb t0 t1 s0 s1 r0 r1 f0 f1; have t0 := hbx.t0; have t1 := hbx.t1; have s0 := hbx.s0; have s1 := hbx.s1; have r0 := hbx.r0; have r1 := hbx.r1; have f0 := hbx.f0; have f1 := hbx.f1; skip)
      have HB2 := Lib.hid hB; have HX2 := Lib.hid hbx
      go_wp2_with fail
      have F := res_stored HX2.out.r (.slice none 0 0) (.int .i64 0)
      have F0 := blk_cell F 0
      have F1 := blk_cell F 1
      have hbF := (HB2.out.setCell (p := ⟨w.heap.size + 1 + 1, 0, none⟩) (by simp only; omega) (.slice none 0 0)).setCell (p := ⟨w.heap.size + 1 + 1, 1, none⟩) (by simp only; omega) (.int .i64 0)
      clear r0 r1 f0 f1 F
      generalize ((W.setCell ⟨w.heap.size + 1 + 1, 0, none⟩ (.slice none 0 0)).setCell ⟨w.heap.size + 1 + 1, 1, none⟩ (.int .i64 0)) = wF at *
      refine bodyPost_ret (by simp [results, Try.results34, go_sem, F0, F1]; try rfl) rfl ?_
      exact InsT_1 (.inr Ho.out) ⟨rfl, hbF⟩
    · rw [ho] at KS
      obtain ⟨h1, h2⟩ := treeB_valid ht
      have hord := entsT_ord h2
      have hok := entsT_ok h2
      have hlen := entsT_len h2
      have KE : Hid (∀ W, Below w.heap.size w W → Calls Try.prog 64 #[.agg #[.slice A N.length c, .int .i64 root]] W (EntsRet 75 W.heap.size W W (entsT N root))) := Lib.hid fun W hb => xentries_t ht _ W (Hs.out.below hb)
      have Ht := Lib.hid ht; have Ho := Lib.hid ho; have Hord := Lib.hid hord; have Hok := Lib.hid hok; have Hlen := Lib.hid hlen; have H1 := Lib.hid h1
      clear ht ho hord hok hlen h1 h2
      obtain ⟨L, hL⟩ : ∃ L, L = entsT N root := ⟨_, rfl⟩
      rw [← hL] at KE Hord Hok Hlen
      have HL := Lib.hid hL; clear hL
      have KB : Hid (∀ W v, IsEnts W v L → Calls Try.prog 65 #[v, .agg #[.int .i64 p, .int .i64 q, .int .i64 y], .func (.func 52) #[] #[]] W (BsRet L (p, q, y) W)) := Lib.hid fun W v h => slBinEntry_c v L (p, q, y) W h Hord.out (by rw [Hlen.out]; have := H1.out; omega)
      have KI : Hid (∀ W v (k : Nat), OwnsE W (w.heap.size + 3) 75 v L → w.heap.size + 3 ≤ W.heap.size → k ≤ L.length → Calls Try.prog 67 #[v, .int .i64 (k : Int), .slice (some ⟨W.heap.size, 0, none⟩) 1 1] (W.alloc (.cells #[.int .i64 p, .int .i64 q, .int .i64 y] 75)) (InsE (w.heap.size + 3) (W.alloc (.cells #[.int .i64 p, .int .i64 q, .int .i64 y] 75)) L k (p, q, y))) := Lib.hid fun W v k h hz hk => slInsertEntry_c v L (p, q, y) _ _ (h.alloc _) W.heap.size (heap_alloc_new W _) (fun e => by have := (h.own _ e).2; omega) (by rw [Hlen.out]; have := H1.out; omega) (by simp; omega) k hk
      have KM : Hid (∀ (k : Nat), (p, q, y) ∉ L → IsBs L (p, q, y) k → (L.take k ++ [(p, q, y)] ++ L.drop k).Pairwise enLt ∧ (L.take k ++ [(p, q, y)] ++ L.drop k).Perm ((p, q, y) :: L) ∧ (∀ e ∈ L.take k ++ [(p, q, y)] ++ L.drop k, okSpan (e.1, e.2.1) = true) ∧ (L.take k ++ [(p, q, y)] ++ L.drop k).length ≤ 100000) := Lib.hid fun k h1 h2 => ins_list Hord.out Hok.out Ho.out (by rw [Hlen.out]; have := H1.out; omega) h1 h2
      go_enter Try.func34, Try.ntmps34
      go_wp2_with fail
      have hB := HB1.out; have hbx := Hbx.out
      generalize (((w.alloc (.cells #[.slice A N.length c, .int .i64 root] 24)).alloc (.cells #[.int .i64 p, .int .i64 q] 33)).alloc (.cells #[.slice none 0 0, .int .i64 0] 24)) = w1 at *
      refine (KV.out _ hB).mono ?_
      rintro e W ⟨rfl, hb⟩
      have hB := hB.trans (hb.mono hB.size); have hbx := hbx.below hb; clear hb; have t0 := hbx.t0; have t1 := hbx.t1; have s0 := hbx.s0; have s1 := hbx.s1; have r0 := hbx.r0; have r1 := hbx.r1; have f0 := hbx.f0; have f1 := hbx.f1; clear HB1 Hbx
      go_wp2_with (first
        | (go_at_call 64; (with_reducible refine (KE.out _ hB).mono ?_); rintro e We ⟨vl, rfl, hol, _, hb⟩; have hol := hol.mono (Nat.succ_le_of_lt (lt_of_block hbx.r)); have hB := hB.trans (hb.mono hB.size); have hbx := hbx.below hb; obtain ⟨Al, cl, rfl, _, _⟩ := hol.ents.form; clear hb t0 t1 s0 s1 r0 r1 f0 f1; have t0 := hbx.t0; have t1 := hbx.t1; have s0 := hbx.s0; have s1 := hbx.s1; have r0 := hbx.r0; have r1 := hbx.r1; have f0 := hbx.f0; have f1 := hbx.f1; have Hol := Lib.hid hol; clear hol)
        | (go_at_call 36; (with_reducible refine (KS.out _).mono ?_); rintro e W ⟨rfl, hb⟩; have hB := hB.trans (hb.mono hB.size); have hbx := hbx.below hb; clear hb t0 t1 s0 s1 r0 r1 f0 f1; have t0 := hbx.t0; have t1 := hbx.t1; have s0 := hbx.s0; have s1 := hbx.s1; have r0 := hbx.r0; have r1 := hbx.r1; have f0 := hbx.f0; have f1 := hbx.f1; skip)
        | (go_at_call 65; (with_reducible refine (KB.out _ _ (OwnsE.alloc Hol.out _).ents).mono ?_); rintro e W ⟨k, hk, rfl, hb⟩; have hX := (hb.block _ (by simp)).trans (heap_alloc_new We (.cells #[.int .i64 p, .int .i64 q, .int .i64 y] 75)); have hB := (hB.alloc hB.size (.cells #[.int .i64 p, .int .i64 q, .int .i64 y] 75)).trans (hb.mono (hB.alloc hB.size (.cells #[.int .i64 p, .int .i64 q, .int .i64 y] 75)).size); have hbx := (hbx.below ((Below.refl We.heap.size We).alloc (Nat.le_refl _) (.cells #[.int .i64 p, .int .i64 q, .int .i64 y] 75))).below hb; have Hol := Lib.hid ((OwnsE.alloc Hol.out (.cells #[.int .i64 p, .int .i64 q, .int .i64 y] 75)).below hb); clear hb t0 t1 s0 s1 r0 r1 f0 f1; have t0 := hbx.t0; have t1 := hbx.t1; have s0 := hbx.s0; have s1 := hbx.s1; have r0 := hbx.r0; have r1 := hbx.r1; have f0 := hbx.f0; have f1 := hbx.f1; have x0 := blk_cell hX 0; have x1 := blk_cell hX 1; have x2 := blk_cell hX 2; simp at x0 x1 x2; clear hX; have hkl := hk.le; have hLl : L.length ≤ 1000 := (by rw [Hlen.out]; exact H1.out); rcases bs_dec Hord.out hk with ⟨hd, Hn⟩ | ⟨hd, hk1, Hn⟩ <;> rw [hd] <;> clear hd hk <;> rcases len_dec L with ⟨hd1, Hd⟩ | ⟨hd1, Hd⟩)
        | (go_at_call 67; (with_reducible refine (KI.out _ _ _ Hol.out (Nat.succ_le_of_lt (lt_of_block hbx.r)) hkl).mono ?_); rintro e Wd ⟨vd, rfl, hod, hb⟩; have hB := (hB.alloc hB.size (.cells #[.int .i64 p, .int .i64 q, .int .i64 y] 75)).trans (hb.mono (Nat.le_add_right _ _)); have hbx := (hbx.below ((Below.refl W.heap.size W).alloc (Nat.le_refl _) (.cells #[.int .i64 p, .int .i64 q, .int .i64 y] 75))).belowB hb (Nat.le_refl _); have Hod := Lib.hid hod; clear hb hod t0 t1 s0 s1 r0 r1 f0 f1; have t0 := hbx.t0; have t1 := hbx.t1; have s0 := hbx.s0; have s1 := hbx.s1; have r0 := hbx.r0; have r1 := hbx.r1; have f0 := hbx.f0; have f1 := hbx.f1; skip)
        | (go_at_call 53; have hm := KM.out k Hn.out.1 Hn.out.2; (with_reducible refine (xbuilt_c _ _ _ Hod.out.ents hm.2.2.1 hm.2.2.2).mono ?_); clear hm; rintro e W ⟨A9, c9, N9, r9, rfl, hg9, ho9, hb⟩; have hz9 := lt_of_block hbx.r; have hB := hB.trans (hb.mono hB.size); have hbx := hbx.below hb; have Ho9 := Lib.hid ho9; have Hg9 := Lib.hid hg9; clear hb ho9 hg9 t0 t1 s0 s1 r0 r1 f0 f1; have t0 := hbx.t0; have t1 := hbx.t1; have s0 := hbx.s0; have s1 := hbx.s1; have r0 := hbx.r0; have r1 := hbx.r1; have f0 := hbx.f0; have f1 := hbx.f1; skip)
        | fail)
      · have HB2 := Lib.hid hB; have HX2 := Lib.hid hbx
        go_wp2_with fail
        have F := res_stored HX2.out.r (.slice none 0 0) (.int .i64 0)
        have F0 := blk_cell F 0
        have F1 := blk_cell F 1
        have hbF := (HB2.out.setCell (p := ⟨w.heap.size + 1 + 1, 0, none⟩) (by simp only; omega) (.slice none 0 0)).setCell (p := ⟨w.heap.size + 1 + 1, 1, none⟩) (by simp only; omega) (.int .i64 0)
        clear r0 r1 f0 f1 F
        generalize ((W.setCell ⟨w.heap.size + 1 + 1, 0, none⟩ (.slice none 0 0)).setCell ⟨w.heap.size + 1 + 1, 1, none⟩ (.int .i64 0)) = wF at *
        refine bodyPost_ret (by simp [results, Try.results34, go_sem, F0, F1]; try rfl) rfl ?_
        exact InsT_5 Ht.out Ho.out (HL.out ▸ Hn.out.1) (by rw [← Hlen.out]; exact Hd.out) ⟨rfl, hbF⟩
      · have HB2 := Lib.hid hB; have HX2 := Lib.hid hbx
        go_wp2_with fail
        have F := res_stored HX2.out.r (.slice A9 N9.length c9) (.int .i64 r9)
        have F0 := blk_cell F 0
        have F1 := blk_cell F 1
        have hbF := (HB2.out.setCell (p := ⟨w.heap.size + 1 + 1, 0, none⟩) (by simp only; omega) (.slice A9 N9.length c9)).setCell (p := ⟨w.heap.size + 1 + 1, 1, none⟩) (by simp only; omega) (.int .i64 r9)
        have hoF := (Ho9.out.res (.slice A9 N9.length c9) (.int .i64 r9) (show w.heap.size + 1 + 1 < Wd.heap.size by omega)).mono (show w.heap.size ≤ Wd.heap.size by omega)
        clear r0 r1 f0 f1 F
        generalize ((W.setCell ⟨w.heap.size + 1 + 1, 0, none⟩ (.slice A9 N9.length c9)).setCell ⟨w.heap.size + 1 + 1, 1, none⟩ (.int .i64 r9)) = wF at *
        refine bodyPost_ret (by simp [results, Try.results34, go_sem, F0, F1]; try rfl) rfl ?_
        exact InsT_ok Ht.out Ho.out (HL.out ▸ Hn.out.1) (by rw [← Hlen.out]; exact Hd.out) ⟨_, (KM.out k Hn.out.1 Hn.out.2).1, HL.out ▸ (KM.out k Hn.out.1 Hn.out.2).2.1, A9, c9, N9, r9, rfl, Hg9.out, hoF, hbF⟩
      · have HB2 := Lib.hid hB; have HX2 := Lib.hid hbx
        go_wp2_with fail
        have F := res_stored HX2.out.r (.slice none 0 0) (.int .i64 0)
        have F0 := blk_cell F 0
        have F1 := blk_cell F 1
        have hbF := (HB2.out.setCell (p := ⟨w.heap.size + 1 + 1, 0, none⟩) (by simp only; omega) (.slice none 0 0)).setCell (p := ⟨w.heap.size + 1 + 1, 1, none⟩) (by simp only; omega) (.int .i64 0)
        clear r0 r1 f0 f1 F
        generalize ((W.setCell ⟨w.heap.size + 1 + 1, 0, none⟩ (.slice none 0 0)).setCell ⟨w.heap.size + 1 + 1, 1, none⟩ (.int .i64 0)) = wF at *
        refine bodyPost_ret (by simp [results, Try.results34, go_sem, F0, F1]; try rfl) rfl ?_
        exact InsT_8 Ht.out Ho.out (HL.out ▸ Hn.out.1) ⟨rfl, hbF⟩
      · have HB2 := Lib.hid hB; have HX2 := Lib.hid hbx
        go_wp2_with fail
        have F := res_stored HX2.out.r (.slice none 0 0) (.int .i64 0)
        have F0 := blk_cell F 0
        have F1 := blk_cell F 1
        have hbF := (HB2.out.setCell (p := ⟨w.heap.size + 1 + 1, 0, none⟩) (by simp only; omega) (.slice none 0 0)).setCell (p := ⟨w.heap.size + 1 + 1, 1, none⟩) (by simp only; omega) (.int .i64 0)
        clear r0 r1 f0 f1 F
        generalize ((W.setCell ⟨w.heap.size + 1 + 1, 0, none⟩ (.slice none 0 0)).setCell ⟨w.heap.size + 1 + 1, 1, none⟩ (.int .i64 0)) = wF at *
        refine bodyPost_ret (by simp [results, Try.results34, go_sem, F0, F1]; try rfl) rfl ?_
        exact InsT_8 Ht.out Ho.out (HL.out ▸ Hn.out.1) ⟨rfl, hbF⟩

end Go.Proofs.Ytgdcgdjlhljbiaa
