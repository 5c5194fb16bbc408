/- Law 42: index.overlapping, Stab and Overlap. -/
import Derived.Test.YtgdcgdjlhljbiaaIdxD
import Derived.Test.YtgdcgdjlhljbiaaIdxG
import Derived.Test.YtgdcgdjlhljbiaaPre
import Derived.StillTailTactics
namespace Go.Proofs.Ytgdcgdjlhljbiaa
open Go.RowKit

/-! ### plain -/
def ovB (a b : Int) (e : En) : Bool := decide (e.1 < b) && decide (a < e.2.1)
def overs (a b : Int) (l : List En) : List Int := (l.filter (ovB a b)).map (·.2.2)
theorem overs_append (a b : Int) (l m : List En) : overs a b (l ++ m) = overs a b l ++ overs a b m := by simp [overs]
theorem overs_len (a b : Int) (l : List En) : (overs a b l).length ≤ l.length := by
  unfold overs; rw [List.length_map]; exact List.length_filter_le _ _
theorem overs_none {a b : Int} {l : List En} (h : ∀ e ∈ l, ovB a b e = false) : overs a b l = [] := by
  unfold overs
  rw [List.map_eq_nil_iff, List.filter_eq_nil_iff]
  intro e he
  rw [h e he]
  exact Bool.false_ne_true
theorem sub_most {N : List Nd} {i : Int} {L : List Nat} {h m : Int} (hs : Sub N i L h m) : ∀ j ∈ L, (nd N j).t ≤ m := by
  induction hs with
  | nil => intro j hj; cases hj
  | @node k L R a b x y hk h1 h2 h3 h4 h5 h6 h7 ih1 ih2 =>
    intro j hj
    rw [List.append_assoc, List.mem_append, List.mem_append, List.mem_singleton] at hj
    rcases hj with hj | rfl | hj
    · have := ih1 j hj; omega
    · omega
    · have := ih2 j hj; omega
theorem over_low {N : List Nd} {i : Int} {L : List Nat} {h m a b : Int} (hs : Sub N i L h m) (hm : m ≤ a) : overs a b (entsOf N L) = [] := by
  refine overs_none fun e he => ?_
  obtain ⟨j, hj, rfl⟩ := List.mem_map.1 he
  have := sub_most hs j hj
  unfold ovB ent
  simp only
  rw [decide_eq_false (show ¬ a < (nd N j).t by omega), Bool.and_false]
theorem over_high {N : List Nd} {L R : List Nat} {k : Nat} {a b : Int} (ho : (entsOf N (L ++ [k] ++ R)).Pairwise enLt) (hk : b ≤ (nd N k).f) : overs a b (entsOf N ([k] ++ R)) = [] := by
  refine overs_none fun e he => ?_
  unfold entsOf at ho
  rw [List.append_assoc, List.map_append, List.pairwise_append] at ho
  have h2 := ho.2.1
  rw [List.singleton_append, List.map_cons, List.pairwise_cons] at h2
  unfold entsOf at he
  rw [List.singleton_append, List.map_cons, List.mem_cons] at he
  have h3 : (nd N k).f ≤ e.1 := by
    rcases he with rfl | he
    · exact Int.le_refl _
    · have := h2.1 e he
      unfold enLt ent at this
      simp only at this
      omega
  unfold ovB
  rw [decide_eq_false (show ¬ e.1 < b by omega), Bool.false_and]
theorem ord_left {N : List Nd} {L R : List Nat} (ho : (entsOf N (L ++ R)).Pairwise enLt) : (entsOf N L).Pairwise enLt := by
  unfold entsOf at *; rw [List.map_append] at ho; exact (List.pairwise_append.1 ho).1
theorem ord_right {N : List Nd} {L R : List Nat} (ho : (entsOf N (L ++ R)).Pairwise enLt) : (entsOf N R).Pairwise enLt := by
  unfold entsOf at *; rw [List.map_append] at ho; exact (List.pairwise_append.1 ho).2.1
/-! ### the walk -/
def OwnsI (w : World) (base : Nat) (v : Value) (l : List Int) : Prop := w.ownsRow base 3 1 v l.length (flatI l)
theorem OwnsI.below {w w' : World} {base : Nat} {v : Value} {l : List Int} (h : OwnsI w base v l) (hb : Below w.heap.size w w') : OwnsI w' base v l := own_below h hb (Nat.le_refl _)
theorem OwnsI.mono {w : World} {base b : Nat} {v : Value} {l : List Int} (h : OwnsI w base v l) (hb : b ≤ base) : OwnsI w b v l := by
  obtain ⟨h1, h2⟩ := h
  refine ⟨h1, h2.imp id ?_⟩
  rintro ⟨g, cap, cur, hv, hg, r⟩
  exact ⟨g, cap, cur, hv, Nat.le_trans hb hg, r⟩
theorem OwnsI.nil {w : World} {base : Nat} : OwnsI w base (.slice none 0 0) [] := ⟨rfl, .inl ⟨rfl, rfl⟩⟩
def IntsRet (w : World) (l : List Int) (e : Ending) (w' : World) : Prop := ∃ v', e = .returned v' ∧ OwnsI w' w.heap.size v' l ∧ Below w.heap.size w w'
set_option maxRecDepth 100000 in
set_option maxHeartbeats 4000000 in
theorem xover_c (a b : Int) {N : List Nd} {i : Int} {L : List Nat} {h m : Int} (hsub : Sub N i L h m) : ∀ (v : Value) (root : Int) (w : World), IsNodes w v N → L.length ≤ 100000 → (entsOf N L).Pairwise enLt →
    Calls Try.prog 60 #[.agg #[v, .int .i64 root], .int .i64 i, .agg #[.int .i64 a, .int .i64 b]] w (IntsRet w (overs a b (entsOf N L))) := by
  induction hsub with
  | nil =>
    intro v root w hs _ _
    obtain ⟨A, c, rfl, hnc, hc⟩ := hs.form
    have hb2 : Below w.heap.size w ((w.alloc (.cells #[.slice A N.length c, .int .i64 root] 24)).alloc (.cells #[.int .i64 a, .int .i64 b] 33)) := ((Below.refl _ _).alloc (Nat.le_refl _) _).alloc (by simp) _
    go_enter Try.func60, Try.ntmps60
    go_wp2_with fail
    generalize ((w.alloc (.cells #[.slice A N.length c, .int .i64 root] 24)).alloc (.cells #[.int .i64 a, .int .i64 b] 33)) = w1 at *
    refine wp_region_below (by kernel_rfl) (by kernel_rfl) ?_
    repeat (go_big_quiet_step (fail))
    refine wpQuiet_nil ?_
    rintro w2 ⟨⟨_, hb3⟩, rfl⟩
    go_wp2_with fail
    go_ret
    exact ⟨_, rfl, OwnsI.nil, hb2.trans (hb3.mono hb2.size)⟩
  | @node k L R x' y' x y hk h1 h2 h3 h4 h5 h6 h7 ih1 ih2 =>
    intro v root w hs hlen hord
    obtain ⟨A, c, rfl, hnc, hc⟩ := hs.form
    obtain ⟨b0, off, hA, hb0⟩ := hs.addr (by omega)
    subst hA
    have hmo := over_low (a := a) (b := b) (Sub.node hk h1 h2 h3 h4 h5 h6 h7)
    have hlenL : L.length ≤ 100000 := by simp at hlen; omega
    have hlenR : R.length ≤ 100000 := by simp at hlen; omega
    have hordL : (entsOf N L).Pairwise enLt := ord_left (R := [k] ++ R) (by rw [← List.append_assoc]; exact hord)
    have hordR : (entsOf N R).Pairwise enLt := ord_right (L := L ++ [k]) hord
    have hb2 : Below w.heap.size w ((w.alloc (.cells #[.slice (some ⟨b0, off, none⟩) N.length c, .int .i64 root] 24)).alloc (.cells #[.int .i64 a, .int .i64 b] 33)) := ((Below.refl _ _).alloc (Nat.le_refl _) _).alloc (by simp) _
    have hz2 : ((w.alloc (.cells #[.slice (some ⟨b0, off, none⟩) N.length c, .int .i64 root] 24)).alloc (.cells #[.int .i64 a, .int .i64 b] 33)).heap.size = w.heap.size + 2 := by simp
    have t0 : ((w.alloc (.cells #[.slice (some ⟨b0, off, none⟩) N.length c, .int .i64 root] 24)).alloc (.cells #[.int .i64 a, .int .i64 b] 33)).cell? ⟨w.heap.size, 0, none⟩ = some (.slice (some ⟨b0, off, none⟩) N.length c) := by simp
    have t1 : ((w.alloc (.cells #[.slice (some ⟨b0, off, none⟩) N.length c, .int .i64 root] 24)).alloc (.cells #[.int .i64 a, .int .i64 b] 33)).cell? ⟨w.heap.size, 1, none⟩ = some (.int .i64 root) := by simp
    have s0 : ((w.alloc (.cells #[.slice (some ⟨b0, off, none⟩) N.length c, .int .i64 root] 24)).alloc (.cells #[.int .i64 a, .int .i64 b] 33)).cell? ⟨w.heap.size + 1, 0, none⟩ = some (.int .i64 a) := by simp
    have s1 : ((w.alloc (.cells #[.slice (some ⟨b0, off, none⟩) N.length c, .int .i64 root] 24)).alloc (.cells #[.int .i64 a, .int .i64 b] 33)).cell? ⟨w.heap.size + 1, 1, none⟩ = some (.int .i64 b) := by simp
    have hs2 := hs.below hb2
    obtain ⟨Res, hRes⟩ : ∃ Res, Res = overs a b (entsOf N (L ++ [k] ++ R)) := ⟨_, rfl⟩
    rw [← hRes]
    have HRes := Lib.hid hRes; have Hmo := Lib.hid hmo; have Hord := Lib.hid hord; have Hb2 := Lib.hid hb2; have Hs2 := Lib.hid hs2
    clear hRes hmo h1 h2 h3 h4 h5 h6 h7 hord hb2 hs2 hs
    have i1 : decide ((k : Int) < 0) = false := by simp
    go_enter Try.func60, Try.ntmps60
    go_wp2_with fail
    have hs2 := Hs2.out
    have hb2 := Hb2.out
    clear Hs2
    generalize ((w.alloc (.cells #[.slice (some ⟨b0, off, none⟩) N.length c, .int .i64 root] 24)).alloc (.cells #[.int .i64 a, .int .i64 b] 33)) = w1 at *
    obtain ⟨tb, htb⟩ : ∃ q, q = w.heap.size := ⟨_, rfl⟩
    obtain ⟨sb, hsb⟩ : ∃ q, q = w.heap.size + 1 := ⟨_, rfl⟩
    rw [← hsb] at s0 s1 ⊢
    rw [← htb] at t0 t1 ⊢
    have htl : tb < w1.heap.size := by omega
    have hsl : sb < w1.heap.size := by omega
    have hb01 : b0 < w1.heap.size := by omega
    have HTB := Lib.hid htb; have HSB := Lib.hid hsb
    clear htb hsb hz2
    have hd5 := hs2.c5 k hk
    have e0 := fun X : BW w1 => bw_cell X t0 htl
    have e1 := fun X : BW w1 => bw_cell X s0 hsl
    have e2 := fun X : BW w1 => bw_cell X hd5 hb01
    have i2 : (k : Int) < (N.length : Int) := by omega
    have i3 : 0 ≤ (k : Int) := by omega
    by_cases hm : (nd N k).m ≤ a
    · have t2 : decide ((nd N k).m ≤ a) = true := by simpa using hm
      refine wp_region_below (by kernel_rfl) (by kernel_rfl) ?_
      repeat (go_big_quiet_step (fail))
      refine wpQuiet_nil ?_
      rintro w2 ⟨⟨_, hb3⟩, rfl⟩
      have hR : Res = [] := HRes.out.trans (Hmo.out hm)
      subst hR
      go_wp2_with fail
      go_ret
      exact ⟨_, rfl, OwnsI.nil, hb2.trans (hb3.mono hb2.size)⟩
    · have t2 : decide ((nd N k).m ≤ a) = false := by simpa using hm
      refine wp_region_below (by kernel_rfl) (by kernel_rfl) ?_
      repeat (go_big_quiet_step (fail))
      refine wpQuiet_nil ?_
      rintro w2 ⟨⟨_, hb3⟩, rfl⟩
      clear e0 e1 e2 t2 hm Hmo
      have hs3 := hs2.below hb3
      have d0 := hs3.c0 k hk
      have d1 := hs3.c1 k hk
      have d2 := hs3.c2 k hk
      have d3 := hs3.c3 k hk
      have d4 := hs3.c4 k hk
      have d5 := hs3.c5 k hk
      have d6 := hs3.c6 k hk
      have u0 := (hb3.cell (p := ⟨tb, 0, none⟩) htl).trans t0
      have u1 := (hb3.cell (p := ⟨tb, 1, none⟩) htl).trans t1
      have u2 := (hb3.cell (p := ⟨sb, 0, none⟩) hsl).trans s0
      have u3 := (hb3.cell (p := ⟨sb, 1, none⟩) hsl).trans s1
      have htl2 : tb < w2.heap.size := Nat.lt_of_lt_of_le htl hb3.size
      have hsl2 : sb < w2.heap.size := Nat.lt_of_lt_of_le hsl hb3.size
      have hbA := (Below.refl w2.heap.size w2).alloc (Nat.le_refl _) (.cells #[.int .i64 (nd N k).f, .int .i64 (nd N k).t, .int .i64 (nd N k).v, .int .i64 (nd N k).l, .int .i64 (nd N k).r, .int .i64 (nd N k).m, .int .i64 (nd N k).h] 60)
      have hn := heap_alloc_new w2 (.cells #[.int .i64 (nd N k).f, .int .i64 (nd N k).t, .int .i64 (nd N k).v, .int .i64 (nd N k).l, .int .i64 (nd N k).r, .int .i64 (nd N k).m, .int .i64 (nd N k).h] 60)
      have U0 := (hbA.cell (p := ⟨tb, 0, none⟩) htl2).trans u0
      have U1 := (hbA.cell (p := ⟨tb, 1, none⟩) htl2).trans u1
      have U2 := (hbA.cell (p := ⟨sb, 0, none⟩) hsl2).trans u2
      have U3 := (hbA.cell (p := ⟨sb, 1, none⟩) hsl2).trans u3
      have p0 : (w2.alloc (.cells #[.int .i64 (nd N k).f, .int .i64 (nd N k).t, .int .i64 (nd N k).v, .int .i64 (nd N k).l, .int .i64 (nd N k).r, .int .i64 (nd N k).m, .int .i64 (nd N k).h] 60)).cell? ⟨w2.heap.size, 0, none⟩ = some (.int .i64 (nd N k).f) := by simp only [World.cell?, hn]; rfl
      have p1 : (w2.alloc (.cells #[.int .i64 (nd N k).f, .int .i64 (nd N k).t, .int .i64 (nd N k).v, .int .i64 (nd N k).l, .int .i64 (nd N k).r, .int .i64 (nd N k).m, .int .i64 (nd N k).h] 60)).cell? ⟨w2.heap.size, 1, none⟩ = some (.int .i64 (nd N k).t) := by simp only [World.cell?, hn]; rfl
      have p2 : (w2.alloc (.cells #[.int .i64 (nd N k).f, .int .i64 (nd N k).t, .int .i64 (nd N k).v, .int .i64 (nd N k).l, .int .i64 (nd N k).r, .int .i64 (nd N k).m, .int .i64 (nd N k).h] 60)).cell? ⟨w2.heap.size, 2, none⟩ = some (.int .i64 (nd N k).v) := by simp only [World.cell?, hn]; rfl
      have p3 : (w2.alloc (.cells #[.int .i64 (nd N k).f, .int .i64 (nd N k).t, .int .i64 (nd N k).v, .int .i64 (nd N k).l, .int .i64 (nd N k).r, .int .i64 (nd N k).m, .int .i64 (nd N k).h] 60)).cell? ⟨w2.heap.size, 3, none⟩ = some (.int .i64 (nd N k).l) := by simp only [World.cell?, hn]; rfl
      have p4 : (w2.alloc (.cells #[.int .i64 (nd N k).f, .int .i64 (nd N k).t, .int .i64 (nd N k).v, .int .i64 (nd N k).l, .int .i64 (nd N k).r, .int .i64 (nd N k).m, .int .i64 (nd N k).h] 60)).cell? ⟨w2.heap.size, 4, none⟩ = some (.int .i64 (nd N k).r) := by simp only [World.cell?, hn]; rfl
      have hq3 : w2.heap.size < (w2.alloc (.cells #[.int .i64 (nd N k).f, .int .i64 (nd N k).t, .int .i64 (nd N k).v, .int .i64 (nd N k).l, .int .i64 (nd N k).r, .int .i64 (nd N k).m, .int .i64 (nd N k).h] 60)).heap.size := by simp
      have hsA := hs3.below hbA
      have hbA2 : Below w.heap.size w (w2.alloc (.cells #[.int .i64 (nd N k).f, .int .i64 (nd N k).t, .int .i64 (nd N k).v, .int .i64 (nd N k).l, .int .i64 (nd N k).r, .int .i64 (nd N k).m, .int .i64 (nd N k).h] 60)) := hb2.trans ((hb3.mono hb2.size).trans (hbA.mono (Nat.le_trans hb2.size hb3.size)))
      have HsA := Lib.hid hsA; have HbA2 := Lib.hid hbA2; have HbA := Lib.hid hbA; have Hq3 := Lib.hid hq3
      clear hs3 hsA hb3 hbA hbA2 hn hq3 hb2 hs2 hd5 t0 t1 s0 s1
      go_wp2_with fail
      have hsA := HsA.out; have hbA2 := HbA2.out; have hbA := HbA.out; have hq3 := Hq3.out
      clear HsA HbA2 HbA Hq3 u0 u1 u2 u3 d0 d1 d2 d3 d4 d5 d6
      generalize (w2.alloc (.cells #[.int .i64 (nd N k).f, .int .i64 (nd N k).t, .int .i64 (nd N k).v, .int .i64 (nd N k).l, .int .i64 (nd N k).r, .int .i64 (nd N k).m, .int .i64 (nd N k).h] 60)) = w3 at *
      obtain ⟨q, hq⟩ : ∃ q, q = w2.heap.size := ⟨_, rfl⟩
      rw [← hq] at p0 p1 p2 p3 p4 hq3 ⊢
      have htl3 : tb < w3.heap.size := Nat.lt_of_lt_of_le htl2 hbA.size
      have hsl3 : sb < w3.heap.size := Nat.lt_of_lt_of_le hsl2 hbA.size
      clear hq htl2 hsl2 htl hsl hbA
      refine (ih1 _ root w3 hsA hlenL hordL).mono ?_
      rintro e w4 ⟨v1, rfl, o1, hb4⟩
      have U0 := (hb4.cell (p := ⟨tb, 0, none⟩) htl3).trans U0
      have U1 := (hb4.cell (p := ⟨tb, 1, none⟩) htl3).trans U1
      have U2 := (hb4.cell (p := ⟨sb, 0, none⟩) hsl3).trans U2
      have U3 := (hb4.cell (p := ⟨sb, 1, none⟩) hsl3).trans U3
      have p0 := (hb4.cell (p := ⟨q, 0, none⟩) hq3).trans p0
      have p1 := (hb4.cell (p := ⟨q, 1, none⟩) hq3).trans p1
      have p2 := (hb4.cell (p := ⟨q, 2, none⟩) hq3).trans p2
      have p4 := (hb4.cell (p := ⟨q, 4, none⟩) hq3).trans p4
      have htl4 := Nat.lt_of_lt_of_le htl3 hb4.size
      have hsl4 := Nat.lt_of_lt_of_le hsl3 hb4.size
      have hq4 := Nat.lt_of_lt_of_le hq3 hb4.size
      have hs4 := hsA.below hb4
      have hlow : ∀ W, Below w3.heap.size w4 W → IsNodes W (.slice (some ⟨b0, off, none⟩) N.length c) N := fun W hb => by
        obtain ⟨A', c', e', q1, q2, q3⟩ := hsA
        injection e' with e1 _ e3
        subst e1 e3
        refine ⟨_, _, rfl, q1, q2, fun hn => ?_⟩
        obtain ⟨b', off', e4, hb', hcc⟩ := q3 hn
        refine ⟨b', off', e4, Nat.lt_of_lt_of_le hb' (Nat.le_trans hb4.size hb.size), fun i j hi hj => ((hb.cell (p := ⟨b', off' + i * 7 + j, none⟩) hb').trans (hb4.cell (p := ⟨b', off' + i * 7 + j, none⟩) hb')).trans (hcc i j hi hj)⟩
      have hb4w : Below w.heap.size w w4 := hbA2.trans (hb4.mono hbA2.size)
      have hzA := hbA2.size
      have hz34 := hb4.size
      obtain ⟨A1, c1, hf1⟩ : ∃ A c, v1 = .slice A (overs a b (entsOf N L)).length c := by
        obtain ⟨A, cp, e, _⟩ := (ints_of_own o1).form
        exact ⟨A, cp, e⟩
      subst hf1
      obtain ⟨z3, hz3⟩ : ∃ z, z = w3.heap.size := ⟨_, rfl⟩
      rw [← hz3] at o1 hzA hz34 htl3 hsl3 hq3 hlow
      clear hb4 hsA hbA2 p3 hz3
      by_cases hf : b ≤ (nd N k).f
      · have t3 : decide (b ≤ (nd N k).f) = true := by simpa using hf
        have hR : Res = overs a b (entsOf N L) := by
          rw [HRes.out, show entsOf N (L ++ [k] ++ R) = entsOf N L ++ entsOf N ([k] ++ R) from by simp [entsOf], overs_append, over_high Hord.out hf, List.append_nil]
        have HR := Lib.hid hR; clear hR
        go_wp2_with fail
        go_ret
        exact ⟨_, rfl, by rw [HR.out]; exact o1.mono hzA, hb4w⟩
      · have t3 : decide (b ≤ (nd N k).f) = false := by simpa using hf
        have hspl : entsOf N (L ++ [k] ++ R) = entsOf N L ++ [ent (nd N k)] ++ entsOf N R := by simp [entsOf]
        have hl1 : (overs a b (entsOf N L)).length ≤ 100000 := by have h8 := overs_len a b (entsOf N L); simp only [entsOf, List.length_map] at h8; exact Nat.le_trans h8 hlenL
        have hl2 : (overs a b (entsOf N R)).length ≤ 100000 := by have h8 := overs_len a b (entsOf N R); simp only [entsOf, List.length_map] at h8; exact Nat.le_trans h8 hlenR
        have HLow := Lib.hid hlow
        have Hih := Lib.hid ih2
        clear ih2 ih1 hlow
        by_cases ht : a < (nd N k).t
        · have t4 : decide (a < (nd N k).t) = true := by simpa using ht
          have hR : Res = overs a b (entsOf N L) ++ [(nd N k).v] ++ overs a b (entsOf N R) := by
            rw [HRes.out, hspl, overs_append, overs_append, show overs a b [ent (nd N k)] = [(nd N k).v] from by
              simp only [overs, ovB, ent, List.filter_cons, List.filter_nil, t4, decide_eq_true (show (nd N k).f < b by omega), Bool.and_true, if_true, List.map_cons, List.map_nil]]
          have HR := Lib.hid hR
          clear hR hspl HRes hf ht
          go_wp2_with (first | (at_builtin; refine append_ints Try.underlying49 tIntInfoX rfl _ _ rfl z3 v2 v3 (overs a b (entsOf N L) ++ [(nd N k).v]).length (overs a b (entsOf N L) ++ [(nd N k).v]) (overs a b (entsOf N R)) rfl ((show OwnsI w5 z3 v2 _ from h2).below hb6) rfl rfl (ints_of_own o3) (by simp only [List.length_append, List.length_singleton]; omega) (Nat.le_trans (Nat.le_trans hz34 hb45.size) hb6.size) ?_; intro v4 w7 h4 hb7) | (go_at_call 60; (with_reducible refine (Hih.out _ root w5 hs5 hlenR hordR).mono ?_); rintro e w6 ⟨v3, rfl, o3, hb6⟩) | (at_builtin; refine append_ints Try.underlying49 tIntInfoX rfl _ _ rfl z3 (.slice A1 (overs a b (entsOf N L)).length c1) (.slice (some ⟨w4.heap.size, 0, none⟩) 1 1) (overs a b (entsOf N L)).length (overs a b (entsOf N L)) [(nd N k).v] rfl (o1.below ((Below.refl _ _).alloc (Nat.le_refl _) _)) rfl rfl (ints_lit w4.heap.size [(nd N k).v] 1 rfl rfl rfl (by omega)) (by simp only [List.length_singleton]; omega) (by simp; omega) ?_; intro v2 w5 h2 hb5; have hb45 : Below z3 w4 w5 := ((Below.refl z3 w4).alloc hz34 _).trans hb5; have hs5 := HLow.out w5 hb45; have U0 := (hb45.cell (p := ⟨tb, 0, none⟩) htl3).trans U0; have U1 := (hb45.cell (p := ⟨tb, 1, none⟩) htl3).trans U1; have U2 := (hb45.cell (p := ⟨sb, 0, none⟩) hsl3).trans U2; have U3 := (hb45.cell (p := ⟨sb, 1, none⟩) hsl3).trans U3; have p4 := (hb45.cell (p := ⟨q, 4, none⟩) hq3).trans p4) | fail)
          go_ret
          have hb5w : Below w.heap.size w w5 := hb4w.trans (hb45.mono hzA)
          exact ⟨v4, rfl, by rw [HR.out]; exact OwnsI.mono h4 hzA, (hb5w.trans (hb6.mono hb5w.size)).trans (hb7.mono hzA)⟩
        · have t4 : decide (a < (nd N k).t) = false := by simpa using ht
          have hR : Res = overs a b (entsOf N L) ++ overs a b (entsOf N R) := by
            rw [HRes.out, hspl, overs_append, overs_append, show overs a b [ent (nd N k)] = [] from overs_none fun e he => by
              rw [List.mem_singleton] at he
              subst he
              unfold ovB ent
              simp only [t4, Bool.and_false], List.append_nil]
          have HR := Lib.hid hR
          clear hR hspl HRes hf ht
          go_wp2_with (first | (at_builtin; refine append_ints Try.underlying49 tIntInfoX rfl _ _ rfl z3 (.slice A1 (overs a b (entsOf N L)).length c1) v3 (overs a b (entsOf N L)).length (overs a b (entsOf N L)) (overs a b (entsOf N R)) rfl (o1.below hb6) rfl rfl (ints_of_own o3) (by omega) (Nat.le_trans hz34 hb6.size) ?_; intro v4 w7 h4 hb7) | (go_at_call 60; (with_reducible refine (Hih.out _ root w4 hs4 hlenR hordR).mono ?_); rintro e w6 ⟨v3, rfl, o3, hb6⟩) | fail)
          go_ret
          exact ⟨v4, rfl, by rw [HR.out]; exact OwnsI.mono h4 hzA, (hb4w.trans (hb6.mono hb4w.size)).trans (hb7.mono hzA)⟩
end Go.Proofs.Ytgdcgdjlhljbiaa
