/- Law 42: the walk of the reference's Valid. -/
import Derived.Test.YtgdcgdjlhljbiaaIdxH
namespace Go.Proofs.Ytgdcgdjlhljbiaa
open Go.RowKit

theorem treeB_true {N : List Nd} {root : Int} (hn : N.length ≤ 1000) (h : validT N root) : treeB N root = true := (treeB_iff N root).2 ⟨hn, h⟩
theorem treeB_false {N : List Nd} {root : Int} (h : ¬ validT N root) : treeB N root = false := by
  rw [Bool.eq_false_iff]; exact fun h' => h ((treeB_iff N root).1 h').2
/-- The tree below the root, if the links and each node's own conditions hold. -/
theorem tree_of_links {N : List Nd} {root : Int} (hk : (N.length = 0 ∧ root = -1) ∨ (0 < N.length ∧ Links N root)) (hl : ∀ i, i < N.length → Loc N i) :
    ∃ L h m, Sub N root L h m ∧ L.length ≤ N.length ∧ ((entsOf N L).Pairwise enLt ↔ validT N root) := by
  rcases hk with ⟨h0, rfl⟩ | ⟨h0, hk⟩
  · obtain rfl : N = [] := List.length_eq_zero_iff.1 h0
    exact ⟨[], _, _, .nil, by simp, ⟨fun _ => (valid_nil _).2 rfl, fun _ => List.Pairwise.nil⟩⟩
  · obtain ⟨L, hs, ho⟩ := valid_of_links hk hl
    have hnd : L.Nodup := by
      rw [List.nodup_iff_count]
      intro j
      by_cases hj : j < N.length
      · exact Nat.le_of_eq (links_once hk hl hs _ j hj (Int.self_le_toNat _))
      · rw [List.count_eq_zero.2 (fun hm => hj (sub_lt hs j hm))]; omega
    refine ⟨L, _, _, hs, ?_, ho, ?_⟩
    · have := nodup_sub hnd (M := List.range N.length) (fun j hj => List.mem_range.2 (sub_lt hs j hj))
      simpa using this
    · rintro ⟨L', h', m', hs', _, ho', _⟩
      obtain ⟨rfl, _⟩ := sub_one hs hs'
      exact ho'
theorem not_valid_loc {N : List Nd} {root : Int} (hn : N.length ≤ 1000) {k : Nat} (hk : k < N.length) (h : ¬ Loc N k) : treeB N root = false :=
  treeB_false fun hv => h ((links_of_valid hv hn (by omega)).2 k hk)
/-- Each node's own conditions, as the reference reckons them. -/
structure LocW (N : List Nd) (i : Nat) : Prop where
  sp : okSpan ((nd N i).f, (nd N i).t) = true
  hh : (nd N i).h = wrap64 (max (hOf N (nd N i).l) (hOf N (nd N i).r) + 1)
  lo : 1 ≤ (nd N i).h
  hi : (nd N i).h ≤ 20
  d1 : wrap64 (hOf N (nd N i).l - hOf N (nd N i).r) ≤ 1
  d2 : wrap64 (hOf N (nd N i).r - hOf N (nd N i).l) ≤ 1
  mm : (nd N i).m = max (max (mOf N (nd N i).l) (mOf N (nd N i).r)) (nd N i).t
theorem hl1pos {N : List Nd} {root : Int} {k : Nat} (h : (N.length = 0 ∧ root = -1) ∨ (0 < N.length ∧ Links N root)) (hk : k < N.length) : Links N root := by
  rcases h with h | h
  · omega
  · exact h.2
theorem hOf_in {N : List Nd} (_hr : InR N) (hl : ∀ j, j < N.length → 1 ≤ (nd N j).h ∧ (nd N j).h ≤ 20) {i : Int} (h1 : i < N.length) : 0 ≤ hOf N i ∧ hOf N i ≤ 20 := by
  unfold hOf
  split
  · omega
  · have := hl i.toNat (by omega); omega
theorem w64_id {x : Int} (h0 : -100 ≤ x) (h1 : x ≤ 100) : wrap64 x = x := IntWalk.wrap64_in x (by omega)
theorem locW_of {N : List Nd} (hr : InR N) (hl : ∀ j, j < N.length → Loc N j) {k : Nat} (hk : k < N.length) : LocW N k := by
  have h := hl k hk
  have h1 := hOf_in hr (fun j hj => ⟨(hl j hj).lo, (hl j hj).hi⟩) (hr k hk).1.2
  have h2 := hOf_in hr (fun j hj => ⟨(hl j hj).lo, (hl j hj).hi⟩) (hr k hk).2.2
  exact ⟨h.sp, by rw [w64_id (by omega) (by omega)]; exact h.hh, h.lo, h.hi, by rw [w64_id (by omega) (by omega)]; exact h.d1, by rw [w64_id (by omega) (by omega)]; exact h.d2, h.mm⟩
theorem loc_of {N : List Nd} (hr : InR N) (hl : ∀ j, j < N.length → LocW N j) {k : Nat} (hk : k < N.length) : Loc N k := by
  have h := hl k hk
  have h1 := hOf_in hr (fun j hj => ⟨(hl j hj).lo, (hl j hj).hi⟩) (hr k hk).1.2
  have h2 := hOf_in hr (fun j hj => ⟨(hl j hj).lo, (hl j hj).hi⟩) (hr k hk).2.2
  have e1 := h.hh
  have e2 := h.d1
  have e3 := h.d2
  rw [w64_id (by omega) (by omega)] at e1 e2 e3
  exact ⟨h.sp, e1, h.lo, h.hi, e2, e3, h.mm⟩
theorem not_locW {N : List Nd} {root : Int} (hn : N.length ≤ 1000) {k : Nat} (hk : k < N.length) (h : ¬ LocW N k) : treeB N root = false :=
  treeB_false fun hv => by
    have hlv := links_of_valid hv hn (by omega)
    exact h (locW_of hlv.1.inr hlv.2 hk)
set_option maxRecDepth 100000 in
set_option maxHeartbeats 2000000 in
theorem r42Valid_c (v : Value) (root : Int) (N : List Nd) (w : World) (hs : IsNodes w v N) : Calls Try.prog 15 #[.agg #[v, .int .i64 root]] w (Ret w (.bool (treeB N root))) := by
  obtain ⟨A, c, rfl, hnc, hc⟩ := hs.form
  by_cases hn : N.length ≤ 1000
  rotate_left
  · have e : treeB N root = false := by rw [treeB, decide_eq_false hn]; rfl
    rw [e]
    have t0 : decide (1000 < (N.length : Int)) = true := by rw [decide_eq_true_eq]; omega
    go_enter Try.func15, Try.ntmps15
    go_wp2_with fail
    go_ret
    exact ⟨rfl, (Below.refl _ _).alloc (Nat.le_refl _) _⟩
  have t0 : decide (1000 < (N.length : Int)) = false := by rw [decide_eq_false_iff_not]; omega
  have hbT := (Below.refl w.heap.size w).alloc (Nat.le_refl _) (.cells #[.slice A N.length c, .int .i64 root] 24)
  have hT0 : (w.alloc (.cells #[.slice A N.length c, .int .i64 root] 24)).cell? ⟨w.heap.size, 0, none⟩ = some (.slice A N.length c) := by simp
  have hT1 : (w.alloc (.cells #[.slice A N.length c, .int .i64 root] 24)).cell? ⟨w.heap.size, 1, none⟩ = some (.int .i64 root) := by simp
  have hzT : w.heap.size < (w.alloc (.cells #[.slice A N.length c, .int .i64 root] 24)).heap.size := by simp
  have hlk := r42links_c _ root N _ (hs.below hbT) hn
  have Hlk := Lib.hid hlk; have HbT := Lib.hid hbT; have HT0 := Lib.hid hT0; have HT1 := Lib.hid hT1; have HzT := Lib.hid hzT
  clear hlk hbT hT0 hT1 hzT
  obtain ⟨r, hr⟩ : ∃ r, r = treeB N root := ⟨_, rfl⟩
  rw [← hr]
  have Hr := Lib.hid hr; clear hr
  go_enter Try.func15, Try.ntmps15
  go_wp2_with fail
  have hlk := Hlk.out; have hbT := HbT.out; have hT0 := HT0.out; have hT1 := HT1.out; have hzT := HzT.out
  clear Hlk HbT HT0 HT1 HzT
  generalize w.alloc (.cells #[.slice A N.length c, .int .i64 root] 24) = w1 at *
  refine hlk.mono ?_
  clear hlk
  rintro e w2 ⟨rl, rfl, hl1, hl0, hb2⟩
  cases rl
  · have e : r = false := Hr.out.trans (treeB_false (hl0 rfl))
    subst e
    go_wp2_with fail
    go_ret
    exact ⟨rfl, hbT.trans (hb2.mono hbT.size)⟩
  have Hl1 := Lib.hid (hl1 rfl); clear hl1 hl0
  have hT0 := (hb2.cell (p := ⟨w.heap.size, 0, none⟩) hzT).trans hT0
  have hT1 := (hb2.cell (p := ⟨w.heap.size, 1, none⟩) hzT).trans hT1
  have hzT : w.heap.size < w2.heap.size := Nat.lt_of_lt_of_le hzT hb2.size
  have hbw2 := hbT.trans (hb2.mono hbT.size)
  have hs2 := hs.below hbw2
  clear hb2 hbT
  obtain ⟨tb, htb⟩ : ∃ q, q = w.heap.size := ⟨_, rfl⟩
  rw [← htb] at hT0 hT1 hzT ⊢
  have Htb := Lib.hid htb; clear htb
  go_wp2_with fail
  go_loopw [3] (fun i wr => ∃ k : Nat, i = .int .i64 k ∧ k ≤ N.length ∧ Hid (∀ j, j < k → LocW N j) ∧ Below w2.heap.size w2 wr) (fun i _ => N.length - (intOf i).toNat)
  case atStart => exact ⟨0, rfl, Nat.zero_le _, fun a ha => absurd ha (by omega), Below.refl _ _⟩
  case round =>
    obtain ⟨k, rfl, hk, HL, hbr⟩ := hrel
    have cT0 := (hbr.cell (p := ⟨tb, 0, none⟩) hzT).trans hT0
    have cT1 := (hbr.cell (p := ⟨tb, 1, none⟩) hzT).trans hT1
    by_cases hlt : k < N.length
    · obtain ⟨b0, off, rfl, hb0⟩ := hs.addr (by omega)
      have hlk := hl1pos Hl1.out hlt
      have hin := hlk.inr k hlt
      have hsr := hs2.below hbr
      have d0 := hsr.c0 k hlt
      have d1 := hsr.c1 k hlt
      have d2 := hsr.c2 k hlt
      have d3 := hsr.c3 k hlt
      have d4 := hsr.c4 k hlt
      have d5 := hsr.c5 k hlt
      have d6 := hsr.c6 k hlt
      have hbn := heap_alloc_new wr (.cells #[.int .i64 (nd N k).f, .int .i64 (nd N k).t, .int .i64 (nd N k).v, .int .i64 (nd N k).l, .int .i64 (nd N k).r, .int .i64 (nd N k).m, .int .i64 (nd N k).h] 60)
      have hbw3 := (Below.refl wr.heap.size wr).alloc (Nat.le_refl _) (.cells #[.int .i64 (nd N k).f, .int .i64 (nd N k).t, .int .i64 (nd N k).v, .int .i64 (nd N k).l, .int .i64 (nd N k).r, .int .i64 (nd N k).m, .int .i64 (nd N k).h] 60)
      have hbad : ¬ LocW N k → r = false := fun h => Hr.out.trans (not_locW hn hlt h)
      have hwr := hbr.size
      obtain ⟨q, hq⟩ : ∃ q, q = wr.heap.size := ⟨_, rfl⟩
      rw [← hq] at hbn
      have Hbn := Lib.hid hbn; have Hbw3 := Lib.hid hbw3; have Hbad := Lib.hid hbad; have Hin := Lib.hid hin; have Hq := Lib.hid hq; have Hsr := Lib.hid hsr
      clear hbn hbw3 hbad hlk hin hq hsr
      go_wp2_with fail
      rw [← Hq.out]
      have hbn := Hbn.out; have hbw3 := Hbw3.out
      clear Hbn Hbw3 d0 d1 d2 d3 d4 d5 d6
      generalize wr.alloc (.cells #[.int .i64 (nd N k).f, .int .i64 (nd N k).t, .int .i64 (nd N k).v, .int .i64 (nd N k).l, .int .i64 (nd N k).r, .int .i64 (nd N k).m, .int .i64 (nd N k).h] 60) = w3 at *
      have hs3 := Hsr.out.below hbw3
      have hb23 := hbr.trans (hbw3.mono hwr)
      refine (r10Valid_c (nd N k).f (nd N k).t w3).mono ?_
      rintro e w4 ⟨rfl, hb4⟩
      have hq3 := lt_of_block hbn
      have hq4 : q < w4.heap.size := Nat.lt_of_lt_of_le hq3 hb4.size
      have hb24 := hb23.trans (hb4.mono hb23.size)
      have hs4 := hs3.below hb4
      cases hok : okSpan ((nd N k).f, (nd N k).t)
      · have e : r = false := Hbad.out fun h => by rw [h.sp] at hok; cases hok
        subst e
        clear hok
        go_wp2_with fail
        go_ret
        exact ⟨rfl, hbw2.trans (hb24.mono hbw2.size)⟩
      have hp4 : ∀ o, w4.cell? ⟨q, o, none⟩ = w3.cell? ⟨q, o, none⟩ := fun o => hb4.cell hq3
      have p0 : w4.cell? ⟨q, 0, none⟩ = some (.int .i64 (nd N k).f) := by rw [hp4]; simp only [World.cell?, hbn]; rfl
      have p1 : w4.cell? ⟨q, 1, none⟩ = some (.int .i64 (nd N k).t) := by rw [hp4]; simp only [World.cell?, hbn]; rfl
      have p3 : w4.cell? ⟨q, 3, none⟩ = some (.int .i64 (nd N k).l) := by rw [hp4]; simp only [World.cell?, hbn]; rfl
      have p4 : w4.cell? ⟨q, 4, none⟩ = some (.int .i64 (nd N k).r) := by rw [hp4]; simp only [World.cell?, hbn]; rfl
      have p5 : w4.cell? ⟨q, 5, none⟩ = some (.int .i64 (nd N k).m) := by rw [hp4]; simp only [World.cell?, hbn]; rfl
      have p6 : w4.cell? ⟨q, 6, none⟩ = some (.int .i64 (nd N k).h) := by rw [hp4]; simp only [World.cell?, hbn]; rfl
      have hz4 : tb < w4.heap.size := Nat.lt_of_lt_of_le hzT hb24.size
      have c40 := (hb24.cell (p := ⟨tb, 0, none⟩) hzT).trans hT0
      have c41 := (hb24.cell (p := ⟨tb, 1, none⟩) hzT).trans hT1
      have HH : Hid (∀ (X : BW w4) (i : Int), i < N.length → Calls Try.prog 47 #[.agg #[.slice (some ⟨b0, off, none⟩) N.length c, .int .i64 root], .int .i64 i] X.1 (Ret X.1 (.int .i64 (hOf N i)))) := Lib.hid fun X i hi => r42height_c _ _ _ _ _ (hs4.below X.2) hi
      have Hok := Lib.hid hok; have Hb24 := Lib.hid hb24; have Hs4 := Lib.hid hs4
      clear hok hp4 hbn hb24 hs4 hb23 hs3 cT0 cT1
      go_wp2_with fail
      have e0 := fun X : BW w4 => bw_cell X c40 hz4
      have e1 := fun X : BW w4 => bw_cell X c41 hz4
      have e3 := fun X : BW w4 => bw_cell X p3 hq4
      have e4 := fun X : BW w4 => bw_cell X p4 hq4
      refine wp_region_below (by kernel_rfl) (by kernel_rfl) ?_
      repeat (go_big_quiet_step (exact calls_bw _ (HH.out _ _ (by first | exact Hin.out.1.2 | exact Hin.out.2.2))))
      refine wpQuiet_nil ?_
      rintro w5 ⟨⟨_, hb5⟩, rfl⟩
      clear e0 e1 e3 e4
      have hb25 := Hb24.out.trans (hb5.mono Hb24.out.size)
      have hs5 := Hs4.out.below hb5
      have p1 := (hb5.cell (p := ⟨q, 1, none⟩) hq4).trans p1
      have p3 := (hb5.cell (p := ⟨q, 3, none⟩) hq4).trans p3
      have p4 := (hb5.cell (p := ⟨q, 4, none⟩) hq4).trans p4
      have p5 := (hb5.cell (p := ⟨q, 5, none⟩) hq4).trans p5
      have p6 := (hb5.cell (p := ⟨q, 6, none⟩) hq4).trans p6
      have c50 := (hb5.cell (p := ⟨tb, 0, none⟩) hz4).trans c40
      have hret := Lib.hid (hbw2.trans (hb25.mono hbw2.size))
      clear hb4 hb5 c40 c41 HH
      generalize hha : hOf N (nd N k).l = ha at *
      generalize hhb : hOf N (nd N k).r = hb at *
      have Hha := Lib.hid hha; have Hhb := Lib.hid hhb
      clear hha hhb
      have HW : Hid (∀ h : LocW N k, (nd N k).h = wrap64 (max ha hb + 1) ∧ wrap64 (ha - hb) ≤ 1 ∧ wrap64 (hb - ha) ≤ 1) := Lib.hid fun h => by
        have e1 := h.hh; have e2 := h.d1; have e3 := h.d2
        rw [Hha.out, Hhb.out] at e1 e2 e3
        exact ⟨e1, e2, e3⟩
      by_cases u1 : (nd N k).h = wrap64 (max ha hb + 1)
      rotate_left
      · have tu10 : ((nd N k).h == wrap64 (max ha hb + 1)) = false := by simpa using u1
        have tu11 : ((nd N k).h != wrap64 (max ha hb + 1)) = true := by simpa using u1
        have U := Lib.hid u1; clear u1
        have e : r = false := Hbad.out fun h => U.out (HW.out h).1
        subst e
        clear Hr
        go_wp2_with fail
        all_goals
          go_ret
          exact ⟨rfl, hret.out⟩
      have tu10 : ((nd N k).h == wrap64 (max ha hb + 1)) = true := by simpa using u1
      have tu11 : ((nd N k).h != wrap64 (max ha hb + 1)) = false := by simpa using u1
      have Hu1 := Lib.hid u1; clear u1
      by_cases u2 : 1 ≤ (nd N k).h
      rotate_left
      · have tu20 : decide ((nd N k).h < 1) = true := by rw [decide_eq_true_eq]; omega
        have U := Lib.hid u2; clear u2
        have e : r = false := Hbad.out fun h => U.out h.lo
        subst e
        clear Hr
        go_wp2_with fail
        all_goals
          go_ret
          exact ⟨rfl, hret.out⟩
      have tu20 : decide ((nd N k).h < 1) = false := by rw [decide_eq_false_iff_not]; omega
      have Hu2 := Lib.hid u2; clear u2
      by_cases u3 : (nd N k).h ≤ 20
      rotate_left
      · have tu30 : decide (20 < (nd N k).h) = true := by rw [decide_eq_true_eq]; omega
        have U := Lib.hid u3; clear u3
        have e : r = false := Hbad.out fun h => U.out h.hi
        subst e
        clear Hr
        go_wp2_with fail
        all_goals
          go_ret
          exact ⟨rfl, hret.out⟩
      have tu30 : decide (20 < (nd N k).h) = false := by rw [decide_eq_false_iff_not]; omega
      have Hu3 := Lib.hid u3; clear u3
      by_cases u4 : wrap64 (ha - hb) ≤ 1
      rotate_left
      · have tu40 : decide (1 < wrap64 (ha - hb)) = true := by rw [decide_eq_true_eq]; omega
        have U := Lib.hid u4; clear u4
        have e : r = false := Hbad.out fun h => U.out (HW.out h).2.1
        subst e
        clear Hr
        go_wp2_with fail
        all_goals
          go_ret
          exact ⟨rfl, hret.out⟩
      have tu40 : decide (1 < wrap64 (ha - hb)) = false := by rw [decide_eq_false_iff_not]; omega
      have Hu4 := Lib.hid u4; clear u4
      by_cases u5 : wrap64 (hb - ha) ≤ 1
      rotate_left
      · have tu50 : decide (1 < wrap64 (hb - ha)) = true := by rw [decide_eq_true_eq]; omega
        have U := Lib.hid u5; clear u5
        have e : r = false := Hbad.out fun h => U.out (HW.out h).2.2
        subst e
        clear Hr
        go_wp2_with fail
        all_goals
          go_ret
          exact ⟨rfl, hret.out⟩
      have tu50 : decide (1 < wrap64 (hb - ha)) = false := by rw [decide_eq_false_iff_not]; omega
      have Hu5 := Lib.hid u5; clear u5
      have hspn := Hok.out
      have htm : -4398046511104 ≤ (nd N k).t := by
        simp [okSpan, onLine] at hspn
        omega
      clear hspn
      by_cases hl : 0 ≤ (nd N k).l
      · obtain ⟨jl, hjl⟩ : ∃ j : Nat, (nd N k).l = j := ⟨(nd N k).l.toNat, by omega⟩
        have hjn : jl < N.length := by have := Hin.out.1.2; omega
        have ml : mOf N (nd N k).l = (nd N jl).m := by rw [hjl]; exact if_neg (by omega)
        have cl := hs5.c5 jl hjn
        have v1 : decide (0 ≤ (jl : Int)) = true := decide_eq_true (by omega)
        rw [hjl] at p3
        by_cases hr : 0 ≤ (nd N k).r
        · obtain ⟨jr, hjr⟩ : ∃ j : Nat, (nd N k).r = j := ⟨(nd N k).r.toNat, by omega⟩
          have hjrn : jr < N.length := by have := Hin.out.2.2; omega
          have mr : mOf N (nd N k).r = (nd N jr).m := by rw [hjr]; exact if_neg (by omega)
          have cr := hs5.c5 jr hjrn
          have v2 : decide (0 ≤ (jr : Int)) = true := decide_eq_true (by omega)
          rw [hjr] at p4
          have hmx : max (max (mOf N (nd N k).l) (mOf N (nd N k).r)) (nd N k).t = (max (max (nd N k).t (nd N jl).m) (nd N jr).m) := by rw [ml, mr]; omega
          have Hmx := Lib.hid hmx; clear hmx ml mr
          by_cases u6 : (nd N k).m = (max (max (nd N k).t (nd N jl).m) (nd N jr).m)
          rotate_left
          · have t6 : ((nd N k).m == (max (max (nd N k).t (nd N jl).m) (nd N jr).m)) = false := beq_eq_false_iff_ne.2 u6
            have t6' : ((nd N k).m != (max (max (nd N k).t (nd N jl).m) (nd N jr).m)) = true := by rw [bne, t6]; rfl
            have U := Lib.hid u6; clear u6
            have e : r = false := Hbad.out fun h => U.out (h.mm.trans Hmx.out)
            subst e
            clear Hr
            go_wp2_with fail
            all_goals
              go_ret
              exact ⟨rfl, hret.out⟩
          have t6 : ((nd N k).m == (max (max (nd N k).t (nd N jl).m) (nd N jr).m)) = true := beq_iff_eq.2 u6
          have t6' : ((nd N k).m != (max (max (nd N k).t (nd N jl).m) (nd N jr).m)) = false := by rw [bne, t6]; rfl
          have hloc : LocW N k := ⟨Hok.out, by rw [Hha.out, Hhb.out]; exact Hu1.out, Hu2.out, Hu3.out, by rw [Hha.out, Hhb.out]; exact Hu4.out, by rw [Hha.out, Hhb.out]; exact Hu5.out, u6.trans Hmx.out.symm⟩
          have Hloc := Lib.hid hloc; clear hloc u6
          go_wp2_with fail
          go_roundw
          case rel => exact ⟨k + 1, by go_num, by omega, fun j hj => (by
            rcases Nat.lt_or_ge j k with h | h
            · exact HL.out j h
            · obtain rfl : j = k := by omega
              exact Hloc.out), hb25⟩
          case measure => simp [intOf]; omega
        · have mr : mOf N (nd N k).r = -4398046511104 := if_pos (by omega)
          have v2 : decide (0 ≤ (nd N k).r) = false := decide_eq_false hr
          have Hr0 := Lib.hid hr; clear hr
          have hmx : max (max (mOf N (nd N k).l) (mOf N (nd N k).r)) (nd N k).t = (max (nd N k).t (nd N jl).m) := by rw [ml, mr]; omega
          have Hmx := Lib.hid hmx; clear hmx ml mr
          by_cases u6 : (nd N k).m = (max (nd N k).t (nd N jl).m)
          rotate_left
          · have t6 : ((nd N k).m == (max (nd N k).t (nd N jl).m)) = false := beq_eq_false_iff_ne.2 u6
            have t6' : ((nd N k).m != (max (nd N k).t (nd N jl).m)) = true := by rw [bne, t6]; rfl
            have U := Lib.hid u6; clear u6
            have e : r = false := Hbad.out fun h => U.out (h.mm.trans Hmx.out)
            subst e
            clear Hr
            go_wp2_with fail
            all_goals
              go_ret
              exact ⟨rfl, hret.out⟩
          have t6 : ((nd N k).m == (max (nd N k).t (nd N jl).m)) = true := beq_iff_eq.2 u6
          have t6' : ((nd N k).m != (max (nd N k).t (nd N jl).m)) = false := by rw [bne, t6]; rfl
          have hloc : LocW N k := ⟨Hok.out, by rw [Hha.out, Hhb.out]; exact Hu1.out, Hu2.out, Hu3.out, by rw [Hha.out, Hhb.out]; exact Hu4.out, by rw [Hha.out, Hhb.out]; exact Hu5.out, u6.trans Hmx.out.symm⟩
          have Hloc := Lib.hid hloc; clear hloc u6
          go_wp2_with fail
          go_roundw
          case rel => exact ⟨k + 1, by go_num, by omega, fun j hj => (by
            rcases Nat.lt_or_ge j k with h | h
            · exact HL.out j h
            · obtain rfl : j = k := by omega
              exact Hloc.out), hb25⟩
          case measure => simp [intOf]; omega
      · have ml : mOf N (nd N k).l = -4398046511104 := if_pos (by omega)
        have v1 : decide (0 ≤ (nd N k).l) = false := decide_eq_false hl
        have Hl0 := Lib.hid hl; clear hl
        by_cases hr : 0 ≤ (nd N k).r
        · obtain ⟨jr, hjr⟩ : ∃ j : Nat, (nd N k).r = j := ⟨(nd N k).r.toNat, by omega⟩
          have hjrn : jr < N.length := by have := Hin.out.2.2; omega
          have mr : mOf N (nd N k).r = (nd N jr).m := by rw [hjr]; exact if_neg (by omega)
          have cr := hs5.c5 jr hjrn
          have v2 : decide (0 ≤ (jr : Int)) = true := decide_eq_true (by omega)
          rw [hjr] at p4
          have hmx : max (max (mOf N (nd N k).l) (mOf N (nd N k).r)) (nd N k).t = (max (nd N k).t (nd N jr).m) := by rw [ml, mr]; omega
          have Hmx := Lib.hid hmx; clear hmx ml mr
          by_cases u6 : (nd N k).m = (max (nd N k).t (nd N jr).m)
          rotate_left
          · have t6 : ((nd N k).m == (max (nd N k).t (nd N jr).m)) = false := beq_eq_false_iff_ne.2 u6
            have t6' : ((nd N k).m != (max (nd N k).t (nd N jr).m)) = true := by rw [bne, t6]; rfl
            have U := Lib.hid u6; clear u6
            have e : r = false := Hbad.out fun h => U.out (h.mm.trans Hmx.out)
            subst e
            clear Hr
            go_wp2_with fail
            all_goals
              go_ret
              exact ⟨rfl, hret.out⟩
          have t6 : ((nd N k).m == (max (nd N k).t (nd N jr).m)) = true := beq_iff_eq.2 u6
          have t6' : ((nd N k).m != (max (nd N k).t (nd N jr).m)) = false := by rw [bne, t6]; rfl
          have hloc : LocW N k := ⟨Hok.out, by rw [Hha.out, Hhb.out]; exact Hu1.out, Hu2.out, Hu3.out, by rw [Hha.out, Hhb.out]; exact Hu4.out, by rw [Hha.out, Hhb.out]; exact Hu5.out, u6.trans Hmx.out.symm⟩
          have Hloc := Lib.hid hloc; clear hloc u6
          go_wp2_with fail
          go_roundw
          case rel => exact ⟨k + 1, by go_num, by omega, fun j hj => (by
            rcases Nat.lt_or_ge j k with h | h
            · exact HL.out j h
            · obtain rfl : j = k := by omega
              exact Hloc.out), hb25⟩
          case measure => simp [intOf]; omega
        · have mr : mOf N (nd N k).r = -4398046511104 := if_pos (by omega)
          have v2 : decide (0 ≤ (nd N k).r) = false := decide_eq_false hr
          have Hr0 := Lib.hid hr; clear hr
          have hmx : max (max (mOf N (nd N k).l) (mOf N (nd N k).r)) (nd N k).t = (nd N k).t := by rw [ml, mr]; omega
          have Hmx := Lib.hid hmx; clear hmx ml mr
          by_cases u6 : (nd N k).m = (nd N k).t
          rotate_left
          · have t6 : ((nd N k).m == (nd N k).t) = false := beq_eq_false_iff_ne.2 u6
            have t6' : ((nd N k).m != (nd N k).t) = true := by rw [bne, t6]; rfl
            have U := Lib.hid u6; clear u6
            have e : r = false := Hbad.out fun h => U.out (h.mm.trans Hmx.out)
            subst e
            clear Hr
            go_wp2_with fail
            all_goals
              go_ret
              exact ⟨rfl, hret.out⟩
          have t6 : ((nd N k).m == (nd N k).t) = true := beq_iff_eq.2 u6
          have t6' : ((nd N k).m != (nd N k).t) = false := by rw [bne, t6]; rfl
          have hloc : LocW N k := ⟨Hok.out, by rw [Hha.out, Hhb.out]; exact Hu1.out, Hu2.out, Hu3.out, by rw [Hha.out, Hhb.out]; exact Hu4.out, by rw [Hha.out, Hhb.out]; exact Hu5.out, u6.trans Hmx.out.symm⟩
          have Hloc := Lib.hid hloc; clear hloc u6
          go_wp2_with fail
          go_roundw
          case rel => exact ⟨k + 1, by go_num, by omega, fun j hj => (by
            rcases Nat.lt_or_ge j k with h | h
            · exact HL.out j h
            · obtain rfl : j = k := by omega
              exact Hloc.out), hb25⟩
          case measure => simp [intOf]; omega
    · obtain rfl : k = N.length := by omega
      have hLoc : ∀ j, j < N.length → Loc N j := fun j hj => loc_of (hl1pos Hl1.out hj).inr HL.out hj
      obtain ⟨L, h, m, hsub, hLl, hiff⟩ := tree_of_links Hl1.out hLoc
      have hwk := r42walk_c hsub wr _ root (hs2.below hbr) (by omega)
      have hbw5 := hbw2.trans (hbr.mono hbw2.size)
      have Hwk := Lib.hid hwk; have Hiff := Lib.hid hiff
      have hel : (entsOf N L).length ≤ 1000 := by simp [entsOf]; omega
      clear hwk hiff hsub hLoc HL hLl
      generalize entsOf N L = E at *
      go_wp2_with fail
      refine Hwk.out.mono ?_
      rintro e w3 ⟨v8, rfl, ho, hb3, _⟩
      have hE := ho.ents
      have hbw3 := hbw5.trans (hb3.mono hbw5.size)
      clear ho hb3 Hwk cT0 cT1
      obtain ⟨A8, c8, rfl, hnc8, hc8⟩ := hE.form
      go_wp2_with fail
      go_loopw [9] (fun i wr => ∃ a : Nat, i = .int .i64 ((a : Int) + 1) ∧ a ≤ E.length ∧ Hid (∀ j, j < a → (hj : j + 1 < E.length) → enLt E[j] E[j + 1]) ∧ Below w3.heap.size w3 wr) (fun i _ => E.length - (intOf i).toNat)
      case atStart => exact ⟨0, rfl, Nat.zero_le _, fun a ha => absurd ha (by omega), Below.refl _ _⟩
      case round =>
        obtain ⟨a, rfl, ha, HP, hb3⟩ := hrel
        by_cases hlt8 : a + 1 < E.length
        · obtain ⟨b8, off8, rfl, hbb8⟩ := hE.addr (by omega)
          have hEr := hE.below hb3
          have x0 := hEr.c0 a (by omega)
          have x1 := hEr.c1 a (by omega)
          have x2 := hEr.c2 a (by omega)
          have y0 := hEr.c0 (a + 1) hlt8
          have y1 := hEr.c1 (a + 1) hlt8
          have y2 := hEr.c2 (a + 1) hlt8
          have hbr8 : b8 < wr.heap.size := Nat.lt_of_lt_of_le hbb8 hb3.size
          have e0 := fun X : BW wr => bw_cell X x0 hbr8
          have e1 := fun X : BW wr => bw_cell X x1 hbr8
          have e2 := fun X : BW wr => bw_cell X x2 hbr8
          have e3 := fun X : BW wr => bw_cell X y0 hbr8
          have e4 := fun X : BW wr => bw_cell X y1 hbr8
          have e5 := fun X : BW wr => bw_cell X y2 hbr8
          have hBf := fun (X : BW wr) => r42Before_c (en E a) (en E (a + 1)) X.1
          have hret := hbw3.trans (hb3.mono hbw3.size)
          cases hd : decide (enLt (en E a) (en E (a + 1)))
          all_goals
            rw [hd] at hBf
            have HBf := Lib.hid hBf; have Hd := Lib.hid hd; have Hret := Lib.hid hret; have HhEr := Lib.hid hEr
            clear hBf hd hret hEr x0 x1 x2 y0 y1 y2
            have i1 : (a : Int) + 1 < (E.length : Int) := by omega
            have i2 : 0 ≤ (a : Int) := by omega
            have i3 : (a : Int) < (E.length : Int) := by omega
            have i4 : 0 ≤ (a : Int) + 1 := by omega
            have i5 : ((a : Int) + 1).toNat = a + 1 := by omega
            go_wp2_with fail
            refine wp_region_below (by kernel_rfl) (by kernel_rfl) ?_
            repeat (go_big_quiet_step (exact calls_bw _ (HBf.out _)))
            refine wpQuiet_nil ?_
            rintro w5 ⟨⟨_, hb5⟩, rfl⟩
            clear e0 e1 e2 e3 e4 e5
          · have e : r = false := Hr.out.trans (treeB_false fun hv => by
              have hp := List.pairwise_iff_getElem.1 (Hiff.out.2 hv) a (a + 1) (by omega) hlt8 (by omega)
              rw [en_at, en_at] at hp
              have := Hd.out
              rw [decide_eq_false_iff_not] at this
              exact this hp)
            subst e
            clear Hr
            go_wp2_with fail
            go_ret
            exact ⟨rfl, hbw3.trans ((hb3.trans (hb5.mono hb3.size)).mono hbw3.size)⟩
          · go_wp2_with fail
            go_roundw
            case rel => exact ⟨a + 1, by go_num, by omega, fun j hj hj' => (by
              rcases Nat.lt_or_ge j a with h | h
              · exact HP.out j h hj'
              · obtain rfl : j = a := by omega
                rw [en_at, en_at]
                exact of_decide_eq_true Hd.out), hb3.trans (hb5.mono hb3.size)⟩
            case measure => simp [intOf]; omega
        · have e : r = true := Hr.out.trans (treeB_true hn (Hiff.out.1 (adj_pairwise E fun j hj => HP.out j (by omega) hj)))
          subst e
          clear Hr
          have i4 : 0 ≤ (a : Int) + 1 := by omega
          have tlt : decide ((a : Int) + 1 < (E.length : Int)) = false := decide_eq_false (by omega)
          go_wp2_with fail
          go_ret
          exact ⟨rfl, hbw3.trans (hb3.mono hbw3.size)⟩
end Go.Proofs.Ytgdcgdjlhljbiaa
