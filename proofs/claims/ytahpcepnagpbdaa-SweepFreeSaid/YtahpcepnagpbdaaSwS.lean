/- The walks of the reference's At and Depth. -/
import Derived.Test.YtahpcepnagpbdaaSwJ
import Derived.Test.YtahpcepnagpbdaaSwI
import Derived.Test.YtahpcepnagpbdaaDepQ
import Derived.Test.YtahpcepnagpbdaaRunsX
import Derived.Test.YtahpcepnagpbdaaRunsZ
namespace Go.Proofs.Ytahpcepnagpbdaa
open Go.RowKit Go.Shelf

theorem atS_take {l : List Sp} {x : Int} {k : Nat} (hk : k < l.length) : atS (l.take (k + 1)) x = atS (l.take k) x + (if fr l k ≤ x ∧ x < tt l k then 1 else 0) := by
  rw [List.take_succ_eq_append_getElem hk, atS_append, sp_at l k hk]
  simp [atS]
set_option maxRecDepth 100000 in
theorem r44At_c (v : Value) (l : List Sp) (x : Int) (w : World) (hs : IsSpans w v l) (hl : l.length ≤ 100000) : Calls Try.prog 40 #[v, .int .i64 x] w fun e w' => e = .returned (.int .i64 (atS l x)) ∧ w = w' := by
  obtain ⟨A, c, rfl, hnc, hc⟩ := hs.form
  go_enter Try.func40, Try.ntmps40
  go_wp2
  go_loop [5, 6] (fun n i => ∃ (k : Nat) (N : Int), i = .int .i64 k ∧ n = .int .i64 N ∧ k ≤ l.length ∧ 0 ≤ N ∧ N ≤ k ∧ Hid (N = atS (l.take k) x)) (fun _ i => l.length - (intOf i).toNat)
  case atStart => exact ⟨0, 0, rfl, rfl, Nat.zero_le _, Int.le_refl _, Int.le_refl _, by rw [List.take_zero]; exact rfl⟩
  case round =>
    obtain ⟨k, N, rfl, rfl, hk, hN0, hN1, HN⟩ := hrel
    by_cases hlt : k < l.length
    · obtain ⟨b, off, rfl, hb⟩ := hs.addr (by omega)
      have c0 := hs.c0 k hlt
      have c1 := hs.c1 k hlt
      have hst := atS_take (x := x) hlt
      rw [← HN.out] at hst
      generalize fr l k = p at *
      generalize tt l k = q at *
      by_cases h1 : p ≤ x
      · by_cases h2 : x < q
        · rw [if_pos ⟨h1, h2⟩] at hst
          have Hst := Lib.hid hst
          clear hst HN
          go_wp2
          go_round
          case rel => exact ⟨k + 1, N + 1, by go_num, by go_num, by omega, by omega, by omega, Hst.out.symm⟩
          case measure => simp [intOf]; omega
        · rw [if_neg (fun h => h2 h.2)] at hst
          have Hst := Lib.hid hst
          clear hst HN
          go_wp2
          go_round
          case rel => exact ⟨k + 1, N, by go_num, by go_num, by omega, by omega, by omega, by rw [Hst.out, Int.add_zero]; exact rfl⟩
          case measure => simp [intOf]; omega
      · rw [if_neg (fun h => h1 h.1)] at hst
        have Hst := Lib.hid hst
        clear hst HN
        go_wp2
        go_round
        case rel => exact ⟨k + 1, N, by go_num, by go_num, by omega, by omega, by omega, by rw [Hst.out, Int.add_zero]; exact rfl⟩
        case measure => simp [intOf]; omega
    · obtain rfl : k = l.length := by omega
      have hr := HN.out
      rw [List.take_length] at hr
      subst hr
      clear HN
      go_wp2
      go_ret
      exact ⟨rfl, rfl⟩

/-- The last row of an own list of facts. -/
theorem OwnsF.last {w : World} {base : Nat} {v : Value} {R0 : List Dep} {n f t : Int} (h : OwnsF w base v (R0 ++ [(n, (f, t))])) : ∃ g cap vb vo vc, v = .slice (some ⟨g, 0, none⟩) (R0.length + 1) cap ∧ base ≤ g ∧ g < w.heap.size ∧ R0.length + 1 ≤ cap ∧ cap ≤ 9223372036854775807 ∧
    w.cell? ⟨g, R0.length * 3, none⟩ = some (.slice (some ⟨vb, vo, none⟩) 1 vc) ∧ w.cell? ⟨g, R0.length * 3 + 1, none⟩ = some (.int .i64 f) ∧ w.cell? ⟨g, R0.length * 3 + 2, none⟩ = some (.int .i64 t) ∧
    1 ≤ vc ∧ vc ≤ 9223372036854775807 ∧ vb < w.heap.size ∧ w.cell? ⟨vb, vo + 1, none⟩ = some (.int .i64 n) ∧ w.frozen? ⟨g, R0.length * 3 + 2, none⟩ = false ∧
    ∀ t', OwnsF (w.setCell ⟨g, R0.length * 3 + 2, none⟩ (.int .i64 t')) base v (R0 ++ [(n, (f, t'))]) ∧ Below base w (w.setCell ⟨g, R0.length * 3 + 2, none⟩ (.int .i64 t')) := by
  obtain ⟨R, hR, hown, hall⟩ := h
  obtain ⟨R1, r, rfl⟩ : ∃ R1 r, R = R1 ++ [r] := by
    rcases List.eq_nil_or_concat R with e | ⟨R1, r, e⟩
    · rw [e] at hR; simp at hR
    · exact ⟨R1, r, by rw [e, List.concat_eq_append]⟩
  rw [List.map_append, List.map_cons, List.map_nil] at hR
  obtain ⟨hR1, hr⟩ := List.append_inj' hR rfl
  have hr : r.2 = (n, (f, t)) := by simpa using hr
  have hl1 : R1.length = R0.length := by rw [← hR1]; simp
  have hlen : (R1 ++ [r]).length = R0.length + 1 := by simp [hl1]
  obtain ⟨g, cap, hv⟩ : ∃ g cap, v = .slice (some ⟨g, 0, none⟩) (R1 ++ [r]).length cap := by
    rcases hown.2 with ⟨_, h0⟩ | ⟨g, cap, cur, e, _⟩
    · simp at h0
    · exact ⟨g, cap, e⟩
  subst hv
  have hg := hown.lt g rfl
  have hcap : (R1 ++ [r]).length ≤ cap ∧ cap ≤ 9223372036854775807 := by
    rcases hown.2 with ⟨e, _⟩ | ⟨g', cap', cur, e, _, _, h1, h2, _⟩
    · cases e
    · injection e with _ _ e3
      subst e3
      unfold maxLen at h2
      exact ⟨h1, h2⟩
  have hcell : ∀ j, j < 3 → w.cell? ⟨g, R0.length * 3 + j, none⟩ = some (factCell (R1 ++ [r]) R1.length j) := fun j hj => by
    have hc := hown.cellAt (R1.length * 3 + j) (by simp; omega)
    rw [flatF_get (R1 ++ [r]) R1.length j (by simp) hj] at hc
    rw [← hl1]; exact hc
  have hrow : frow (R1 ++ [r]) R1.length = r := by simp [frow]
  obtain ⟨vb, ⟨vo, vc, e, h4, h5, h6, h7, h8, h9⟩, hne⟩ := hall r (by simp)
  have c0 := hcell 0 (by omega)
  have c1 := hcell 1 (by omega)
  have c2 := hcell 2 (by omega)
  rw [factCell, if_pos rfl, hrow, e] at c0
  rw [factCell, if_neg (by omega), if_pos rfl, hrow, hr] at c1
  rw [factCell, if_neg (by omega), if_neg (by omega), hrow, hr] at c2
  rw [hr] at h8
  refine ⟨g, cap, vb, vo, vc, by rw [hlen], hg.1, hg.2, by omega, hcap.2, c0, c1, c2, h5, h6, h4, h8, World.ownsRow.frozenAt hown _, fun t' => ?_⟩
  have hst := hown.stored (R0.length * 3 + 2) (.int .i64 t')
  refine ⟨⟨R1 ++ [(r.1, (n, (f, t')))], by simp [hR1], ?_, ?_⟩, ?_⟩
  · have hset : (flatF (R1 ++ [r])).set (R0.length * 3 + 2) (.int .i64 t') = flatF (R1 ++ [(r.1, (n, (f, t')))]) := by
      rw [flatF_snoc, flatF_snoc, List.set_append, if_neg (by rw [flatF_length]; omega), flatF_length, hl1, show R0.length * 3 + 2 - R0.length * 3 = 2 from by omega, hr]
      rfl
    have h1 := hst.1
    rw [hset] at h1
    simpa using h1
  · intro q hq
    have hx : AllVal (w.setCell ⟨g, R0.length * 3 + 2, none⟩ (.int .i64 t')) (R1 ++ [r]) (some g) := AllVal.grown (x := some g) hall hst.2
    rcases List.mem_append.1 hq with hq | hq
    · exact hx q (by simp [hq])
    · rw [List.mem_singleton.1 hq]
      have := hx r (by simp)
      rw [hr] at this
      exact this
  · exact (Below.refl base w).grown hst.2 (Nat.le_of_lt (Nat.lt_of_le_of_lt hg.1 hg.2)) (fun k hk => by have := Option.some.inj hk; omega)

/-- The step of append at one fact, where an operation is met alone. -/
theorem append_fact_wp {P : Program} {tS tV : TypeId} (hS : P.underlying tS = some (.slice 36)) (hE : (P.info? 36).map (fun i => (i.zero, i.size, i.bytes)) = some (some (.agg #[.slice none 0 0, .int .i64 0, .int .i64 0]), 3, 40))
    {o : Oper} {a : Act} {K : Act → World → Prop} {Q : Exit → Act → World → Prop} (s x : Operand)
    (ho : o.op = .call { callee := .builtin .append, args := #[s, x], argTypes := #[tS, tS] })
    {w : World} (base : Nat) (v : Value) (F : List Dep) (n f t : Int) (hs : a.eval s = v) (hown : OwnsF w base v F)
    (hx : a.eval x = .slice (some ⟨w.heap.size + 1, 0, none⟩) 1 1) (hlen : F.length < 900000000) (hbase : base ≤ w.heap.size)
    (h : ∀ v' w', OwnsF w' base v' (F ++ [(n, (f, t))]) → Below base w w' → K (a.put o.dst v') w') :
    o.wp P a (((w.alloc (.cells #[.int .i64 1, .int .i64 n, .string ⟨#[]⟩] tV)).alloc (.cells #[.slice (some ⟨w.heap.size, 0, none⟩) 1 1, .int .i64 f, .int .i64 t] 36)).drew) K Q := by
  obtain ⟨R, rfl, hown, hR⟩ := hown
  obtain ⟨i, hi, hz, hsz, hby⟩ := info_parts hE
  obtain ⟨v', w', hr, hown', hg, _, hob⟩ := run_append_own_at (P := P) (((w.alloc (.cells #[.int .i64 1, .int .i64 n, .string ⟨#[]⟩] tV)).alloc (.cells #[.slice (some ⟨w.heap.size, 0, none⟩) 1 1, .int .i64 f, .int .i64 t] 36)).drew) base tS o.type 36 i _ 3 40 hS hi hz hsz hby rfl (by omega) v R.length (flatF R) (show World.ownsRow _ base 36 3 v R.length (flatF R) from ((hown.alloc _).alloc _)) ⟨w.heap.size + 1, 0, none⟩ 1 1
    [.slice (some ⟨w.heap.size, 0, none⟩) 1 1, .int .i64 f, .int .i64 t] rfl (by
      intro j u hu
      rcases j with _ | _ | _ | j
      · simp at hu; subst hu; simp [Addr.add]
      · simp at hu; subst hu; simp [Addr.add]
      · simp at hu; subst hu; simp [Addr.add]
      · simp at hu) (by simp [Value.oneCell']) (by unfold maxLen; simp at hlen; omega) (by simp at hlen; omega) (by simp; omega)
  have b1 : Below w.heap.size w (((w.alloc (.cells #[.int .i64 1, .int .i64 n, .string ⟨#[]⟩] tV)).alloc (.cells #[.slice (some ⟨w.heap.size, 0, none⟩) 1 1, .int .i64 f, .int .i64 t] 36)).drew) := (((Below.refl _ _).alloc (Nat.le_refl _) _).alloc (by simp) _).trans (below_drew _ _)
  have hv : IsVal (((w.alloc (.cells #[.int .i64 1, .int .i64 n, .string ⟨#[]⟩] tV)).alloc (.cells #[.slice (some ⟨w.heap.size, 0, none⟩) 1 1, .int .i64 f, .int .i64 t] 36)).drew) (.slice (some ⟨w.heap.size, 0, none⟩) 1 1) n w.heap.size :=
    ⟨0, 1, rfl, by simp; omega, Nat.le_refl _, by omega, by simp, by simp, by simp⟩
  have hne : some w.heap.size ≠ v.ownBlock := fun e => by
    have := (hown.lt _ e.symm).2; omega
  have hR2 := ((hR.below b1).snoc (r := (.slice (some ⟨w.heap.size, 0, none⟩) 1 1, (n, (f, t)))) hv hne)
  have hR3 := hR2.grown hg
  unfold Oper.wp execOp
  simp only [ho, resolve, invoke, builtin, Sem.run_bind, Sem.run_pure, Result.andThen_ok, List.map_toArray, List.map_cons, List.map_nil, hs, hx, hr]
  refine h v' w' ⟨R ++ [(.slice (some ⟨w.heap.size, 0, none⟩) 1 1, (n, (f, t)))], by simp, ?_, ?_⟩ ?_
  · rw [flatF_snoc, List.length_append]; exact hown'
  · rcases hob with e | e
    · rw [e]; exact hR3
    · intro r hr
      obtain ⟨b, h1, h2⟩ := hR2 r hr
      exact ⟨b, h1.block (hg.block b h1.lt h2), fun e' => by rw [e] at e'; have := Option.some.inj e'; have := h1.lt; omega⟩
  · refine ((((Below.refl base w).alloc hbase _).alloc (by simp; omega) _).trans (below_drew _ _)).grown hg (by simp; omega) ?_
    intro k hk
    exact (hown.lt k hk).1
theorem ends_is {l : List Sp} {E : List Int} (h : EndsSpec l l.length E) : IsEnds l E := ⟨h.asc, fun x => (h.mem x).trans ⟨fun ⟨i, h1, _, h3⟩ => ⟨_, idx_mem h1, h3⟩, fun ⟨s, hs, h⟩ => by
  obtain ⟨i, hi, rfl⟩ := List.mem_iff_getElem.1 hs
  rw [sp_at l i hi] at h
  exact ⟨i, hi, hi, h⟩⟩⟩
def DepRefRet (l : List Sp) (w : World) (e : Ending) (w' : World) : Prop := ∃ F v, DepRes l F ∧ e = .returned v ∧ IsFacts w' v F ∧ Below w.heap.size w w'
set_option maxRecDepth 100000 in
set_option maxHeartbeats 4000000 in
theorem r44Depth_c (v : Value) (l : List Sp) (w : World) (hs : IsSpans w v l) (hl : l.length ≤ 10000) (hok : ∀ s ∈ l, s.1 < s.2) : Calls Try.prog 34 #[v] w (DepRefRet l w) := by
  obtain ⟨A, c, rfl, hnc, hc⟩ := hs.form
  have Hok := Lib.hid hok
  clear hok
  go_enter Try.func34, Try.ntmps34
  go_wp2_with fail
  refine (r12Ends_c _ l _ hs hl).mono ?_
  rintro e w1 ⟨E, v1, hE, rfl, h1, hb1⟩
  have hE2 := ends_is hE
  have hEl := hE.len
  have hs1 := hs.below hb1
  obtain ⟨A1, c1, rfl, hn1, hc1⟩ := h1.form
  have HE := Lib.hid hE2
  clear hE hE2 hs
  go_wp2_with fail
  go_loopw [4, 5] (fun o i wr => ∃ (k : Nat) (R : List Dep), i = .int .i64 k ∧ (k = 0 ∨ k < E.length) ∧ Hid (R = refL l E k) ∧ R.length ≤ k ∧ OwnsF wr w1.heap.size o R ∧ Below w1.heap.size w1 wr) (fun _ i _ => E.length - (intOf i).toNat)
  case atStart => exact ⟨0, [], rfl, .inl rfl, by rw [refL_zero]; exact rfl, Nat.le_refl _, OwnsF.nil _ _, Below.refl _ _⟩
  case round =>
    obtain ⟨k, R, rfl, hk, HR, hRl, hown, hbw⟩ := hrel
    by_cases hlt : k + 1 < E.length
    · obtain ⟨b1, o1, rfl, hg1⟩ := h1.addr (by omega)
      have c0 := (h1.below hbw).c0 k (by omega)
      have c2 := (h1.below hbw).c0 (k + 1) hlt
      have hcase := ref_step HE.out hlt
      rw [← HR.out] at hcase
      have hat := r44At_c _ l (iv E k) wr (hs1.below hbw) (by omega)
      generalize iv E k = p at *
      generalize iv E (k + 1) = q at *
      have hnn := (atS_nonneg l p)
      generalize atS l p = n at *
      have HAt := Lib.hid hat
      have Hcase := Lib.hid hcase
      clear hat hcase
      go_wp2_with fail
      refine HAt.out.mono ?_
      rintro e w2 ⟨rfl, rfl⟩
      rcases Hcase.out with ⟨h0, hR'⟩ | ⟨h0, R0, f, hR0, hR'⟩ | ⟨h0, hR', hlast⟩
      · have h0' : (n == 0) = true := beq_iff_eq.2 h0
        have HR2 : Hid (R = refL l E (k + 1)) := hR'.symm
        subst h0
        clear hR' Hcase HR
        go_wp2
        go_roundw
        case rel => exact ⟨k + 1, R, by go_num, .inr hlt, HR2, by omega, hown, hbw⟩
        case measure => simp [intOf]; omega
      · have h0' : (n == 0) = false := beq_eq_false_iff_ne.2 h0
        subst hR0
        have HR2 : Hid (R0 ++ [(n, (f, q))] = refL l E (k + 1)) := hR'.symm
        obtain ⟨g, cap, vb, vo, vc, rfl, hgb, hgl, hca1, hca2, d0, d1, d2, d3, d4, d5, d6, hfz, hset⟩ := hown.last
        clear hset
        have hRl' : R0.length + 1 ≤ k := by simpa using hRl
        clear hR' Hcase HR h0 hRl hfz
        go_wp2
        have e0 := fun X : BW wr => bw_cell X d0 hgl
        have e1 := fun X : BW wr => bw_cell X d1 hgl
        have e2 := fun X : BW wr => bw_cell X d2 hgl
        have e3 := fun X : BW wr => bw_cell X d6 d5
        have e4 := fun X : BW wr => bw_cell X c0 (Nat.lt_of_lt_of_le hg1 hbw.size)
        have t1 : decide ((0 : Int) ≤ (R0.length : Int)) = true := decide_eq_true (by omega)
        refine wp_region_below (by kernel_rfl) (by kernel_rfl) ?_
        repeat (go_big_quiet_step (fail))
        refine wpQuiet_nil ?_
        rintro w5 ⟨⟨_, hb5⟩, rfl⟩
        clear e0 e1 e2 e3 e4 d0 d1 d2 d6
        have hbw5 := hbw.trans (hb5.mono hbw.size)
        have c2 := (hb5.cell (p := ⟨b1, o1 + (k + 1), none⟩) (Nat.lt_of_lt_of_le hg1 hbw.size)).trans c2
        obtain ⟨g', cap', vb', vo', vc', hv', hgb', hgl', _, _, d0, d1, d2, _, _, _, _, hfz, hset⟩ := (hown.below hb5).last
        injection hv' with a1 a2 a3
        injection a1 with a1
        injection a1 with a1
        subst a1 a3
        have Hset := Lib.hid (hset q)
        clear hset hown
        go_wp2
        go_roundw
        case rel => exact ⟨k + 1, R0 ++ [(n, (f, q))], by go_num, .inr hlt, HR2, by simp; omega, Hset.out.1, hbw5.trans Hset.out.2⟩
        case measure => simp [intOf]; omega
      · have h0' : (n == 0) = false := beq_eq_false_iff_ne.2 h0
        have HR2 : Hid (R ++ [(n, (p, q))] = refL l E (k + 1)) := hR'.symm
        clear hR' Hcase HR
        rcases hlast with rfl | ⟨R0, n', f', t', rfl, hne⟩
        · obtain ⟨Ao, co, rfl, _, _⟩ := hown.facts.form
          clear h0
          go_wp2
          have e4 := fun X : BW wr => bw_cell X c0 (Nat.lt_of_lt_of_le hg1 hbw.size)
          refine wp_region_below (by kernel_rfl) (by kernel_rfl) ?_
          repeat (go_big_quiet_step (fail))
          refine wpQuiet_nil ?_
          rintro w5 ⟨⟨_, hb5⟩, rfl⟩
          clear e4
          have hbw5 := hbw.trans (hb5.mono hbw.size)
          have c0 := (hb5.cell (p := ⟨b1, o1 + k, none⟩) (Nat.lt_of_lt_of_le hg1 hbw.size)).trans c0
          have c2 := (hb5.cell (p := ⟨b1, o1 + (k + 1), none⟩) (Nat.lt_of_lt_of_le hg1 hbw.size)).trans c2
          have hown5 : OwnsF w5 w1.heap.size (.slice Ao 0 co) [] := hown.below hb5
          clear hown
          go_wp2_with fail
          have i1 : k < E.length := by omega
          have i2 : (k : Int) < (E.length : Int) := by omega
          have i3 : (k : Int) + 1 < (E.length : Int) := by omega
          have i4 : 0 ≤ (k : Int) := by omega
          have i5 : 0 ≤ (k : Int) + 1 := by omega
          have i6 : IntKind.i64.wrap ((k : Int) + 1) = (k : Int) + 1 := IntWalk.i64_in _ (by omega)
          have i7 : ((k : Int) + 1).toNat = k + 1 := by omega
          have n0 := World.new_ne w5 _ c0
          have n2 := World.new_ne w5 _ c2
          go_region_held3 (fun w' => w'.cell? ⟨b1, o1 + k, none⟩ = some (.int .i64 p) ∧ w'.cell? ⟨b1, o1 + (k + 1), none⟩ = some (.int .i64 q)) (go_keep) (first | (rw [if_pos (by rfl)]; refine append_fact_wp Try.underlying32 tFactInfo (.tmp 65) (.tmp 80) (by rfl) w1.heap.size _ [] n p q (by rfl) hown5 (by rfl) (by simp) hbw5.size (fun v7 w7 hown7 hb7 => ?_); have k0 := (hb7.cell (p := ⟨b1, o1 + k, none⟩) hg1).trans c0; have k2 := (hb7.cell (p := ⟨b1, o1 + (k + 1), none⟩) hg1).trans c2))
          clear i1 i2 i3 i4 i5 i6 i7 n0 n2 c0 c2 k0 k2
          go_wp2
          go_roundw
          case rel => exact ⟨k + 1, [] ++ [(n, (p, q))], by go_num, .inr hlt, HR2, by simp, hown7, hbw5.trans hb7⟩
          case measure => simp [intOf]; omega
        · have hRl' : R0.length + 1 ≤ k := by simpa using hRl
          obtain ⟨g, cap, vb, vo, vc, rfl, hgb, hgl, hca1, hca2, d0, d1, d2, d3, d4, d5, d6, hfz, hset⟩ := hown.last
          clear hset hfz hRl h0
          have hq : (n' == n) = false ∨ ((n' == n) = true ∧ (t' == p) = false) := by
            by_cases e : n' = n
            · exact .inr ⟨beq_iff_eq.2 e, beq_eq_false_iff_ne.2 (fun e' => hne.elim (fun h => h e) (fun h => h e'))⟩
            · exact .inl (beq_eq_false_iff_ne.2 e)
          clear hne
          rcases hq with q1 | ⟨q1, q2⟩
          all_goals
            go_wp2
            have e0 := fun X : BW wr => bw_cell X d0 hgl
            have e1 := fun X : BW wr => bw_cell X d1 hgl
            have e2 := fun X : BW wr => bw_cell X d2 hgl
            have e3 := fun X : BW wr => bw_cell X d6 d5
            have e4 := fun X : BW wr => bw_cell X c0 (Nat.lt_of_lt_of_le hg1 hbw.size)
            have t1 : decide ((0 : Int) ≤ (R0.length : Int)) = true := decide_eq_true (by omega)
            refine wp_region_below (by kernel_rfl) (by kernel_rfl) ?_
            repeat (go_big_quiet_step (fail))
            refine wpQuiet_nil ?_
            rintro w5 ⟨⟨_, hb5⟩, rfl⟩
            clear e0 e1 e2 e3 e4 d0 d1 d2 d6
            have hbw5 := hbw.trans (hb5.mono hbw.size)
            have c0 := (hb5.cell (p := ⟨b1, o1 + k, none⟩) (Nat.lt_of_lt_of_le hg1 hbw.size)).trans c0
            have c2 := (hb5.cell (p := ⟨b1, o1 + (k + 1), none⟩) (Nat.lt_of_lt_of_le hg1 hbw.size)).trans c2
            have hown5 := hown.below hb5
            clear hown
            go_wp2_with fail
            have i1 : k < E.length := by omega
            have i2 : (k : Int) < (E.length : Int) := by omega
            have i3 : (k : Int) + 1 < (E.length : Int) := by omega
            have i4 : 0 ≤ (k : Int) := by omega
            have i5 : 0 ≤ (k : Int) + 1 := by omega
            have i6 : IntKind.i64.wrap ((k : Int) + 1) = (k : Int) + 1 := IntWalk.i64_in _ (by omega)
            have i7 : ((k : Int) + 1).toNat = k + 1 := by omega
            have n0 := World.new_ne w5 _ c0
            have n2 := World.new_ne w5 _ c2
            go_region_held3 (fun w' => w'.cell? ⟨b1, o1 + k, none⟩ = some (.int .i64 p) ∧ w'.cell? ⟨b1, o1 + (k + 1), none⟩ = some (.int .i64 q)) (go_keep) (first | (rw [if_pos (by rfl)]; refine append_fact_wp Try.underlying32 tFactInfo (.tmp 65) (.tmp 80) (by rfl) w1.heap.size _ (R0 ++ [(n', (f', t'))]) n p q (by rfl) hown5 (by rfl) (by simp; omega) hbw5.size (fun v7 w7 hown7 hb7 => ?_); have k0 := (hb7.cell (p := ⟨b1, o1 + k, none⟩) hg1).trans c0; have k2 := (hb7.cell (p := ⟨b1, o1 + (k + 1), none⟩) hg1).trans c2))
            clear i1 i2 i3 i4 i5 i6 i7 n0 n2 c0 c2 k0 k2
            go_wp2
            go_roundw
            case rel => exact ⟨k + 1, (R0 ++ [(n', (f', t'))]) ++ [(n, (p, q))], by go_num, .inr hlt, HR2, by simp; omega, hown7, hbw5.trans hb7⟩
            case measure => simp [intOf]; omega
    · have hres := ref_done Hok.out HE.out hlt hk
      rw [← HR.out] at hres
      have Hres := Lib.hid hres
      have hfa := hown.facts
      have hfin := hb1.trans (hbw.mono hb1.size)
      clear hres HR
      go_wp2
      go_ret
      exact ⟨R, _, Hres.out, rfl, hfa, hfin⟩
end Go.Proofs.Ytahpcepnagpbdaa
