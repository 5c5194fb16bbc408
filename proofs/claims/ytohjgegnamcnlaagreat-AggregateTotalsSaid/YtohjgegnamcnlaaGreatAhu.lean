/- Law 39: the visitor of aggregate.Top: the walk. -/
import Derived.Deep.RegionHeld3
import Derived.Test.YtohjgegnamcnlaaGreatZad
namespace Go.Proofs.YtohjgegnamcnlaaGreat
open Go.RowKit Go.Shelf

def TopVRet (F : List Fct) (colI : Int) (base zs z1 : Nat) (w0 : World) (bc bt p bv bs : Nat) (X : World) (Vs : List Vis) (e : Ending) (w' : World) : Prop :=
  ∃ c : Int, e = .returned (.int .i64 c) ∧ Kv base zs z1 X w' ∧ if c = 0 then TopJ F colI base zs z1 w0 bc bt p bv bs Vs w' else False
theorem own_tag {w : World} {c1 c2 k1 k2 n1 n2 g : Nat} {e1 e2 : TypeId} {v1 v2 : Value} {x1 x2 : List Value} (h1 : w.ownsRow c1 e1 k1 v1 n1 x1) (h2 : w.ownsRow c2 e2 k2 v2 n2 x2) (he : e1 ≠ e2) (g1 : v1.ownBlock = some g) (g2 : v2.ownBlock = some g) : False := by
  rcases h1.2 with ⟨rfl, _⟩ | ⟨b1, cap1, cur1, rfl, _, q1, _⟩
  · cases g1
  rcases h2.2 with ⟨rfl, _⟩ | ⟨b2, cap2, cur2, rfl, _, q2, _⟩
  · cases g2
  have e1 : b1 = g := Option.some.inj g1
  have e2 : b2 = g := Option.some.inj g2
  subst e1 e2
  rw [q1] at q2
  injection q2 with q2
  injection q2 with _ q2
  exact he q2
theorem top_res (col : Nat) (R : List VRow) : resR 4 col R = ((resR 4 col R).1, 0) := by
  unfold resR
  rw [if_neg (by decide), if_neg (by decide)]
set_option maxRecDepth 100000 in
set_option maxHeartbeats 8000000 in
theorem atop1_c {F : List Fct} {S : Nat → Value} {n0 : Nat} {colI : Int} {base zs z1 : Nat} {w0 : World} {v0 : Value} {bc bt p bv bs : Nat} (hE : GrpE F S n0 [] 4 colI base w0 v0 (.slice none 0 0)) (hbz : base ≤ zs) (hz1 : zs ≤ z1) (hx : bc < zs ∧ bt < zs)
    (X : World) (v : Value) (js : List Nat) (Vs : List Vis) (s : Sp) (hJ : TopJ F colI base zs z1 w0 bc bt p bv bs Vs X) (hzX : z1 ≤ X.heap.size) (hV : ∃ P, VisOk F (Vs ++ [(s, rowsJ F js)]) P) (hown : ∃ q, X.ownsRow q 47 1 v js.length (js.map S)) (hjs : ∀ j ∈ js, j < F.length) (_hjl : js.length ≤ 2000) (hVl : Vs.length ≤ 2000) :
    Calls Tryz.prog 64 #[.agg #[.int .i64 s.1, .int .i64 s.2], v, .pointer (some ⟨bc, 0, none⟩), .pointer (some ⟨bt, 0, none⟩)] X (TopVRet F colI base zs z1 w0 bc bt p bv bs X (Vs ++ [(s, rowsJ F js)])) := by
  obtain ⟨q, hown⟩ := hown
  obtain ⟨P, hV⟩ := hV
  obtain ⟨hnd, hne, _⟩ := hV.rows (s, rowsJ F js) (by simp)
  have hpos : 0 < js.length := by
    rcases Nat.eq_zero_or_pos js.length with e | e
    · rw [List.length_eq_zero_iff] at e
      subst e
      exact absurd rfl hne
    · exact e
  have hjF : js.length ≤ F.length := js_len hnd hjs
  have hFV : F.length * Vs.length ≤ 1000 * 2000 := Nat.mul_le_mul hE.len hVl
  have hlen := hE.len
  obtain ⟨hspan, hvl⟩ := vis_last hV hE.line
  have hw0 : base = w0.heap.size := hE.base
  obtain ⟨hbX, ⟨hc, ht⟩, nt, E0, U0, T0, A0, htab0, htok0, hA0, hnt0, hfl0⟩ := hJ
  have hrows := rj_own hown
  obtain ⟨g, cap, rfl, hg1, hg2, hg3, hg4⟩ := own_formG hown hpos
  have hgc : X.cell? ⟨g, 0, none⟩ = some (S (js.getD 0 0)) := by
    have := RowsIn.cells hrows 0 0 hpos (by omega)
    simpa using this
  have hgv : g ≠ bv := fun e => by
    have := htab0.vals.cell 0
    rw [← e, hgc] at this
    cases this
  have hgs : g ≠ bs := fun e => by
    have := htab0.spans.cell 0
    rw [← e, hgc] at this
    cases this
  have hgT : ∀ j, j < E0.length → ∀ b, (T0 j).ownBlock = some b → b < X.heap.size ∧ b ≠ g := fun j hj b hb => ⟨(htab0.sp_blk hj hb).2, fun e => own_tag hown (htab0.own j hj) (by decide) (by rw [e]; rfl) hb⟩
  have hrv : ∀ W, Below X.heap.size X W → IsRv W (.slice (some ⟨g, 0, none⟩) js.length cap) (rowsJ F js) := fun W h => by
    have hl : (rowsJ F js).length = js.length := by simp [rowsJ]
    refine ⟨fun i => S (js.getD i 0), by rw [hl]; exact hrows.below h, fun i hi => ?_⟩
    rw [hl] at hi
    rw [vr_rowsJ hi]
    have hB := hbX.trans (h.mono (by omega))
    rw [hw0] at hB
    exact (hE.fs.2 _ (hjs _ (getD_mem hi))).below hB
  have hgr : ∀ r ∈ rowsJ F js, okR r ∧ r.length = n0 := fun r hr => by
    obtain ⟨j, hj, rfl⟩ := List.mem_map.1 hr
    exact hE.row _ (fc_mem (hjs j hj))
  obtain ⟨hc0, hcn⟩ := hE.col (by decide)
  have hRl : (rowsJ F js).length = js.length := by simp [rowsJ]
  have KR : Hid (∀ W, Below X.heap.size X W → Calls Tryz.prog 38 #[.slice (some ⟨g, 0, none⟩) js.length cap, .int .i64 4, .int .i64 colI] W (Ret W (.tuple #[encV (resR 4 colI.toNat (rowsJ F js)).1, .int .i64 0]))) := Lib.hid fun W h => by
    have := aresult_c _ (rowsJ F js) 4 colI W (hrv W h) (by omega) (by omega) hE.fnk (fun _ => ⟨hc0, fun r hr => by rw [(hgr r hr).2]; exact hcn⟩) fun r hr => (hgr r hr).1
    rw [top_res] at this
    exact this
  have hbok := res_ok (fn := 4) (col := colI.toNat) (G := rowsJ F js) hne (by omega) hE.fnk (fun _ r hr => by rw [(hgr r hr).2]; exact hcn) (fun r hr => (hgr r hr).1) (by rw [top_res])
  obtain ⟨⟨r1, r2, r3⟩, hres⟩ : ∃ r, r = (resR 4 colI.toNat (rowsJ F js)).1 := ⟨_, rfl⟩
  rw [← hres] at KR hbok
  unfold encV at KR
  simp only at KR
  have HRes := Lib.hid hres; have HBok := Lib.hid hbok; have HE := Lib.hid hE; have Hjs := Lib.hid hjs; have HV := Lib.hid hV; have HNd := Lib.hid hnd
  have HTab := Lib.hid htab0; have HTok := Lib.hid htok0; have HA0 := Lib.hid hA0; have HNt := Lib.hid hnt0; have HFl := Lib.hid hfl0
  have HOwn0 := Lib.hid hgT; have HRows := Lib.hid hrows; have Hw0 := Lib.hid hw0; have HSpan := Lib.hid hspan; have HVl := Lib.hid hvl; have HFV := Lib.hid hFV
  have HC := Lib.hid hc; have HT0 := Lib.hid ht
  have hbvz : bv < zs ∧ bs < zs := ⟨htab0.hi.2.1, htab0.hi.2.2⟩
  have HNm : Hid ((bc ≠ bv ∧ bc ≠ bs) ∧ (bt ≠ bv ∧ bt ≠ bs)) := Lib.hid ⟨⟨hc.notmap htab0.vals, hc.notmap htab0.spans⟩, ⟨ht.notmap htab0.vals, ht.notmap htab0.spans⟩⟩
  clear hres hbok hE hjs hV hnd hne htab0 htok0 hA0 hnt0 hfl0 hgT hw0 hspan hvl hFV hrv hgr hown hrows hgc hc ht hRl
  have hb1 := (Below.refl X.heap.size X).alloc (Nat.le_refl _) (.cells #[.int .i64 s.1, .int .i64 s.2] 34)
  have hsb := heap_alloc_new X (.cells #[.int .i64 s.1, .int .i64 s.2] 34)
  have hs1 : X.heap.size < (X.alloc (.cells #[.int .i64 s.1, .int .i64 s.2] 34)).heap.size := by simp
  obtain ⟨W0, hW0⟩ : ∃ Y, Y = X.alloc (.cells #[.int .i64 s.1, .int .i64 s.2] 34) := ⟨_, rfl⟩
  rw [← hW0] at hb1 hsb hs1
  have HW0 := Lib.hid hW0
  clear hW0
  have hcB := HC.out.cell
  have hcl := HC.out.lt
  have HA0s : Hid (∀ a ∈ A0, a.2.2 ≤ s.1) := Lib.hid fun a ha => by
    obtain ⟨v, hv, e, _⟩ := (HA0.out a).1 ha
    rw [← e]
    exact HVl.out v hv
  have hbase : base ≤ X.heap.size := by omega
  go_enter Tryz.func64, Tryz.ntmps64
  go_wp2_with fail
  rw [← HW0.out]
  refine (KR.out W0 hb1).mono ?_
  rintro e W1 ⟨rfl, hb2⟩
  have hbA := hb1.trans (hb2.mono hb1.size)
  obtain ⟨Y, hY⟩ : ∃ Q, Q = W1.alloc (.cells #[.int .i64 r1, .int .i64 r2, .string r3] 51) := ⟨_, rfl⟩
  have hbY : Below X.heap.size X Y := by rw [hY]; exact hbA.alloc hbA.size _
  have hq1 : X.heap.size < W1.heap.size := by have := hb2.size; omega
  have hYz : Y.heap.size = W1.heap.size + 1 := by rw [hY]; simp
  have hbest : Y.heap[W1.heap.size]? = some (.cells #[.int .i64 r1, .int .i64 r2, .string r3] 51 (0, 0)) := by rw [hY]; exact heap_alloc_new W1 _
  have hspb : Y.heap[X.heap.size]? = some (.cells #[.int .i64 s.1, .int .i64 s.2] 34 (0, 0)) := by rw [hY]; exact (((Below.refl _ W1).alloc (Nat.le_refl _) _).block _ hq1).trans ((hb2.block _ hs1).trans hsb)
  have HY := Lib.hid hY; have HBest := Lib.hid hbest; have HSpb := Lib.hid hspb
  clear hY hbest hspb hsb hb2 hbA hcB hb1
  go_wp2_with fail
  rw [← HY.out]
  try go_frame
  go_loopw [19] (fun i Z => ∃ (m n : Nat) (E : List Ent) (U T : Nat → Value) (A : List Fct), i = .int .i64 (m : Int) ∧ m ≤ js.length ∧ Hid (TabAt base zs z1 Z p bv bs n E U T) ∧ Hid (TabOk E A) ∧ Hid (TopM F colI.toNat js s A0 m A) ∧ n ≤ nt + m ∧ (flatE E).length ≤ n ∧ Hid (FrT base z1 X Y Z bv bs g E T)) (fun i _ => js.length - (intOf i).toNat)
  case atStart => exact ⟨0, nt, E0, U0, T0, A0, rfl, Nat.zero_le _, Lib.hid (HTab.out.below hbY), HTok, Lib.hid TopM.zero, Nat.le_refl _, HFl.out, Lib.hid ⟨hbY.mono hbase, fun b h1 h2 => rfl, fun b h1 h2 h3 => hbY.block b (by omega), hbY.block g hg2, fun j hj b hb => .inl (HOwn0.out j hj b hb), Nat.le_refl _⟩⟩
  case round =>
    obtain ⟨m, n, E, U, T, A, rfl, hm, HT, HOk, HM, hnm, hfl, HF⟩ := hrel
    rename World => Z
    have hBX : Below base X Z := HF.out.bel
    have hBZ : Below w0.heap.size w0 Z := by
      have := hbX.trans hBX
      rw [Hw0.out] at this
      exact this
    have hZs := HF.out.sz
    by_cases hlt : m < js.length
    · have hjm := Hjs.out _ (getD_mem hlt)
      have c0 : Z.cell? ⟨g, m, none⟩ = some (S (js.getD m 0)) := by
        have h := RowsIn.cells HRows.out m 0 hlt (by omega)
        simp only [Nat.mul_one, Nat.add_zero, Nat.zero_add] at h
        exact (World.cell?_of_block HF.out.rows).trans h
      obtain ⟨row, hrow⟩ : ∃ r, r = (fc F (js.getD m 0)).1 := ⟨_, rfl⟩
      have hr0 := HE.out.fs.2 _ hjm
      obtain ⟨hrok, hrl⟩ := HE.out.row _ (fc_mem hjm)
      rw [← hrow] at hr0 hrok hrl
      have hn0 := HE.out.n0r
      obtain ⟨Ar, cr, hSr, hnr, hcr⟩ := hr0.form
      rw [hSr] at c0 hr0
      obtain ⟨br, ob, rfl, hbr0⟩ := hr0.addr (by omega)
      have hr := hr0.below hBZ
      have hkr : colI.toNat < row.length := by omega
      have hki : colI < (row.length : Int) := by omega
      have hbrZ : br < Z.heap.size := Nat.lt_of_lt_of_le hbr0 hBZ.size
      have hvx := hrok _ (va_mem hkr)
      have x1 := hr.c0 _ hkr
      have x2 := hr.c1 _ hkr
      have x3 := hr.c2 _ hkr
      have HSk : Hid (TopM F colI.toNat js s A0 m A → va row colI.toNat ≠ (r1, r2, r3) → TopM F colI.toNat js s A0 (m + 1) A) := Lib.hid fun h hne => h.skip (by rw [← hrow, ← HRes.out]; exact hne)
      have HAd : Hid (TopM F colI.toNat js s A0 m A → va row colI.toNat = (r1, r2, r3) → TopM F colI.toNat js s A0 (m + 1) (A ++ [(row, s)])) := Lib.hid fun h he => by
        have := h.add (by rw [← hrow, ← HRes.out]; exact he)
        rw [← hrow] at this
        exact this
      have HAp : Hid (∀ a ∈ A, a.1 = row → a.2.2 ≤ s.1) := Lib.hid (by rw [hrow]; exact topM_apart HM.out hlt HNd.out HA0s.out)
      generalize va row colI.toNat = xa at *
      obtain ⟨xk, xn, xs⟩ := xa
      simp only at x1 x2 x3
      have HEq : Hid (cmpV (xk, xn, xs) (r1, r2, r3) = 0 ↔ (xk, xn, xs) = (r1, r2, r3)) := Lib.hid (ordV.eq _ _)
      have HVx := Lib.hid hvx.1
      have KC : Hid (∀ Q, Calls Tryz.prog 65 #[.agg #[.int .i64 xk, .int .i64 xn, .string xs], .agg #[.int .i64 r1, .int .i64 r2, .string r3]] Q (Ret Q (.int .i64 (cmpV (xk, xn, xs) (r1, r2, r3))))) := Lib.hid fun Q => (vCompare_c (xk, xn, xs) (r1, r2, r3) Q).mono fun _ _ ⟨he, hw⟩ => ⟨by rw [he, HVx.out, HBok.out.1]; rfl, gw_below hw⟩
      generalize cmpV (xk, xn, xs) (r1, r2, r3) = d at KC HEq
      have hbe : Z.heap[W1.heap.size]? = some (.cells #[.int .i64 r1, .int .i64 r2, .string r3] 51 (0, 0)) := (HF.out.hi W1.heap.size (by omega) (by omega)).trans HBest.out
      have hsp : Z.heap[X.heap.size]? = some (.cells #[.int .i64 s.1, .int .i64 s.2] 34 (0, 0)) := (HF.out.hi X.heap.size (Nat.le_refl _) (by omega)).trans HSpb.out
      have hcz := HC.out.block (HF.out.lo bc (by omega) HNm.out.1.1 HNm.out.1.2)
      have htz := HT0.out.block (HF.out.lo bt (by omega) HNm.out.2.1 HNm.out.2.2)
      have y1 := blk_get hbe 0
      have y2 := blk_get hbe 1
      have y3 := blk_get hbe 2
      simp at y1 y2 y3
      have hbl := blk_lt hbe
      have e0 := fun x : BW Z => bw_cell x hcz.cell hcz.lt
      have e1 := fun x : BW Z => bw_cell x x1 hbrZ
      have e2 := fun x : BW Z => bw_cell x x2 hbrZ
      have e3 := fun x : BW Z => bw_cell x x3 hbrZ
      have e4 := fun x : BW Z => bw_cell x y1 hbl
      have e5 := fun x : BW Z => bw_cell x y2 hbl
      have e6 := fun x : BW Z => bw_cell x y3 hbl
      have HSp := Lib.hid hsp; have HTz := Lib.hid htz; have HR0 := Lib.hid hr0; have Hlt := Lib.hid hlt
      have HRok := Lib.hid hrok; have HRl := Lib.hid hrl; have HSr := Lib.hid hSr
      clear hr hr0 hrok hrow x1 x2 x3 y1 y2 y3 hbe hsp hcz htz hvx hSr hrl
      go_wp2_with fail
      refine wp_region_below (by kernel_rfl) (by kernel_rfl) ?_
      repeat (go_big_quiet_step ((go_at_call 65; exact calls_bw _ (KC.out _))))
      refine wpQuiet_nil ?_
      rintro w5 ⟨⟨_, hb5⟩, rfl⟩
      clear e0 e1 e2 e3 e4 e5 e6
      cases q : (d == 0)
      · have HM' := Lib.hid (HSk.out HM.out (fun e => by rw [HEq.out.2 e] at q; cases q))
        have HT' := Lib.hid (HT.out.below hb5)
        have HF' : Hid (FrT base z1 X Y w5 bv bs g E T) := Lib.hid ⟨hBX.trans (hb5.mono (by omega)), fun b h1 h2 => (hb5.block b (by omega)).trans (HF.out.hi b h1 h2), fun b h1 h2 h3 => (hb5.block b (by omega)).trans (HF.out.lo b h1 h2 h3), (hb5.block g (by omega)).trans HF.out.rows, HF.out.own, Nat.le_trans hZs hb5.size⟩
        clear hb5 c0
        go_wp2_with fail
        go_roundw
        case rel => exact ⟨m + 1, n, E, U, T, A, by go_num, Hlt.out, HT', HOk, HM', by omega, hfl, HF'⟩
        case measure => have := Hlt.out; simp [intOf]; omega
      · have HM' := Lib.hid (HAd.out HM.out (HEq.out.1 (eq_of_beq q)))
        have HT5 := Lib.hid (HT.out.below hb5)
        have hB5 := hBZ.trans (hb5.mono hBZ.size)
        have hs5 := hb5.size
        have s5 := (hb5.block _ (blk_lt HSp.out)).trans HSp.out
        have u0 := blk_get s5 0
        have u1 := blk_get s5 1
        simp at u0 u1
        have t5 := (HTz.out.block (hb5.block _ HTz.out.lt)).cell
        have hrow2 : okR row ∧ 1 ≤ row.length ∧ row.length ≤ 100 := ⟨HRok.out, by rw [HRl.out]; omega, by rw [HRl.out]; omega⟩
        have hcn2 := HNt.out; have hfv := HFV.out
        have KA := Lib.hid (aadd_c HT5.out (by omega) hbz hz1 (by omega) _ row (HR0.out.below hB5) hrow2 s (fun b e => .inl (by have h1 : br = b := Option.some.inj e; have h2 := Hw0.out; omega)) (fun j hj b e e2 => by
          have h1 : br = b := Option.some.inj e
          have h2 := (HT5.out.sp_blk hj e2).1
          have h3 := Hw0.out
          omega) fun e he => by have := ent_flat he; omega)
        have HRow2 := Lib.hid hrow2
        have HB5 := Lib.hid hb5
        clear hb5 s5 hrow2 hcn2 hfv c0 hB5
        go_wp2_with fail
        refine KA.out.mono ?_
        rintro e Wb ⟨rfl, U2, T2, htab2, hkeep2⟩
        have htok := HOk.out.add HT5.out.eok (r := row) (s := s) HRow2.out.1 HSpan.out HAp.out
        have hs9 := hkeep2.size
        have hfr : FrT base z1 X Y Wb bv bs g (addE E row s) T2 := ⟨(hBX.trans (HB5.out.mono (by omega))).trans hkeep2.bel, fun b h1 h2 => ((hkeep2.oth b (by omega) (by omega) (by omega) (fun j hj e => by rcases HF.out.own j hj b e with h | h <;> omega)).trans (HB5.out.block b (by omega))).trans (HF.out.hi b h1 h2), fun b h1 h2 h3 => ((hkeep2.oth b (by omega) h2 h3 (fun j hj e => by have := (HT5.out.sp_blk hj e).1; omega)).trans (HB5.out.block b (by omega))).trans (HF.out.lo b h1 h2 h3), ((hkeep2.oth g (by omega) hgv hgs (fun j hj e => by rcases HF.out.own j hj g e with h | h <;> omega)).trans (HB5.out.block g (by omega))).trans HF.out.rows, fun j hj b e => by
          rcases hkeep2.own j hj b e with ⟨l, hl, e2⟩ | e2
          · exact HF.out.own l hl b e2
          · exact .inr (by omega), by omega⟩
        have hfl2 := flatE_add E row s
        have HFR := Lib.hid hfr; have HTK := Lib.hid htok; have HT2 := Lib.hid htab2
        clear hfr htok htab2 hkeep2 u0 u1 t5
        go_wp2_with fail
        go_roundw
        case rel => exact ⟨m + 1, n + 1, _, U2, T2, _, by go_num, Hlt.out, HT2, HTK, HM', by omega, by omega, HFR⟩
        case measure => have := Hlt.out; simp [intOf]; omega
    · obtain rfl : m = js.length := by omega
      have hDone := HM.out.done HA0.out
      have HD := Lib.hid hDone
      clear hDone
      go_wp2_with fail
      go_ret
      refine ⟨0, rfl, ⟨HF.out.bel, fun b h1 h2 => HF.out.lo b h2 (by omega) (by omega)⟩, ?_⟩
      rw [if_pos rfl]
      refine ⟨hbX.trans HF.out.bel, ⟨HC.out.block (HF.out.lo bc (by omega) HNm.out.1.1 HNm.out.1.2), HT0.out.block (HF.out.lo bt (by omega) HNm.out.2.1 HNm.out.2.2)⟩, n, E, U, T, A, HT.out, HOk.out, HD.out, ?_, hfl⟩
      have := HNt.out
      rw [List.length_append, List.length_singleton, Nat.mul_succ]
      omega
end Go.Proofs.YtohjgegnamcnlaaGreat
