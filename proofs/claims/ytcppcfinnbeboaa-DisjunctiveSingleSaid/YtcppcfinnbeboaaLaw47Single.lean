/- DisjunctiveSingle: with one span in each choice everything is as in the layer of bounds. No condition. -/
import Derived.Test.YtcppcfinnbeboaaDsz
import Derived.Test.YtcppcfinnbeboaaDjK
import Derived.Test.YtcppcfinnbeboaaDjO
namespace Go.Proofs.Ytcppcfinnbeboaa
open Go.RowKit Go.Shelf Go.ChangeShapes Go.WideShapes Go.ChangeAt

theorem wfu47 {n : Int} (h : (Lit.int .u8 n).wf = true) : 0 ≤ n ∧ n ≤ 255 := by
  simp [Lit.wf, IntKind.min, IntKind.max, IntKind.signed, IntKind.bits] at h
  omega
set_option maxRecDepth 100000 in
set_option maxHeartbeats 8000000 in
theorem law47Single_c (n : Int) (v : Value) (l : List Cho) (ev : Int) (w : World) (hs : IsChos w v l) (h0 : 0 ≤ ev) (h1 : ev ≤ 255) : Calls Try.prog 7 #[.int .i64 n, v, .int .u8 ev] w (Ret w (.bool true)) := by
  have KV : Hid (∀ X, Below w.heap.size w X → Calls Try.prog 15 #[.int .i64 n, v] X (Ret X (.bool (netB n l)))) := Lib.hid fun X h => r47Valid_c _ v l X (hs.below h)
  obtain ⟨S, hs⟩ := hs
  obtain ⟨A0, c0, rfl, _, _⟩ := hs.form
  have Hev := Lib.hid (And.intro h0 h1)
  clear h0 h1
  cases hv : netB n l
  · rw [hv] at KV
    clear hs
    go_enter Try.func7, Try.ntmps7
    go_wp2_with fail
    refine (awake47_c _).mono ?_
    rintro e w1 ⟨rfl, hb1⟩
    go_wp2_with fail
    refine (KV.out _ hb1).mono ?_
    rintro e w2 ⟨rfl, hb2⟩
    have HF := Lib.hid (hb1.trans (hb2.mono hb1.size))
    clear hb2
    go_wp2_with fail
    go_ret
    exact ⟨rfl, HF.out⟩
  rw [hv] at KV
  obtain ⟨N, rfl, hN1, hN, hst⟩ := net_ok hv
  cases hq : decide (6 < (N : Int))
  rotate_left
  · have hq2 : decide (6 < N) = true := decide_eq_true (by have := of_decide_eq_true hq; omega)
    clear hs hv hst
    go_enter Try.func7, Try.ntmps7
    go_wp2_with fail
    refine (awake47_c _).mono ?_
    rintro e w1 ⟨rfl, hb1⟩
    go_wp2_with fail
    refine (KV.out _ hb1).mono ?_
    rintro e w2 ⟨rfl, hb2⟩
    have HF := Lib.hid (hb1.trans (hb2.mono hb1.size))
    clear hb2
    go_wp2_with fail
    go_ret
    exact ⟨rfl, HF.out⟩
  have hq2 : decide (6 < N) = false := decide_eq_false (by have := of_decide_eq_false hq; omega)
  cases hr : decide (10 < (l.length : Int))
  rotate_left
  · have hr2 : decide (10 < l.length) = true := decide_eq_true (by have := of_decide_eq_true hr; omega)
    clear hs hv hst
    go_enter Try.func7, Try.ntmps7
    go_wp2_with fail
    refine (awake47_c _).mono ?_
    rintro e w1 ⟨rfl, hb1⟩
    go_wp2_with fail
    refine (KV.out _ hb1).mono ?_
    rintro e w2 ⟨rfl, hb2⟩
    have HF := Lib.hid (hb1.trans (hb2.mono hb1.size))
    clear hb2
    go_wp2_with fail
    go_ret
    exact ⟨rfl, HF.out⟩
  have hr2 : decide (10 < l.length) = false := decide_eq_false (by have := of_decide_eq_false hr; omega)
  have Hl : Hid (l.length ≤ 10) := Lib.hid (by have := of_decide_eq_false hr; omega)
  have HN : Hid (1 ≤ N ∧ N ≤ 6) := Lib.hid (by have := of_decide_eq_false hq; omega)
  have Hst := Lib.hid hst
  have Hs : Hid (∀ X, Below w.heap.size w X → ChosIn X (.slice A0 l.length c0) l S) := Lib.hid fun X h => hs.below h
  clear hs hv hst hN1 hN
  go_enter Try.func7, Try.ntmps7
  go_wp2_with fail
  refine (awake47_c _).mono ?_
  rintro e w1 ⟨rfl, hb1⟩
  go_wp2_with fail
  refine (KV.out _ hb1).mono ?_
  rintro e w2 ⟨rfl, hb2⟩
  have HF := Lib.hid (hb1.trans (hb2.mono hb1.size))
  clear hb2 hb1
  go_wp2_with fail
  clear hq hr hq2 hr2
  go_loopw [7, 8, 39] (fun sv bv i wr => ∃ (k : Nat) (Gs : Nat → Nat), i = .int .i64 (k : Int) ∧ k ≤ l.length ∧ TwoL wr w.heap.size sv bv l k Gs ∧ Below w.heap.size w wr) (fun _ _ i _ => l.length - (intOf i).toNat)
  case atStart => exact ⟨0, fun _ => 0, rfl, Nat.zero_le _, ⟨⟨rfl, .inl ⟨rfl, rfl⟩⟩, ⟨rfl, .inl ⟨rfl, rfl⟩⟩, fun i hi => absurd hi (by omega)⟩, HF.out⟩
  case round =>
    obtain ⟨k, Gs, rfl, hk, hT, hb⟩ := hrel
    obtain ⟨A7, c7, rfl⟩ := hT.ownC.form
    obtain ⟨A8, c8, rfl, _, _⟩ := hT.own2.bnds.form
    have HT := Lib.hid hT; have Hb := Lib.hid hb
    clear hT hb
    rcases Nat.lt_or_ge k l.length with hlt | hge
    · have k0 : decide ((k : Int) < (l.length : Int)) = true := decide_eq_true (by omega)
      have k00 : decide (k < l.length) = true := decide_eq_true hlt
      have k1 : IntKind.i64.wrap ((k : Int) + 1) = (k : Int) + 1 := by have := Hl.out; rw [IntKind.wrap_i64]; omega
      have k2 : (0 : Int) ≤ (k : Int) := by omega
      have k3 : (k : Int) < (l.length : Int) := by omega
      have hsr := Hs.out _ Hb.out
      obtain ⟨g, off, rfl, _⟩ := hsr.addr (by omega)
      have d0 := hsr.c0 k hlt
      have d1 := hsr.c1 k hlt
      have d2 := hsr.c2 k hlt
      have hcn := Hst.out.2 k hlt
      have hs0 := span0_ok hcn
      have hnr := spB_near hs0
      have hsp := hsr.2 k hlt
      obtain ⟨A3, c3, e3, _, _⟩ := hsp.form
      rw [e3] at d2 hsp
      have hpos : 0 < (cho l k).2.2.length := hcn.2.2.2.2.1
      obtain ⟨g3, o3, rfl, hb3⟩ := hsp.addr hpos
      have x0 := hsp.c0 0 hpos
      have x1 := hsp.c1 0 hpos
      simp only [Nat.zero_mul, Nat.add_zero] at x0 x1
      have y0 : (0 : Int) < ((cho l k).2.2.length : Int) := by omega
      have y1 : 0 < (cho l k).2.2.length := hpos
      have hnr2 : -1073741824 ≤ fr (cho l k).2.2 0 ∧ fr (cho l k).2.2 0 ≤ 1073741824 ∧ -1073741824 ≤ tt (cho l k).2.2 0 ∧ tt (cho l k).2.2 0 ≤ 1073741824 := by
        unfold spanJ at hnr
        simp only at hnr
        omega
      have Hnr2 := Lib.hid hnr2
      obtain ⟨cI, hI⟩ : ∃ y, y = (cho l k).1 := ⟨_, rfl⟩
      obtain ⟨cJ, hJ⟩ : ∃ y, y = (cho l k).2.1 := ⟨_, rfl⟩
      obtain ⟨p, hp⟩ : ∃ y, y = fr (cho l k).2.2 0 := ⟨_, rfl⟩
      obtain ⟨q, hq⟩ : ∃ y, y = tt (cho l k).2.2 0 := ⟨_, rfl⟩
      obtain ⟨m3, hm3⟩ : ∃ y, y = (cho l k).2.2.length := ⟨_, rfl⟩
      rw [← hI] at d0
      rw [← hJ] at d1
      rw [← hp, ← hq] at hnr2
      rw [← hp] at x0
      rw [← hq] at x1
      rw [← hm3] at d2 y0 y1
      have z1 : IntKind.i64.wrap (q - 1) = q - 1 := by rw [IntKind.wrap_i64]; omega
      have z2 : IntKind.i64.wrap (-p) = -p := by rw [IntKind.wrap_i64]; omega
      have HI := Lib.hid hI; have HJ := Lib.hid hJ; have Hp := Lib.hid hp; have Hq := Lib.hid hq; have Hlt := Lib.hid hlt
      have Hone : Hid (oneC (cho l k) = (cI, cJ, [(p, q)])) := Lib.hid (by rw [hI, hJ, hp, hq]; rfl)
      have Hbn : Hid (bnd2 (cho l k) (spanJ (cho l k) 0) = [(cI, cJ, q - 1), (cJ, cI, -p)]) := Lib.hid (by rw [hI, hJ, hp, hq]; rfl)
      obtain ⟨W9, hW9⟩ : ∃ y, y = wr.alloc (.cells #[.int .i64 cI, .int .i64 cJ, .slice (some ⟨g3, o3, none⟩) m3 c3] 36) := ⟨_, rfl⟩
      have hb9 : Below wr.heap.size wr W9 := by rw [hW9]; exact (Below.refl _ _).alloc (Nat.le_refl _) _
      have x0 := (hb9.cell (p := ⟨g3, o3, none⟩) hb3).trans x0
      have x1 := (hb9.cell (p := ⟨g3, o3 + 1, none⟩) hb3).trans x1
      rw [hW9] at x0 x1
      have HW9 := Lib.hid hW9; have Hb9 := Lib.hid hb9
      clear hsr hcn hs0 hnr hsp e3 hpos hb3 hnr2 hI hJ hp hq hm3 hlt hk hW9 hb9
      obtain ⟨W10, hW10⟩ : ∃ y, y = W9.alloc (.cells #[.int .i64 p, .int .i64 q] 38) := ⟨_, rfl⟩
      obtain ⟨bc, hbc⟩ : ∃ y, y = wr.heap.size := ⟨_, rfl⟩
      have hz9 : W9.heap.size = bc + 1 := by rw [HW9.out, World.size_alloc, hbc]
      have hb10 : Below W9.heap.size W9 W10 := by rw [hW10]; exact (Below.refl _ _).alloc (Nat.le_refl _) _
      have hz10 : W10.heap.size = bc + 2 := by rw [hW10, World.size_alloc, hz9]
      have T9 : W9.heap[bc]? = some (.cells #[.int .i64 cI, .int .i64 cJ, .slice (some ⟨g3, o3, none⟩) m3 c3] 36 (0, 0)) := by rw [HW9.out, hbc]; exact heap_alloc_new wr _
      have T10 : W10.heap[bc]? = some (.cells #[.int .i64 cI, .int .i64 cJ, .slice (some ⟨g3, o3, none⟩) m3 c3] 36 (0, 0)) := (hb10.block _ (by omega)).trans T9
      have U10 : W10.heap[bc + 1]? = some (.cells #[.int .i64 p, .int .i64 q] 38 (0, 0)) := by rw [hW10, ← hz9]; exact heap_alloc_new W9 _
      have a0 := blk_get T10 0
      have a1 := blk_get T10 1
      have b0 := blk_get U10 0
      have b1 := blk_get U10 1
      simp at a0 a1 b0 b1
      have hbr : Below wr.heap.size wr W10 := Hb9.out.trans (hb10.mono Hb9.out.size)
      obtain ⟨W11, hW11⟩ : ∃ y, y = W10.alloc (.cells #[.int .i64 p, .int .i64 q] 38) := ⟨_, rfl⟩
      have hb11 : Below W10.heap.size W10 W11 := by rw [hW11]; exact (Below.refl _ _).alloc (Nat.le_refl _) _
      have hT11 := HT.out.below (hbr.trans (hb11.mono hbr.size))
      have U11 : W11.heap[W10.heap.size]? = some (.cells #[.int .i64 p, .int .i64 q] 38 (0, 0)) := by rw [hW11]; exact heap_alloc_new W10 _
      have hlow : ∀ gg, (Value.slice A7 (singC l k).length c7).ownBlock = some gg → gg < bc := fun gg h => by rw [hbc]; exact (World.ownsRow.lt HT.out.own1 gg h).2
      have HoC := Lib.hid hT11.ownC; have HT11 := Lib.hid hT11; have HU11 := Lib.hid U11; have HT10 := Lib.hid T10; have HU10 := Lib.hid U10
      have Hlow := Lib.hid hlow; have Hz10 := Lib.hid hz10
      have Hsp11 := Lib.hid (span_cells U11)
      have HbW11 : Hid (Below w.heap.size w W11) := Lib.hid (Hb.out.trans ((hbr.trans (hb11.mono hbr.size)).mono Hb.out.size))
      have Hb11 := Lib.hid hb11
      have Hz11 : Hid (W11.heap.size = W10.heap.size + 1) := Lib.hid (by rw [hW11, World.size_alloc])
      have HW10 := Lib.hid hW10; have HW11 := Lib.hid hW11; have Hbc := Lib.hid hbc
      clear hz9 hb10 hz10 T9 T10 U10 hbr hb11 hT11 U11 hlow hW10 hW11 hbc
      go_upto_region 11 with fail
      rw [← HW9.out, ← HW10.out, ← Hbc.out]
      go_upto_region 12 with (at_builtin; rw [← HW11.out, ← Hz11.out]; refine append_choG rfl _ _ rfl w.heap.size _ (singC l k) (spV Gs) cI cJ _ [(p, q)] (by rfl) HoC.out (by rfl) Hsp11.out (by show 0 < 1; omega) (fun gg h e => by have h1 := Hlow.out gg h; have h2 : W10.heap.size = gg := Option.some.inj e; have h3 := Hz10.out; omega) (by rw [singC_len]; have := Hl.out; have := Hlt.out; omega) HbW11.out.size ?_; intro v12 W12 hout12 hb12 hbo12 hsz12)
      obtain ⟨Av, cv, hv12⟩ := hout12.form
      rw [List.length_append, singC_len, List.length_singleton] at hv12
      subst hv12
      obtain ⟨A1, A2, A3⟩ := HT11.out.add1 (gn := W10.heap.size) (by rw [← Hp.out, ← Hq.out]; exact HU11.out) (by rw [Hone.out]; exact hout12) hbo12
      have hfr : ∀ b, b < W10.heap.size → bc ≤ b → W12.heap[b]? = W10.heap[b]? := fun b h1 h2 => (hbo12 b (by rw [Hz11.out]; omega) (fun e => by have := Hlow.out b e; omega)).trans (Hb11.out.block b h1)
      have T12 := (hfr bc (by rw [Hz10.out]; omega) (Nat.le_refl _)).trans HT10.out
      have U12 := (hfr (bc + 1) (by rw [Hz10.out]; omega) (by omega)).trans HU10.out
      have a0 := blk_get T12 0
      have a1 := blk_get T12 1
      have b0 := blk_get U12 0
      have b1 := blk_get U12 1
      simp at a0 a1 b0 b1
      obtain ⟨W13, hW13⟩ : ∃ y, y = W12.alloc (.cells #[.int .i64 cI, .int .i64 cJ, .int .i64 (q - 1), .int .i64 cJ, .int .i64 cI, .int .i64 (-p)] 47) := ⟨_, rfl⟩
      have hb13 : Below W12.heap.size W12 W13 := by rw [hW13]; exact (Below.refl _ _).alloc (Nat.le_refl _) _
      have htw : IsBnds W13 (.slice (some ⟨W12.heap.size, 0, none⟩) 2 2) [(cI, cJ, q - 1), (cJ, cI, -p)] := by rw [hW13]; exact two_bnds W12 47 (cI, cJ, q - 1) (cJ, cI, -p)
      have HA1 := Lib.hid (own_below A1 hb13 (Nat.le_refl _)); have HA2 : Hid (OwnsB W13 w.heap.size 47 _ (singB l k)) := Lib.hid (own_below A2 hb13 (Nat.le_refl _))
      have HA3 := Lib.hid fun i (hi : i < k + 1) => (hb13.block _ (blk_lt (A3 i hi))).trans (A3 i hi)
      have Htw := Lib.hid htw; have HW13 := Lib.hid hW13
      have Hbw13 : Hid (Below w.heap.size w W13) := Lib.hid ((HbW11.out.trans hb12).trans (hb13.mono (Nat.le_trans HbW11.out.size hsz12)))
      clear hout12 hb12 hbo12 hsz12 A1 A2 A3 hfr T12 U12 hb13 htw hW13
      go_wp2_with (at_builtin; rw [← HW13.out]; refine append_bndsH rfl _ _ rfl w.heap.size _ (singB l k) [(cI, cJ, q - 1), (cJ, cI, -p)] ⟨W12.heap.size, 0, none⟩ 2 (by rfl) HA2.out (by rfl) Htw.out (by rw [singB_len]; have := Hl.out; have := Hlt.out; show 2 * k + 2 < _; omega) Hbw13.out.size ?_; intro v14 W14 ho14 hb14 hbo14 _; have HF14 := Lib.hid (two_add2 HA1.out HA2.out HA3.out (by rw [Hbn.out]; exact ho14) hbo14); have Hbw14 := Lib.hid (Hbw13.out.trans hb14); clear ho14 hb14 hbo14)
      go_roundw
      case rel => exact ⟨k + 1, _, by go_num, Hlt.out, HF14.out, Hbw14.out⟩
      case measure => have := Hlt.out; simp [intOf]; omega
    · obtain rfl : k = l.length := by omega
      have k0 : decide ((l.length : Int) < (l.length : Int)) = false := decide_eq_false (by omega)
      have k00 : decide (l.length < l.length) = false := decide_eq_false (by omega)
      obtain ⟨m, hm⟩ : ∃ m, N = m + 1 := ⟨N - 1, by have := HN.out; omega⟩
      have hbok := singB_ok (n := N) Hst.out.2 l.length (Nat.le_refl _)
      have htX : tightF N (singB l l.length) = tightX N (singB l l.length) := tightF_X (by have := HN.out; omega) (bnds_near hbok)
      have hl2 : (singB l l.length).length ≤ 200 := by rw [singB_len]; have := Hl.out; omega
      have hstS := sing_st Hst.out
      have hN24 : N ≤ 24 := by have := HN.out; omega
      have hN1 : 1 ≤ N := HN.out.1
      have hbud : budE (N : Int) (singC l l.length) 1 = 0 := by
        have h1 : netB (N : Int) (singC l l.length) = true := by
          unfold netB
          rw [decide_eq_true (by omega : 1 ≤ (N : Int)), decide_eq_true (by omega : (N : Int) ≤ 24), decide_eq_true hstS.1]
          simp only [Bool.true_and]
          rw [List.all_eq_true]
          intro c hc
          obtain ⟨i, hi, rfl⟩ := List.getElem_of_mem hc
          rw [cho_at hi]
          obtain ⟨c1, c2, c3, c4, c5, c6, c7⟩ := hstS.2 i hi
          unfold choB
          rw [decide_eq_true c1, decide_eq_true c2, decide_eq_true c3, decide_eq_true c4, decide_eq_true c5, decide_eq_true c6, c7]
          rfl
        unfold budE
        rw [h1]
        rfl
      have hbv := HT.out.own2.bnds
      have hcv := HT.out.ownC.chos
      have KC : Hid (∀ X, Below wr.heap.size wr X → Calls Try.prog 20 #[.int .i64 (N : Int), .slice A8 (singB l l.length).length c8] X (ConsRet (tightX N (singB l l.length)) X)) := Lib.hid fun X h => by
        rw [← htX]
        subst hm
        exact bdConsistent_c m _ _ X (hbv.below h) (by omega) hbok hl2
      have hstL := Hst.out
      have KSo : Hid (∀ X, Below wr.heap.size wr X → Calls Try.prog 21 #[.int .i64 (N : Int), .slice A7 (singC l l.length).length c7, .int .i64 1] X (fun e w' => ∃ A n c, e = .returned (.tuple #[.slice A n c, .int .i64 (if (tightX N (singB l l.length)).isSome then 0 else 17)]) ∧ Below X.heap.size X w')) := Lib.hid fun X h => by
        refine (djSolve_c _ _ _ _ X (hcv.below h)).mono ?_
        rintro e w' ⟨hb, ⟨q1, _⟩ | ⟨_, w0, _, q2⟩⟩
        · exact absurd hbud q1
        · rw [Int.toNat_natCast] at q2
          obtain ⟨u, r1, A, n, c, r2⟩ := solve_sing hN1 hN24 hstL q2
          subst r2
          exact ⟨A, n, c, r1, hb⟩
      obtain ⟨a, ha⟩ : ∃ a : Nat, ev = (a : Int) := ⟨ev.toNat, by have := Hev.out; omega⟩
      obtain ⟨kk, hkk⟩ : ∃ kk, kk = a % N := ⟨_, rfl⟩
      have hkN : kk < N := by rw [hkk]; exact Nat.mod_lt _ hN1
      have g0 : IntKind.i64.wrap ev = ev := by have := Hev.out; rw [IntKind.wrap_i64]; omega
      have g1 : ev.tmod (N : Int) = (kk : Int) := by rw [ha, hkk]; rfl
      have g2 : ¬ (N : Int) = 0 := by omega
      have g3 : ¬ N = 0 := by omega
      have KE : Hid (∀ X, Below wr.heap.size wr X → Calls Try.prog 22 #[.int .i64 (N : Int), .slice A7 (singC l l.length).length c7, .int .i64 (kk : Int), .int .i64 1] X (fun e w' => ∃ x c, e = .returned (.tuple #[.int .i64 x, .int .i64 c]) ∧ EarlyOk N (singC l l.length) kk 1 x c ∧ Below X.heap.size X w')) := Lib.hid fun X h => by
        refine (djEarliest_c _ _ _ _ _ X (hcv.below h)).mono ?_
        rintro e w' ⟨hb, x, c, he, ⟨q1, _⟩ | ⟨_, q1, _⟩ | ⟨_, _, _, q2⟩⟩
        · exact absurd hbud q1
        · omega
        · rw [Int.toNat_natCast, Int.toNat_natCast] at q2
          exact ⟨x, c, he, q2, hb⟩
      have HkN := Lib.hid hkN
      have HEs : Hid (∀ M x c, tightX N (singB l l.length) = some M → EarlyOk N (singC l l.length) kk 1 x c → (M kk 0 < noneD → c = 0 ∧ x = -(M kk 0)) ∧ (¬ M kk 0 < noneD → c = 7 ∧ x = 0 ∧ M kk 0 = noneD)) := Lib.hid fun M x c h1 h2 => by
        obtain ⟨r1, r2⟩ := early_some hN1 hN24 hstL hkN h1 h2
        refine ⟨r1, fun h => ⟨(r2 h).1, (r2 h).2, ?_⟩⟩
        have := ((tightX_some hN1 hN24 hbok h1).2.1 kk 0 hkN hN1).1
        omega
      have HEn : Hid (∀ x c, tightX N (singB l l.length) = none → EarlyOk N (singC l l.length) kk 1 x c → c = 17) := Lib.hid fun x c h1 h2 => early_none hstL hN1 hN24 h1 h2
      clear ha hkk hkN
      have Hbud := Lib.hid hbud
      have KBt : Hid (∀ X j M, Below wr.heap.size wr X → j < N → tightX N (singB l l.length) = some M → Calls Try.prog 23 #[.int .i64 (N : Int), .slice A8 (singB l l.length).length c8, .int .i64 0, .int .i64 ((j : Nat) : Int)] X (BetwRet M 0 j X)) := Lib.hid fun X j M h hj ht => by
        have hM := (tightX_some hN1 hN24 hbok ht).2.1
        rw [← htX] at ht
        subst hm
        exact bdBetween_c m 0 j _ _ M X (hbv.below h) (by omega) hbok hl2 ht hM (by omega) hj
      clear hstL hm hbok htX hl2 hstS hN24 hN1 hbud hbv hcv hge hk
      obtain ⟨TT, hTT⟩ : ∃ y, y = tightX N (singB l l.length) := ⟨_, rfl⟩
      rw [← hTT] at KC KBt KSo
      have HTT := Lib.hid hTT
      clear hTT
      cases TT with
      | none =>
        go_wp2_with fail
        refine (KC.out _ (Below.refl _ _)).mono ?_
        rintro e x1 ⟨rfl, hb1⟩
        go_wp2_with fail
        refine (KSo.out _ hb1).mono ?_
        rintro e x2 ⟨A, nn, c, rfl, hb2⟩
        have hb2 := hb1.trans (hb2.mono hb1.size)
        go_wp2_with fail
        refine (KE.out _ hb2).mono ?_
        rintro e x3 ⟨xx, cc, rfl, hE, hb3⟩
        obtain rfl := HEn.out xx cc HTT.out.symm hE
        have HF3 := Lib.hid (Hb.out.trans ((hb2.trans (hb3.mono hb2.size)).mono Hb.out.size))
        clear hE hb1 hb2 hb3
        go_wp2_with fail
        go_ret
        exact ⟨rfl, HF3.out⟩
      | some M =>
        go_wp2_with fail
        refine (KC.out _ (Below.refl _ _)).mono ?_
        rintro e x1 ⟨rfl, hb1⟩
        go_wp2_with fail
        refine (KSo.out _ hb1).mono ?_
        rintro e x2 ⟨A, nn, c, rfl, hb2⟩
        have hb2 := hb1.trans (hb2.mono hb1.size)
        go_wp2_with fail
        refine (KE.out _ hb2).mono ?_
        rintro e x3 ⟨xx, cc, rfl, hE, hb3⟩
        have hb3 := hb2.trans (hb3.mono hb2.size)
        obtain ⟨r1, r2⟩ := HEs.out M xx cc HTT.out.symm hE
        have KB4 := KBt.out x3 kk M hb3 HkN.out rfl
        have Hb3 := Lib.hid (Hb.out.trans (hb3.mono Hb.out.size))
        unfold BetwRet at KB4
        obtain ⟨d, hd⟩ : ∃ y, y = M kk 0 := ⟨_, rfl⟩
        rw [← hd] at r1 r2 KB4
        have KB4 := Lib.hid KB4
        clear hE hb1 hb2 hb3 hd
        cases hdn : decide (d < noneD)
        · obtain ⟨rfl, rfl, rfl⟩ := r2 (by have := of_decide_eq_false hdn; omega)
          clear r1 r2 hdn
          unfold noneD at KB4
          go_wp2_with fail
          refine KB4.out.mono ?_
          rintro e x4 ⟨rfl, hb4⟩
          have HF4 := Lib.hid (Hb3.out.trans (hb4.mono Hb3.out.size))
          clear hb4
          go_wp2_with fail
          go_ret
          exact ⟨rfl, HF4.out⟩
        · obtain ⟨rfl, rfl⟩ := r1 (by have := of_decide_eq_true hdn; omega)
          have hlt := of_decide_eq_true hdn
          have s1 : ((-d : Int) == (-4398046511104 : Int)) = false := by unfold noneD at hlt; simp; omega
          clear r1 r2 hdn hlt
          go_wp2_with fail
          refine KB4.out.mono ?_
          rintro e x4 ⟨rfl, hb4⟩
          have HF4 := Lib.hid (Hb3.out.trans (hb4.mono Hb3.out.size))
          clear hb4
          go_wp2_with fail
          go_ret
          exact ⟨by simp, HF4.out⟩

set_option maxRecDepth 100000 in
theorem law47Single_lifted (os : Os) (started : os.Started) (H : Type) (enc : TypeId × Value → H) :
    ReturnsInHanded {} Try.checked os 7 .any (Rows.disjunctiveSingleSpec.pre6 enc Try.prog Try.f7 Rows.disjunctiveSingleRow.domain false) (Rows.disjunctiveSingleSpec.post enc Try.prog Try.f7 false true false false) := by
  refine returnsInHanded_of_change (C := Try.checked) Try.own started (by kernel_rfl) Try.func7
    (ChangeSpec.witness6 (enc := enc) (C := Try.checked) false ⟨#[], #[.int .i64 0, .slice none 0 0, .int .u8 0], []⟩ 8 (by kernel_rfl) (by kernel_rfl) (by kernel_rfl) (by kernel_rfl)) ?_
  intro W base args ds gs before hval0 hW hcnd _
  have hval : ∀ (j : Nat) t v, Try.f7.params[j]? = some t → args[j]? = some v → Value.okWide Try.prog W .any base t v := hval0
  have hW' := hW
  obtain ⟨p, q, hA0, hV, rfl, hfz, hnd⟩ := hW
  have hA : DataW.TrodAll enc Try.prog W 0 (fun _ => true) true Try.f7.params.toList args.toList ds p := hA0
  have hA1 := hA0
  rw [Try.params7] at hA hval
  obtain ⟨v0, v1, v2, d0, d1, d2, p0, p1, p2, rfl, rfl, hp, h0, h1, h2⟩ := trodAll_three hA
  obtain ⟨rfl, rfl⟩ := trodVars_none hV
  obtain ⟨n, rfl, rfl, rfl, g0⟩ := open_int Try.underlying3 (hval 0 3 v0 rfl rfl) h0
  obtain ⟨l, g1⟩ := open_chos (hval 1 22 v1 rfl rfl) h1
  obtain ⟨k, rfl, rfl, rfl, g2⟩ := open_int Try.underlying5 (hval 2 5 v2 rfl rfl) h2
  clear hA0 hval0
  have hlt : ∀ x ∈ p, x.block < W.heap.size := fun x hx => hW'.lt x (by simp [hx])
  refine (law47Single_c n v1 l k W g1 (wfu47 g2).1 (wfu47 g2).2).mono fun e W' ⟨he, hg⟩ => ?_
  subst he
  exact ⟨_, rfl, post_of_below (pa := p) (pv := []) hW' (fun _ _ _ => trodAll_mk1 (shut_bool Try.underlying4 _))
    (fun sp hsp => trodAll_keep Try.laidOut hg (by kernel_rfl) hA1 hlt (fun x hx => hsp x (by simp [hx])))
    (fun _ _ => rfl) rfl hg (ok_one (by kernel_rfl) rfl (okWide_bool_mk Try.underlying4 _))⟩

theorem law47Single_holds : Rows.DisjunctiveSingleSaid :=
  OpenClaim.holds_of_wide 7 Try.f7 rfl rfl rfl rfl rfl rfl rfl ⟨rfl, rfl, rfl, rfl, rfl⟩ rfl rfl rfl rfl rfl (by kernel_rfl) Try.func7 (by kernel_rfl)
    (of_decide_eq_true (by kernel_rfl)) (by unfold Func.isWrapper; first | (rw [if_pos (by decide +kernel)]; kernel_rfl) | (rw [if_neg (by decide +kernel)]; exact ⟨rfl, rfl⟩))
    (fun os started H enc _ => law47Single_lifted os started H enc)
#print axioms law47Single_holds
end Go.Proofs.Ytcppcfinnbeboaa
