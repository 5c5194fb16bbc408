/- DisjunctiveHidden: a network that was made around a schedule is solved, narrowed, and has no explanation. No condition. -/
import Derived.Deep.DeepCutAuto
import Derived.Test.YtcppcfinnbeboaaGreatDtI
import Derived.Test.YtcppcfinnbeboaaGreatDtJ
import Derived.Test.YtcppcfinnbeboaaGreatDjK
import Derived.Test.YtcppcfinnbeboaaGreatDjO
namespace Go.Proofs.YtcppcfinnbeboaaGreat
open Go.RowKit Go.Shelf Go.ChangeShapes Go.WideShapes Go.ChangeAt

theorem wf16 {n : Int} (h : (Lit.int .i16 n).wf = true) : -32768 ≤ n ∧ n ≤ 32767 := by
  simp [Lit.wf, IntKind.min, IntKind.max, IntKind.signed, IntKind.bits] at h
  omega
theorem wf8 {n : Int} (h : (Lit.int .u8 n).wf = true) : 0 ≤ n ∧ n ≤ 255 := by
  simp [Lit.wf, IntKind.min, IntKind.max, IntKind.signed, IntKind.bits] at h
  omega
theorem iv_mem9 {l : List Int} {i : Nat} (h : i < l.length) : iv l i ∈ l := by
  rw [← iv_at47 h]
  exact List.getElem_mem h
theorem lit1 {w : World} (a : Int) : IsInts (w.alloc (.cells #[.int .i64 a] 3)) (.slice (some ⟨w.heap.size, 0, none⟩) 1 1) [a] := by
  refine cells_ints (by simp) rfl (Nat.le_refl _) (by omega) fun j hj => ?_
  obtain rfl : j = 0 := by omega
  rw [← iv_at47 (show 0 < [a].length from Nat.zero_lt_one)]
  simp
theorem own1 (w : World) (base : Nat) (a : Int) (h : base ≤ w.heap.size) : (w.alloc (.cells #[.int .i64 a] 3)).ownsRow base 3 1 (.slice (some ⟨w.heap.size, 0, none⟩) 1 1) 1 (flatI [a]) :=
  ⟨rfl, .inr ⟨w.heap.size, 1, _, rfl, h, heap_alloc_new w _, Nat.le_refl _, by unfold maxLen; omega, rfl, rfl⟩⟩
theorem take_iv (l : List Int) {k : Nat} (h : k < l.length) : (0 :: l.take (k + 1)) = (0 :: l.take k) ++ [iv l k] := by
  rw [List.take_succ_eq_append_getElem h, iv_at47 h]
  rfl
theorem iv_cons0 (l : List Int) : iv (0 :: l) 0 = 0 := by
  rw [← iv_at47 (show 0 < (0 :: l).length from Nat.succ_pos _)]
  rfl
theorem iv_consS (l : List Int) {i : Nat} (h : i < l.length) : iv (0 :: l) (i + 1) = iv l i := by
  rw [← iv_at47 (show i + 1 < (0 :: l).length from Nat.succ_lt_succ h), ← iv_at47 h]
  rfl
theorem hid_ok {ts ps ws : List Int} (b0 : ∀ x ∈ ts, (Lit.int .i16 x).wf = true) (b1 : ∀ x ∈ ps, (Lit.int .u8 x).wf = true) (b2 : ∀ x ∈ ws, (Lit.int .u8 x).wf = true) (h6 : ts.length + 1 ≤ 6) (h16 : ps.length ≤ 16) : HidOk (ts.length + 1) (0 :: ts) ps ws :=
  ⟨by omega, h6, rfl, fun i hi => by
    rcases i with _ | i
    · rw [iv_cons0]; omega
    · rw [iv_consS _ (by omega)]
      exact wf16 (b0 _ (iv_mem9 (by omega))), fun i hi => wf8 (b1 _ (iv_mem9 hi)), fun i hi => wf8 (b2 _ (iv_mem9 hi)), h16, iv_cons0 _⟩
theorem two_sp {W : World} {g : Nat} {a b c d : Int} (h : W.heap[g]? = some (.cells #[.int .i64 a, .int .i64 b, .int .i64 c, .int .i64 d] 48 (0, 0))) : IsSpans W (.slice (some ⟨g, 0, none⟩) 2 2) [(a, b), (c, d)] := by
  refine ⟨_, _, rfl, Nat.le_refl _, by omega, fun _ => ⟨g, 0, rfl, blk_lt h, fun i j hi hj => ?_⟩⟩
  rw [blk_get h]
  simp only [List.length_cons, List.length_nil] at hi
  rcases (by omega : i = 0 ∨ i = 1) with rfl | rfl <;> rcases (by omega : j = 0 ∨ j = 1) with rfl | rfl <;> rfl
set_option maxRecDepth 100000 in
set_option maxHeartbeats 8000000 in
theorem law47HiddenF_c (v0 v1 v2 : Value) (ts ps ws : List Int) (w : World) (h0 : IsNums .i16 w v0 ts) (h1 : IsNums .u8 w v1 ps) (h2 : IsNums .u8 w v2 ws) (b0 : ∀ x ∈ ts, (Lit.int .i16 x).wf = true) (b1 : ∀ x ∈ ps, (Lit.int .u8 x).wf = true) (b2 : ∀ x ∈ ws, (Lit.int .u8 x).wf = true) (hbig : ts.length * 2 ≤ 140737488351232) :
    Calls Tryz.prog 7 #[v0, v1, v2, (.bool false)] w (Ret w (.bool true)) := by
  obtain ⟨A0, c0, rfl, _, _⟩ := h0.form
  obtain ⟨A1, c1, rfl, _, _⟩ := h1.form
  obtain ⟨A2, c2, rfl, _, _⟩ := h2.form
  obtain ⟨N, hN⟩ : ∃ N, N = ts.length + 1 := ⟨_, rfl⟩
  have z0 : IntKind.i64.wrap ((ts.length : Int) + 1) = (N : Int) := by rw [IntKind.wrap_i64]; omega
  have HN := Lib.hid hN
  by_cases hq : 6 < N ∨ 16 < ps.length
  · have hq : decide ((6 : Int) < (N : Int)) = true ∨ (decide ((6 : Int) < (N : Int)) = false ∧ decide ((16 : Int) < (ps.length : Int)) = true ∧ decide (16 < ps.length) = true) := by
      by_cases q : 6 < N
      · exact .inl (decide_eq_true (by omega))
      · exact .inr ⟨decide_eq_false (by omega), decide_eq_true (by omega), decide_eq_true (by omega)⟩
    clear h0 h1 h2 b0 b1 b2 hbig hN
    rcases hq with q | ⟨q, q2, q3⟩
    all_goals
      go_enter Tryz.func7, Tryz.ntmps7
      go_wp2_with fail
      refine (awake47_c _).mono ?_
      rintro e w1 ⟨rfl, hb1⟩
      have HF := Lib.hid hb1
      clear hb1
      go_wp2_with fail
      go_ret
      exact ⟨rfl, HF.out⟩
  have q1 : decide ((6 : Int) < (N : Int)) = false := decide_eq_false (by omega)
  have q11 : decide (6 < N) = false := decide_eq_false (by omega)
  have q2 : decide ((16 : Int) < (ps.length : Int)) = false := decide_eq_false (by omega)
  have q22 : decide (16 < ps.length) = false := decide_eq_false (by omega)
  have hok := hid_ok b0 b1 b2 (by omega) (by omega)
  rw [← hN] at hok
  have Hok := Lib.hid hok
  have HT : Hid (∀ X, Below w.heap.size w X → IsNums .i16 X (.slice A0 ts.length c0) ts) := Lib.hid fun X h => h0.below h
  have HP : Hid (∀ X, Below w.heap.size w X → IsNums .u8 X (.slice A1 ps.length c1) ps) := Lib.hid fun X h => h1.below h
  have HW : Hid (∀ X, Below w.heap.size w X → IsNums .u8 X (.slice A2 ws.length c2) ws) := Lib.hid fun X h => h2.below h
  have B0 := Lib.hid b0
  have Ht5 : Hid (ts.length ≤ 5) := Lib.hid (by omega)
  clear h0 h1 h2 b0 b1 b2 hbig hN hq hok
  go_enter Tryz.func7, Tryz.ntmps7
  go_wp2_with fail
  refine (awake47_c _).mono ?_
  rintro e w1 ⟨rfl, hb1⟩
  have hb2 : Below w.heap.size w (w1.alloc (.cells #[.int .i64 0] 3)) := hb1.alloc hb1.size _
  have ho2 := own1 w1 w.heap.size 0 hb1.size
  obtain ⟨w2, hw2⟩ : ∃ y, y = w1.alloc (.cells #[.int .i64 0] 3) := ⟨_, rfl⟩
  obtain ⟨g1, hg1⟩ : ∃ y, y = w1.heap.size := ⟨_, rfl⟩
  rw [← hw2] at hb2 ho2
  rw [← hg1] at ho2
  have Hb2 := Lib.hid hb2; have Ho2 := Lib.hid ho2; have Hw2 := Lib.hid hw2; have Hg1 := Lib.hid hg1
  clear hb1 hb2 ho2 hw2 hg1
  go_wp2_with fail
  rw [← Hw2.out, ← Hg1.out]
  clear Hw2 Hg1
  clear z0 q1 q11 q2 q22
  go_loopw [10, 43] (fun v i wr => ∃ k : Nat, i = .int .i64 (k : Int) ∧ k ≤ ts.length ∧ wr.ownsRow w.heap.size 3 1 v (k + 1) (flatI (0 :: ts.take k)) ∧ Below w.heap.size w wr) (fun _ i _ => ts.length - (intOf i).toNat)
  case atStart => exact ⟨0, rfl, Nat.zero_le _, Ho2.out, Hb2.out⟩
  case round =>
    obtain ⟨k, rfl, hk, ho, hb⟩ := hrel
    obtain ⟨Av, nv, cv, rfl⟩ : ∃ A n c, u10 = .slice A n c := by
      rcases ho.2 with ⟨e, _⟩ | ⟨g, cap, _, e, _⟩
      · exact ⟨_, _, _, e⟩
      · exact ⟨_, _, _, e⟩
    have Ho := Lib.hid ho; have Hb := Lib.hid hb
    rcases Nat.lt_or_ge k ts.length with hlt | hge
    · have k0 : decide ((k : Int) < (ts.length : Int)) = true := decide_eq_true (by omega)
      have k00 : decide (k < ts.length) = true := decide_eq_true hlt
      have k1 : IntKind.i64.wrap ((k : Int) + 1) = (k : Int) + 1 := by have := Ht5.out; rw [IntKind.wrap_i64]; omega
      have k2 : (0 : Int) ≤ (k : Int) := by omega
      have k3 : (k : Int) < (ts.length : Int) := by omega
      have hn := HT.out _ hb
      obtain ⟨g, off, rfl, _⟩ := hn.addr (by omega)
      have a0 := hn.c0 k hlt
      have hx := wf16 (B0.out _ (iv_mem9 hlt))
      have hst := take_iv ts hlt
      generalize iv ts k = x at a0 hx hst
      have k4 : IntKind.i64.wrap x = x := by rw [IntKind.wrap_i64]; omega
      have Hlt := Lib.hid hlt; have Hst := Lib.hid hst
      clear ho hb hn hx hst hlt hk
      go_wp2_with (at_builtin; refine append_ints Tryz.underlying25 tIntInfo (by rfl) _ _ rfl w.heap.size _ _ (k + 1) (0 :: ts.take k) [x] (by rfl) (Ho.out.alloc _) (by rw [List.length_cons, List.length_take]; have := Hlt.out; omega) (by rfl) (lit1 x) (by show k + 1 + 1 < 900000000; have := Ht5.out; have := Hlt.out; omega) (Hb.out.alloc Hb.out.size _).size ?_; intro v7 w7 ho7 hb7)
      have Ho7 : Hid (w7.ownsRow w.heap.size 3 1 v7 (k + 1 + 1) (flatI (0 :: ts.take (k + 1)))) := Lib.hid (by
        rw [← Hst.out] at ho7
        have e : (0 :: ts.take (k + 1)).length = k + 1 + 1 := by rw [List.length_cons, List.length_take]; have := Hlt.out; omega
        rw [e] at ho7
        exact ho7)
      have Hb7 := Lib.hid ((Hb.out.alloc Hb.out.size _).trans hb7)
      clear ho7 hb7
      go_wp2_with fail
      go_roundw
      case rel => exact ⟨k + 1, by go_num, Hlt.out, Ho7.out, Hb7.out⟩
      case measure => have := Hlt.out; simp [intOf]; omega
    · obtain rfl : k = ts.length := by omega
      have k0 : decide ((ts.length : Int) < (ts.length : Int)) = false := decide_eq_false (by omega)
      have k00 : decide (ts.length < ts.length) = false := decide_eq_false (by omega)
      have hat : IsInts wr (.slice Av nv cv) (0 :: ts) := by
        have h1 := ho
        rw [List.take_length] at h1
        exact ints_of_own (l := 0 :: ts) h1
      obtain ⟨ats, hats⟩ : ∃ y, y = (0 :: ts) := ⟨_, rfl⟩
      rw [← hats] at hat Hok
      have hnv : nv = N := by
        obtain ⟨A', c', e, _⟩ := hat.form
        injection e with _ e2 _
        rw [e2, hats, HN.out]
        rfl
      subst hnv
      have HA : Hid (∀ X, Below wr.heap.size wr X → IsInts X (.slice Av nv cv) ats) := Lib.hid fun X h => hat.below h
      obtain ⟨wB, hwB⟩ : ∃ y, y = wr := ⟨_, rfl⟩
      subst hwB
      have HbB := Lib.hid hb
      clear ho hb hat hats hk hge Hb Ho
      go_wp2_with fail
      clear k0 k00
      go_loopw [13, 14] (fun lv i wq => ∃ (m : Nat) (S : Nat → Value), i = .int .i64 ((2 * m : Nat) : Int) ∧ 2 * m ≤ ps.length ∧ OwnC wq wB.heap.size lv (hidL nv ats ps ws false m) S ∧ Below wB.heap.size wB wq) (fun _ i _ => ps.length - (intOf i).toNat)
      case atStart => exact ⟨0, fun _ => undef, rfl, Nat.zero_le _, .nil, Below.refl _ _⟩
      case round =>
        obtain ⟨m, S, rfl, hm, hoc, hb⟩ := hrel
        obtain ⟨Al, cl, rfl⟩ := hoc.form
        have Hoc := Lib.hid hoc; have Hb := Lib.hid hb
        obtain ⟨kk, hkk⟩ : ∃ k, k = 2 * m := ⟨_, rfl⟩
        rw [← hkk] at hm ⊢
        have Hkk := Lib.hid hkk
        have h16 := Hok.out.p16
        have Hm8 : Hid (m ≤ 8) := Lib.hid (by omega)
        have k1 : IntKind.i64.wrap ((kk : Int) + 1) = (kk : Int) + 1 := by rw [IntKind.wrap_i64]; omega
        rcases Nat.lt_or_ge (kk + 1) ps.length with hlt | hge
        · have k0 : decide ((kk : Int) + 1 < (ps.length : Int)) = true := decide_eq_true (by omega)
          have k00 : decide (kk + 1 < ps.length) = true := decide_eq_true hlt
          have k2 : (0 : Int) ≤ (kk : Int) := by omega
          have k3 : (kk : Int) < (ps.length : Int) := by omega
          have k4 : (0 : Int) ≤ (kk : Int) + 1 := by omega
          have k5 : (kk : Int) + 1 < (ps.length : Int) := by omega
          have k6 : IntKind.i64.wrap ((kk : Int) + 2) = ((kk + 2 : Nat) : Int) := by rw [IntKind.wrap_i64]; omega
          have k7 : ((kk : Int) + 1).toNat = kk + 1 := by omega
          have hn := HP.out _ (HbB.out.trans (hb.mono HbB.out.size)).drew
          obtain ⟨gp, op, hA1, _⟩ : ∃ b off, A1 = some ⟨b, off, none⟩ ∧ b < wr.drew.heap.size := hn.addr (by omega)
          subst hA1
          have a0 := hn.c0 kk (by omega)
          have a1 := hn.c0 (kk + 1) hlt
          have p0 := Hok.out.psb kk (by omega)
          have p1 := Hok.out.psb (kk + 1) hlt
          have e0 : (iv ps kk).tmod (nv : Int) = ((hidI nv ps kk : Nat) : Int) := by
            obtain ⟨a, ha⟩ : ∃ a : Nat, iv ps kk = (a : Int) := ⟨(iv ps kk).toNat, by omega⟩
            unfold hidI
            rw [ha, Int.toNat_natCast]
            rfl
          have e1 : (iv ps (kk + 1)).tmod (nv : Int) = ((hidI nv ps (kk + 1) : Nat) : Int) := by
            obtain ⟨a, ha⟩ : ∃ a : Nat, iv ps (kk + 1) = (a : Int) := ⟨(iv ps (kk + 1)).toNat, by omega⟩
            unfold hidI
            rw [ha, Int.toNat_natCast]
            rfl
          have n1 := Hok.out.n1
          have n6 := Hok.out.n6
          have e2 : ¬ (nv : Int) = 0 := by omega
          have e3 : ¬ nv = 0 := by omega
          have i0 := Hok.out.idx kk
          have i1 := Hok.out.idx (kk + 1)
          have hd : hidD nv ats ps m = iv ats (hidI nv ps (kk + 1)) - iv ats (hidI nv ps kk) := by rw [hkk]; rfl
          have hdb := Hok.out.dif m
          have hwb := Hok.out.wid m
          have hC : hidC nv ats ps ws false m = (((hidI nv ps kk : Nat) : Int), ((hidI nv ps (kk + 1) : Nat) : Int), if false then [hidO (hidD nv ats ps m) (hidW ws m), hidR (hidD nv ats ps m) (hidW ws m)] else [hidR (hidD nv ats ps m) (hidW ws m), hidO (hidD nv ats ps m) (hidW ws m)]) := by rw [hkk]; rfl
          have y0 := Hok.out.at_ _ i0
          have y1 := Hok.out.at_ _ i1
          generalize iv ps kk = x0 at a0 p0 e0
          generalize iv ps (kk + 1) = x1 at a1 p1 e1
          generalize hidI nv ps kk = ii at *
          generalize hidI nv ps (kk + 1) = jj at *
          have f0 : IntKind.i64.wrap x0 = x0 := by rw [IntKind.wrap_i64]; omega
          have f1 : IntKind.i64.wrap x1 = x1 := by rw [IntKind.wrap_i64]; omega
          have f2 : IntKind.i64.wrap (ii : Int) = (ii : Int) := by rw [IntKind.wrap_i64]; omega
          have f3 : IntKind.i64.wrap (jj : Int) = (jj : Int) := by rw [IntKind.wrap_i64]; omega
          have HC := Lib.hid hC; have Hd := Lib.hid hd; have Hdb := Lib.hid hdb; have Hwb := Lib.hid hwb; have Hii := Lib.hid i0; have Hjj := Lib.hid i1; have Hlt := Lib.hid hlt; have Hy := Lib.hid (And.intro y0 y1)
          clear hoc hb hkk h16 hn p0 p1 n1 n6 hd hdb hwb hC y0 y1 i0 i1 hlt hm
          go_wp2_with fail
          go_still (by kernel_rfl)
          have hrec : ({ heap := wr.heap, tape := wr.tape, drawn := wr.drawn + 1, os := wr.os, output := wr.output } : World) = wr.drew := rfl
          rw [hrec]
          clear hrec a0 a1 e0 e1
          have Hoc5 := Lib.hid (Hoc.out.below (Below.refl _ _).drew)
          have Hb5 := Lib.hid Hb.out.drew
          generalize wr.drew = w5 at Hoc5 Hb5 ⊢
          clear Hoc Hb f0 f1 e2 e3
          go_upto_if 78 with fail
          go_cut [17] (fun s wx => s = .int .i64 (hidW ws m) ∧ wx = w5)
          case first =>
            rcases Nat.lt_or_ge kk ws.length with hw | hw
            · have q0 : decide ((kk : Int) < (ws.length : Int)) = true := decide_eq_true (by omega)
              have q00 : decide (kk < ws.length) = true := decide_eq_true hw
              have q3 : (kk : Int) < (ws.length : Int) := by omega
              have hn := HW.out _ (HbB.out.trans (Hb5.out.mono HbB.out.size))
              obtain ⟨gw, ow, hA2, _⟩ : ∃ b off, A2 = some ⟨b, off, none⟩ ∧ b < w5.heap.size := hn.addr (by omega)
              subst hA2
              have a0 := hn.c0 kk hw
              have p0 := Hok.out.wsb kk hw
              have hW : hidW ws m = 1 + iv ws kk := by unfold hidW; rw [← Hkk.out, if_pos hw]
              generalize iv ws kk = x0 at a0 p0 hW
              have f0 : IntKind.i64.wrap x0 = x0 := by rw [IntKind.wrap_i64]; omega
              have f1 : IntKind.i64.wrap (1 + x0) = 1 + x0 := by rw [IntKind.wrap_i64]; omega
              have HW2 := Lib.hid hW
              clear hn p0 hW
              go_wp2_with fail
              go_meet
              exact ⟨by rw [HW2.out], rfl⟩
            · have q0 : decide ((kk : Int) < (ws.length : Int)) = false := decide_eq_false (by omega)
              have q00 : decide (kk < ws.length) = false := decide_eq_false (by omega)
              have HW2 : Hid (hidW ws m = 3) := Lib.hid (by unfold hidW; rw [← Hkk.out, if_neg (by omega)])
              go_wp2_with fail
              go_meet
              exact ⟨by rw [HW2.out], rfl⟩
          case rest =>
            obtain ⟨rfl, rfl⟩ := hcut
            have hn := HA.out _ Hb5.out.drew
            obtain ⟨ga, oa, hA, _⟩ : ∃ b off, Av = some ⟨b, off, none⟩ ∧ b < wc.drew.heap.size := by
              have h := hn
              obtain ⟨A', c', e, _⟩ := h.form
              injection e with e1 e2 e3
              subst e1 e3
              rw [e2] at h
              exact h.addr (by have := Hok.out.n1; omega)
            subst hA
            have hal := Hok.out.len
            obtain ⟨A', c', e, _⟩ := hn.form
            injection e with e1 e2 e3
            subst e3
            rw [e2] at hn
            have a0 := hn.c0 jj (by rw [hal]; exact Hjj.out)
            have a1 := hn.c0 ii (by rw [hal]; exact Hii.out)
            obtain ⟨d, hd⟩ : ∃ d, d = hidD nv ats ps m := ⟨_, rfl⟩
            have hd2 := Hd.out
            rw [← hd] at hd2
            have hy := Hy.out
            have hdb := Hdb.out
            rw [← hd] at hdb
            have hwb := Hwb.out
            have hHC := HC.out
            rw [← hd] at hHC
            obtain ⟨wv, hwv⟩ : ∃ y, y = hidW ws m := ⟨_, rfl⟩
            rw [← hwv] at hwb hHC ⊢
            generalize iv ats jj = y1 at a0 hd2 hy
            generalize iv ats ii = y0 at a1 hd2 hy
            have h3 := w3 hwb.1 hwb.2
            obtain ⟨t3, ht3⟩ : ∃ y, y = wv.tdiv 3 := ⟨_, rfl⟩
            have r0 : (0 : Int) ≤ (jj : Int) := by omega
            have r1 : (jj : Int) < (nv : Int) := by have := Hjj.out; omega
            have r2 : (0 : Int) ≤ (ii : Int) := by omega
            have r3 : (ii : Int) < (nv : Int) := by have := Hii.out; omega
            have r11 : jj < nv := Hjj.out
            have r33 : ii < nv := Hii.out
            have u0 : IntKind.i64.wrap (y1 - y0) = d := by rw [IntKind.wrap_i64, hd2]; omega
            have u1 : wv.tdiv 3 = t3 := ht3.symm
            rw [← ht3] at h3
            have u2 : IntKind.i64.wrap t3 = t3 := by rw [IntKind.wrap_i64]; omega
            have u3 : IntKind.i64.wrap (d - t3) = d - t3 := by rw [IntKind.wrap_i64]; omega
            have u4 : IntKind.i64.wrap (d + wv) = d + wv := by rw [IntKind.wrap_i64]; omega
            have u5 : IntKind.i64.wrap (d + 100) = d + 100 := by rw [IntKind.wrap_i64]; omega
            have u6 : IntKind.i64.wrap (d + 100 + wv) = d + 100 + wv := by rw [IntKind.wrap_i64]; omega
            have HHC := Lib.hid hHC; have Ht3 := Lib.hid ht3
            clear hn hal e1 e2 hd hd2 hy hdb hwb hHC hwv h3 ht3 Hd Hdb Hwb HC Hy
            go_wp2_with fail
            go_still (by kernel_rfl)
            have hrec : ({ heap := wc.heap, tape := wc.tape, drawn := wc.drawn + 1, os := wc.os, output := wc.output } : World) = wc.drew := rfl
            rw [hrec]
            clear hrec a0 a1
            have Hoc6 := Lib.hid (Hoc5.out.below (Below.refl _ _).drew)
            have Hb6 := Lib.hid Hb5.out.drew
            generalize wc.drew = w6 at Hoc6 Hb6 ⊢
            obtain ⟨b1, hb1⟩ : ∃ y, y = w6.heap.size := ⟨_, rfl⟩
            obtain ⟨W7, hW7⟩ : ∃ y, y = w6.alloc (.cells #[.int .i64 (d - t3), .int .i64 (d + wv)] 48) := ⟨_, rfl⟩
            obtain ⟨W8, hW8⟩ : ∃ y, y = W7.alloc (.cells #[.int .i64 (d + 100), .int .i64 (d + 100 + wv)] 48) := ⟨_, rfl⟩
            have hz7 : W7.heap.size = b1 + 1 := by rw [hW7, World.size_alloc, hb1]
            have hz8 : W8.heap.size = b1 + 2 := by rw [hW8, World.size_alloc, hz7]
            have hb7 : Below w6.heap.size w6 W7 := by rw [hW7]; exact (Below.refl _ _).alloc (Nat.le_refl _) _
            have hb8 : Below W7.heap.size W7 W8 := by rw [hW8]; exact (Below.refl _ _).alloc (Nat.le_refl _) _
            have T1 : W8.heap[b1]? = some (.cells #[.int .i64 (d - t3), .int .i64 (d + wv)] 48 (0, 0)) := (hb8.block _ (by omega)).trans (by rw [hW7, hb1]; exact heap_alloc_new w6 _)
            have T2 : W8.heap[b1 + 1]? = some (.cells #[.int .i64 (d + 100), .int .i64 (d + 100 + wv)] 48 (0, 0)) := by rw [hW8, ← hz7]; exact heap_alloc_new W7 _
            have hbr8 : Below w6.heap.size w6 W8 := hb7.trans (hb8.mono hb7.size)
            obtain ⟨W9, hW9⟩ : ∃ y, y = W8.alloc (.cells #[.int .i64 (d - t3), .int .i64 (d + wv), .int .i64 (d + 100), .int .i64 (d + 100 + wv)] 48) := ⟨_, rfl⟩
            obtain ⟨W10, hW10⟩ : ∃ y, y = W9.alloc (.cells #[.int .i64 (ii : Int), .int .i64 (jj : Int), .slice (some ⟨b1 + 2, 0, none⟩) 2 2] 31) := ⟨_, rfl⟩
            have hz9 : W9.heap.size = b1 + 2 + 1 := by rw [hW9, World.size_alloc, hz8]
            have hz10 : W10.heap.size = b1 + 4 := by rw [hW10, World.size_alloc, hz9]
            have hb9 : Below W8.heap.size W8 W9 := by rw [hW9]; exact (Below.refl _ _).alloc (Nat.le_refl _) _
            have hb10 : Below W9.heap.size W9 W10 := by rw [hW10]; exact (Below.refl _ _).alloc (Nat.le_refl _) _
            have T3 : W10.heap[b1 + 2]? = some (.cells #[.int .i64 (d - t3), .int .i64 (d + wv), .int .i64 (d + 100), .int .i64 (d + 100 + wv)] 48 (0, 0)) := (hb10.block _ (by omega)).trans (by rw [hW9, ← hz8]; exact heap_alloc_new W8 _)
            have T4 : W10.heap[b1 + 2 + 1]? = some (.cells #[.int .i64 (ii : Int), .int .i64 (jj : Int), .slice (some ⟨b1 + 2, 0, none⟩) 2 2] 31 (0, 0)) := by rw [hW10, ← hz9]; exact heap_alloc_new W9 _
            have hbr10 : Below w6.heap.size w6 W10 := hbr8.trans ((hb9.mono (by omega)).trans (hb10.mono (by omega)))
            have T1' := ((hb9.trans (hb10.mono hb9.size)).block b1 (by omega)).trans T1
            have T2' := ((hb9.trans (hb10.mono hb9.size)).block (b1 + 1) (by omega)).trans T2
            have c0 := blk_get T1 0
            have c1 := blk_get T1 1
            have c2 := blk_get T2 0
            have c3 := blk_get T2 1
            simp at c0 c1 c2 c3
            have HW7 := Lib.hid hW7; have HW8 := Lib.hid hW8; have HW9 := Lib.hid hW9; have HW10 := Lib.hid hW10; have Hb1 := Lib.hid hb1; have Hz7 := Lib.hid hz7; have Hz8 := Lib.hid hz8; have Hz9 := Lib.hid hz9; have Hz10 := Lib.hid hz10
            have HT1 := Lib.hid T1'; have HT2 := Lib.hid T2'; have HT3 := Lib.hid T3; have HT4 := Lib.hid T4; have Hbr := Lib.hid hbr10
            clear hb1 hW7 hW8 hW9 hW10 hz7 hz8 hz9 hz10 hb7 hb8 hb9 hb10 T1 T2 T3 T4 T1' T2' hbr8 hbr10
            go_upto_region 21 with fail
            rw [← HW7.out, ← HW8.out, ← Hb1.out]
            go_upto_region 22 with fail
            rw [Hz8.out, ← HW9.out, ← HW10.out]
            clear c0 c1 c2 c3
            have a0 := blk_get HT4.out 0
            have a1 := blk_get HT4.out 1
            have a2 := blk_get HT4.out 2
            simp at a0 a1 a2
            have HocX := Lib.hid (Hoc6.out.below Hbr.out)
            have HbX := Lib.hid (Hb6.out.trans (Hbr.out.mono Hb6.out.size))
            have Hsp := Lib.hid (two_sp HT3.out)
            have HCx : Hid (hidC nv ats ps ws false m = ((ii : Int), (jj : Int), [(d - t3, d + wv), (d + 100, d + 100 + wv)])) := Lib.hid (by rw [HHC.out, Ht3.out]; rfl)
            have Hlow : Hid (∀ g, (Value.slice Al (hidL nv ats ps ws false m).length cl).ownBlock = some g → g ≠ b1 + 2) := Lib.hid fun g h => by have h1 := (World.ownsRow.lt Hoc6.out.own g h).2; have h2 := Hb1.out; omega
            have Hsz : Hid (wB.heap.size ≤ W10.heap.size) := Lib.hid HbX.out.size
            clear HT1 HT2 HT3 HT4 HW7 HW8 HW9 HW10 Hz7 Hz8 Hz9 Hz10 Hb1 Hbr
            go_wp2_with (at_builtin; refine append_choG rfl _ _ rfl wB.heap.size _ (hidL nv ats ps ws false m) S (ii : Int) (jj : Int) _ [(d - t3, d + wv), (d + 100, d + 100 + wv)] (by rfl) HocX.out (by rfl) Hsp.out (by show 0 < 2; omega) (fun gg h e => Hlow.out gg h (Option.some.inj e).symm) (by rw [hidL_len]; have := Hm8.out; omega) Hsz.out ?_; intro v7 w7 hout7 hb7 _ _)
            have HFo : Hid (OwnC w7 wB.heap.size v7 (hidL nv ats ps ws false (m + 1)) _) := Lib.hid (by rw [hidL_succ, HCx.out]; exact hout7)
            have Hb7 := Lib.hid (HbX.out.trans hb7)
            clear hout7 hb7
            go_wp2_with fail
            go_roundw
            case rel => exact ⟨m + 1, _, by rw [Hkk.out]; rfl, by have := Hlt.out; have := Hkk.out; omega, HFo.out, Hb7.out⟩
            case measure => have := Hlt.out; simp [intOf]; omega
        · have k0 : decide ((kk : Int) + 1 < (ps.length : Int)) = false := decide_eq_false (by omega)
          have k00 : decide (kk + 1 < ps.length) = false := decide_eq_false (by omega)
          have n1 := Hok.out.n1
          have n6 := Hok.out.n6
          have hst := Hok.out.st (o := false) (k := m) (by have := Hm8.out; omega)
          have hsat := Hok.out.sat (o := false) m
          have hab := Hok.out.above (o := false) (k := m) Hm8.out
          have hch := hoc.chos
          obtain ⟨L, hL⟩ : ∃ L, L = hidL nv ats ps ws false m := ⟨_, rfl⟩
          rw [← hL] at hst hsat hab hch ⊢
          have hnet := stOk_net hst n1 (by omega)
          have hhold := holds_sat hst n1 (by omega) Hok.out.len Hok.out.zero Hok.out.at_ hsat
          obtain ⟨kn, r, hnar⟩ := nar_run n1 (by omega) hst
          obtain ⟨out, rfl, hso⟩ := nar_keep n1 (by omega) hnar hsat
          have hpart := nar_part n1 (by omega) hnar out rfl
          have hhold2 := holds_sat hpart.ok n1 (by omega) Hok.out.len Hok.out.zero Hok.out.at_ hso
          have KSo : Hid (∀ X, Below wr.heap.size wr X → Calls Tryz.prog 13 #[.int .i64 (nv : Int), .slice Al L.length cl, .int .i64 100000] X (fun e w' => ∃ P g c, e = .returned (.tuple #[.slice (some ⟨g, 0, none⟩) nv c, .int .i64 0]) ∧ SolOk nv L P ∧ IsInts w' (.slice (some ⟨g, 0, none⟩) nv c) (schL P nv) ∧ Below X.heap.size X w')) := Lib.hid fun X h => by
            refine (djSolve_c _ _ _ L X (hch.below h)).mono ?_
            rintro e w' ⟨hb, ⟨q1, _⟩ | ⟨_, w0, _, q2⟩⟩
            · exact absurd (bud_zero hnet (by omega) (by omega)) q1
            · rw [Int.toNat_natCast] at q2
              obtain ⟨_, ⟨_, q⟩ | ⟨_, q⟩ | ⟨P, g, c, rfl, q, hr, _, hc1, hc2⟩⟩ := q2
              · rw [show (100000 : Int).toNat = 100000 from rfl, hab] at q
                cases q
              · exact absurd hsat (q _)
              · exact ⟨P, g, c, rfl, q, cells_ints hr.lt (schL_len P nv) hc1 hc2 (fun j hj => by rw [schL_iv P nv hj]; exact hr.cell j hj), hb⟩
          have KN : Hid (∀ X, Below wr.heap.size wr X → Calls Tryz.prog 23 #[.int .i64 (nv : Int), .slice Al L.length cl] X (fun e w' => ∃ A n c, e = .returned (.tuple #[.slice A n c, .int .i64 0]) ∧ IsChos w' (.slice A n c) out ∧ Below X.heap.size X w')) := Lib.hid fun X h => by
            obtain ⟨n', hn'⟩ : ∃ n', nv = n' + 1 := ⟨nv - 1, by omega⟩
            rw [hn'] at hnar hnet ⊢
            refine (djNarrow_c n' _ L X (hch.below h) (by omega) hnet hnar).mono ?_
            rintro e w' ⟨v, S', rfl, ho, hb⟩
            have hc := ho.chos
            obtain ⟨S2, hc2⟩ := hc
            obtain ⟨A, c, rfl, _, _⟩ := hc2.form
            exact ⟨A, _, c, rfl, ⟨S2, hc2⟩, hb⟩
          have KM : Hid (∀ X, Below wr.heap.size wr X → Calls Tryz.prog 10 #[.int .i64 (nv : Int), .slice Al L.length cl, .int .i64 100000] X (Ret X (.tuple #[.slice none 0 0, .int .i64 7]))) := Lib.hid fun X h => by
            refine (djMinimal_c _ _ _ L X (hch.below h)).mono ?_
            rintro e w' ⟨hb, ⟨q1, _⟩ | ⟨_, _, q⟩ | ⟨_, rfl, _⟩ | ⟨_, ks, v, _, _, hk⟩⟩
            · exact absurd (bud_zero hnet (by omega) (by omega)) q1
            · rw [show (100000 : Int).toNat = 100000 from rfl, hab] at q
              cases q
            · exact ⟨rfl, hb⟩
            · have hsub := part_sub (l := L) hk.1
              rw [part_all] at hsub
              exact absurd (sat_sub hsub hsat) (hk.2.1 _)
          have KH : Hid (∀ X v u l (x : List Int), IsChos X v l → IsInts X u x → holdsB l x = true → Calls Tryz.prog 24 #[v, u] X (Ret X (.bool true))) := Lib.hid fun X v u l x h1 h2 h3 => by
            have := djHolds_c v u l x X h1 h2
            rw [h3] at this
            exact this
          have Hch : Hid (∀ X, Below wr.heap.size wr X → IsChos X (.slice Al L.length cl) L) := Lib.hid fun X h => hch.below h
          have HAt : Hid (∀ X, Below wr.heap.size wr X → IsInts X (.slice Av nv cv) ats) := Lib.hid fun X h => HA.out X (hb.trans (h.mono hb.size))
          have Hh1 := Lib.hid hhold; have Hh2 := Lib.hid hhold2
          have Hsol : Hid (∀ P, SolOk nv L P → holdsB L (schL P nv) = true) := Lib.hid fun P h => sol_holds9 n1 (by omega) hst h
          have Hbw := Lib.hid (HbB.out.trans (hb.mono HbB.out.size))
          clear hoc hb hkk h16 hm hge n1 n6 hst hsat hab hch hL hnet hhold hnar hso hpart hhold2 Hoc Hb
          go_wp2_with fail
          refine (KSo.out _ (Below.refl _ _)).mono ?_
          rintro e w3 ⟨P, g, cg, rfl, hsol, hfi, hb3⟩
          have Hfs := Lib.hid (Hsol.out P hsol); have Hfi := Lib.hid hfi; have Hb3 := Lib.hid hb3
          clear hsol hfi hb3 k0 k00 k1
          go_wp2_with fail
          refine (KN.out _ Hb3.out).mono ?_
          rintro e w4 ⟨An, nn, cn, rfl, hno, hb4⟩
          have Hno := Lib.hid hno; have Hfi4 := Lib.hid (Hfi.out.below hb4); have Hb4 := Lib.hid (Hb3.out.trans (hb4.mono Hb3.out.size))
          clear hno hb4
          go_wp2_with fail
          refine (KM.out _ Hb4.out).mono ?_
          rintro e w5 ⟨rfl, hb5⟩
          have Hno5 := Lib.hid (Hno.out.below hb5); have Hfi5 := Lib.hid (Hfi4.out.below hb5); have Hb5 := Lib.hid (Hb4.out.trans (hb5.mono Hb4.out.size))
          clear hb5
          go_wp2_with fail
          refine (KH.out _ _ _ L ats (Hch.out _ Hb5.out) (HAt.out _ Hb5.out) Hh1.out).mono ?_
          rintro e w6 ⟨rfl, hb6⟩
          have Hno6 := Lib.hid (Hno5.out.below hb6); have Hfi6 := Lib.hid (Hfi5.out.below hb6); have Hb6 := Lib.hid (Hb5.out.trans (hb6.mono Hb5.out.size))
          clear hb6
          go_wp2_with fail
          refine (KH.out _ _ _ L (schL P nv) (Hch.out _ Hb6.out) Hfi6.out Hfs.out).mono ?_
          rintro e w7 ⟨rfl, hb7⟩
          have Hno7 := Lib.hid (Hno6.out.below hb7); have Hb7 := Lib.hid (Hb6.out.trans (hb7.mono Hb6.out.size))
          clear hb7
          go_wp2_with fail
          refine (KH.out _ _ _ out ats Hno7.out (HAt.out _ Hb7.out) Hh2.out).mono ?_
          rintro e w8 ⟨rfl, hb8⟩
          have Hb8 := Lib.hid (Hbw.out.trans ((Hb7.out.trans (hb8.mono Hb7.out.size)).mono Hbw.out.size))
          clear hb8
          go_wp2_with fail
          go_ret
          exact ⟨rfl, Hb8.out⟩
set_option maxRecDepth 100000 in
set_option maxHeartbeats 8000000 in
theorem law47HiddenT_c (v0 v1 v2 : Value) (ts ps ws : List Int) (w : World) (h0 : IsNums .i16 w v0 ts) (h1 : IsNums .u8 w v1 ps) (h2 : IsNums .u8 w v2 ws) (b0 : ∀ x ∈ ts, (Lit.int .i16 x).wf = true) (b1 : ∀ x ∈ ps, (Lit.int .u8 x).wf = true) (b2 : ∀ x ∈ ws, (Lit.int .u8 x).wf = true) (hbig : ts.length * 2 ≤ 140737488351232) :
    Calls Tryz.prog 7 #[v0, v1, v2, (.bool true)] w (Ret w (.bool true)) := by
  obtain ⟨A0, c0, rfl, _, _⟩ := h0.form
  obtain ⟨A1, c1, rfl, _, _⟩ := h1.form
  obtain ⟨A2, c2, rfl, _, _⟩ := h2.form
  obtain ⟨N, hN⟩ : ∃ N, N = ts.length + 1 := ⟨_, rfl⟩
  have z0 : IntKind.i64.wrap ((ts.length : Int) + 1) = (N : Int) := by rw [IntKind.wrap_i64]; omega
  have HN := Lib.hid hN
  by_cases hq : 6 < N ∨ 16 < ps.length
  · have hq : decide ((6 : Int) < (N : Int)) = true ∨ (decide ((6 : Int) < (N : Int)) = false ∧ decide ((16 : Int) < (ps.length : Int)) = true ∧ decide (16 < ps.length) = true) := by
      by_cases q : 6 < N
      · exact .inl (decide_eq_true (by omega))
      · exact .inr ⟨decide_eq_false (by omega), decide_eq_true (by omega), decide_eq_true (by omega)⟩
    clear h0 h1 h2 b0 b1 b2 hbig hN
    rcases hq with q | ⟨q, q2, q3⟩
    all_goals
      go_enter Tryz.func7, Tryz.ntmps7
      go_wp2_with fail
      refine (awake47_c _).mono ?_
      rintro e w1 ⟨rfl, hb1⟩
      have HF := Lib.hid hb1
      clear hb1
      go_wp2_with fail
      go_ret
      exact ⟨rfl, HF.out⟩
  have q1 : decide ((6 : Int) < (N : Int)) = false := decide_eq_false (by omega)
  have q11 : decide (6 < N) = false := decide_eq_false (by omega)
  have q2 : decide ((16 : Int) < (ps.length : Int)) = false := decide_eq_false (by omega)
  have q22 : decide (16 < ps.length) = false := decide_eq_false (by omega)
  have hok := hid_ok b0 b1 b2 (by omega) (by omega)
  rw [← hN] at hok
  have Hok := Lib.hid hok
  have HT : Hid (∀ X, Below w.heap.size w X → IsNums .i16 X (.slice A0 ts.length c0) ts) := Lib.hid fun X h => h0.below h
  have HP : Hid (∀ X, Below w.heap.size w X → IsNums .u8 X (.slice A1 ps.length c1) ps) := Lib.hid fun X h => h1.below h
  have HW : Hid (∀ X, Below w.heap.size w X → IsNums .u8 X (.slice A2 ws.length c2) ws) := Lib.hid fun X h => h2.below h
  have B0 := Lib.hid b0
  have Ht5 : Hid (ts.length ≤ 5) := Lib.hid (by omega)
  clear h0 h1 h2 b0 b1 b2 hbig hN hq hok
  go_enter Tryz.func7, Tryz.ntmps7
  go_wp2_with fail
  refine (awake47_c _).mono ?_
  rintro e w1 ⟨rfl, hb1⟩
  have hb2 : Below w.heap.size w (w1.alloc (.cells #[.int .i64 0] 3)) := hb1.alloc hb1.size _
  have ho2 := own1 w1 w.heap.size 0 hb1.size
  obtain ⟨w2, hw2⟩ : ∃ y, y = w1.alloc (.cells #[.int .i64 0] 3) := ⟨_, rfl⟩
  obtain ⟨g1, hg1⟩ : ∃ y, y = w1.heap.size := ⟨_, rfl⟩
  rw [← hw2] at hb2 ho2
  rw [← hg1] at ho2
  have Hb2 := Lib.hid hb2; have Ho2 := Lib.hid ho2; have Hw2 := Lib.hid hw2; have Hg1 := Lib.hid hg1
  clear hb1 hb2 ho2 hw2 hg1
  go_wp2_with fail
  rw [← Hw2.out, ← Hg1.out]
  clear Hw2 Hg1
  clear z0 q1 q11 q2 q22
  go_loopw [10, 43] (fun v i wr => ∃ k : Nat, i = .int .i64 (k : Int) ∧ k ≤ ts.length ∧ wr.ownsRow w.heap.size 3 1 v (k + 1) (flatI (0 :: ts.take k)) ∧ Below w.heap.size w wr) (fun _ i _ => ts.length - (intOf i).toNat)
  case atStart => exact ⟨0, rfl, Nat.zero_le _, Ho2.out, Hb2.out⟩
  case round =>
    obtain ⟨k, rfl, hk, ho, hb⟩ := hrel
    obtain ⟨Av, nv, cv, rfl⟩ : ∃ A n c, u10 = .slice A n c := by
      rcases ho.2 with ⟨e, _⟩ | ⟨g, cap, _, e, _⟩
      · exact ⟨_, _, _, e⟩
      · exact ⟨_, _, _, e⟩
    have Ho := Lib.hid ho; have Hb := Lib.hid hb
    rcases Nat.lt_or_ge k ts.length with hlt | hge
    · have k0 : decide ((k : Int) < (ts.length : Int)) = true := decide_eq_true (by omega)
      have k00 : decide (k < ts.length) = true := decide_eq_true hlt
      have k1 : IntKind.i64.wrap ((k : Int) + 1) = (k : Int) + 1 := by have := Ht5.out; rw [IntKind.wrap_i64]; omega
      have k2 : (0 : Int) ≤ (k : Int) := by omega
      have k3 : (k : Int) < (ts.length : Int) := by omega
      have hn := HT.out _ hb
      obtain ⟨g, off, rfl, _⟩ := hn.addr (by omega)
      have a0 := hn.c0 k hlt
      have hx := wf16 (B0.out _ (iv_mem9 hlt))
      have hst := take_iv ts hlt
      generalize iv ts k = x at a0 hx hst
      have k4 : IntKind.i64.wrap x = x := by rw [IntKind.wrap_i64]; omega
      have Hlt := Lib.hid hlt; have Hst := Lib.hid hst
      clear ho hb hn hx hst hlt hk
      go_wp2_with (at_builtin; refine append_ints Tryz.underlying25 tIntInfo (by rfl) _ _ rfl w.heap.size _ _ (k + 1) (0 :: ts.take k) [x] (by rfl) (Ho.out.alloc _) (by rw [List.length_cons, List.length_take]; have := Hlt.out; omega) (by rfl) (lit1 x) (by show k + 1 + 1 < 900000000; have := Ht5.out; have := Hlt.out; omega) (Hb.out.alloc Hb.out.size _).size ?_; intro v7 w7 ho7 hb7)
      have Ho7 : Hid (w7.ownsRow w.heap.size 3 1 v7 (k + 1 + 1) (flatI (0 :: ts.take (k + 1)))) := Lib.hid (by
        rw [← Hst.out] at ho7
        have e : (0 :: ts.take (k + 1)).length = k + 1 + 1 := by rw [List.length_cons, List.length_take]; have := Hlt.out; omega
        rw [e] at ho7
        exact ho7)
      have Hb7 := Lib.hid ((Hb.out.alloc Hb.out.size _).trans hb7)
      clear ho7 hb7
      go_wp2_with fail
      go_roundw
      case rel => exact ⟨k + 1, by go_num, Hlt.out, Ho7.out, Hb7.out⟩
      case measure => have := Hlt.out; simp [intOf]; omega
    · obtain rfl : k = ts.length := by omega
      have k0 : decide ((ts.length : Int) < (ts.length : Int)) = false := decide_eq_false (by omega)
      have k00 : decide (ts.length < ts.length) = false := decide_eq_false (by omega)
      have hat : IsInts wr (.slice Av nv cv) (0 :: ts) := by
        have h1 := ho
        rw [List.take_length] at h1
        exact ints_of_own (l := 0 :: ts) h1
      obtain ⟨ats, hats⟩ : ∃ y, y = (0 :: ts) := ⟨_, rfl⟩
      rw [← hats] at hat Hok
      have hnv : nv = N := by
        obtain ⟨A', c', e, _⟩ := hat.form
        injection e with _ e2 _
        rw [e2, hats, HN.out]
        rfl
      subst hnv
      have HA : Hid (∀ X, Below wr.heap.size wr X → IsInts X (.slice Av nv cv) ats) := Lib.hid fun X h => hat.below h
      obtain ⟨wB, hwB⟩ : ∃ y, y = wr := ⟨_, rfl⟩
      subst hwB
      have HbB := Lib.hid hb
      clear ho hb hat hats hk hge Hb Ho
      go_wp2_with fail
      clear k0 k00
      go_loopw [13, 14] (fun lv i wq => ∃ (m : Nat) (S : Nat → Value), i = .int .i64 ((2 * m : Nat) : Int) ∧ 2 * m ≤ ps.length ∧ OwnC wq wB.heap.size lv (hidL nv ats ps ws true m) S ∧ Below wB.heap.size wB wq) (fun _ i _ => ps.length - (intOf i).toNat)
      case atStart => exact ⟨0, fun _ => undef, rfl, Nat.zero_le _, .nil, Below.refl _ _⟩
      case round =>
        obtain ⟨m, S, rfl, hm, hoc, hb⟩ := hrel
        obtain ⟨Al, cl, rfl⟩ := hoc.form
        have Hoc := Lib.hid hoc; have Hb := Lib.hid hb
        obtain ⟨kk, hkk⟩ : ∃ k, k = 2 * m := ⟨_, rfl⟩
        rw [← hkk] at hm ⊢
        have Hkk := Lib.hid hkk
        have h16 := Hok.out.p16
        have Hm8 : Hid (m ≤ 8) := Lib.hid (by omega)
        have k1 : IntKind.i64.wrap ((kk : Int) + 1) = (kk : Int) + 1 := by rw [IntKind.wrap_i64]; omega
        rcases Nat.lt_or_ge (kk + 1) ps.length with hlt | hge
        · have k0 : decide ((kk : Int) + 1 < (ps.length : Int)) = true := decide_eq_true (by omega)
          have k00 : decide (kk + 1 < ps.length) = true := decide_eq_true hlt
          have k2 : (0 : Int) ≤ (kk : Int) := by omega
          have k3 : (kk : Int) < (ps.length : Int) := by omega
          have k4 : (0 : Int) ≤ (kk : Int) + 1 := by omega
          have k5 : (kk : Int) + 1 < (ps.length : Int) := by omega
          have k6 : IntKind.i64.wrap ((kk : Int) + 2) = ((kk + 2 : Nat) : Int) := by rw [IntKind.wrap_i64]; omega
          have k7 : ((kk : Int) + 1).toNat = kk + 1 := by omega
          have hn := HP.out _ (HbB.out.trans (hb.mono HbB.out.size)).drew
          obtain ⟨gp, op, hA1, _⟩ : ∃ b off, A1 = some ⟨b, off, none⟩ ∧ b < wr.drew.heap.size := hn.addr (by omega)
          subst hA1
          have a0 := hn.c0 kk (by omega)
          have a1 := hn.c0 (kk + 1) hlt
          have p0 := Hok.out.psb kk (by omega)
          have p1 := Hok.out.psb (kk + 1) hlt
          have e0 : (iv ps kk).tmod (nv : Int) = ((hidI nv ps kk : Nat) : Int) := by
            obtain ⟨a, ha⟩ : ∃ a : Nat, iv ps kk = (a : Int) := ⟨(iv ps kk).toNat, by omega⟩
            unfold hidI
            rw [ha, Int.toNat_natCast]
            rfl
          have e1 : (iv ps (kk + 1)).tmod (nv : Int) = ((hidI nv ps (kk + 1) : Nat) : Int) := by
            obtain ⟨a, ha⟩ : ∃ a : Nat, iv ps (kk + 1) = (a : Int) := ⟨(iv ps (kk + 1)).toNat, by omega⟩
            unfold hidI
            rw [ha, Int.toNat_natCast]
            rfl
          have n1 := Hok.out.n1
          have n6 := Hok.out.n6
          have e2 : ¬ (nv : Int) = 0 := by omega
          have e3 : ¬ nv = 0 := by omega
          have i0 := Hok.out.idx kk
          have i1 := Hok.out.idx (kk + 1)
          have hd : hidD nv ats ps m = iv ats (hidI nv ps (kk + 1)) - iv ats (hidI nv ps kk) := by rw [hkk]; rfl
          have hdb := Hok.out.dif m
          have hwb := Hok.out.wid m
          have hC : hidC nv ats ps ws true m = (((hidI nv ps kk : Nat) : Int), ((hidI nv ps (kk + 1) : Nat) : Int), if true then [hidO (hidD nv ats ps m) (hidW ws m), hidR (hidD nv ats ps m) (hidW ws m)] else [hidR (hidD nv ats ps m) (hidW ws m), hidO (hidD nv ats ps m) (hidW ws m)]) := by rw [hkk]; rfl
          have y0 := Hok.out.at_ _ i0
          have y1 := Hok.out.at_ _ i1
          generalize iv ps kk = x0 at a0 p0 e0
          generalize iv ps (kk + 1) = x1 at a1 p1 e1
          generalize hidI nv ps kk = ii at *
          generalize hidI nv ps (kk + 1) = jj at *
          have f0 : IntKind.i64.wrap x0 = x0 := by rw [IntKind.wrap_i64]; omega
          have f1 : IntKind.i64.wrap x1 = x1 := by rw [IntKind.wrap_i64]; omega
          have f2 : IntKind.i64.wrap (ii : Int) = (ii : Int) := by rw [IntKind.wrap_i64]; omega
          have f3 : IntKind.i64.wrap (jj : Int) = (jj : Int) := by rw [IntKind.wrap_i64]; omega
          have HC := Lib.hid hC; have Hd := Lib.hid hd; have Hdb := Lib.hid hdb; have Hwb := Lib.hid hwb; have Hii := Lib.hid i0; have Hjj := Lib.hid i1; have Hlt := Lib.hid hlt; have Hy := Lib.hid (And.intro y0 y1)
          clear hoc hb hkk h16 hn p0 p1 n1 n6 hd hdb hwb hC y0 y1 i0 i1 hlt hm
          go_wp2_with fail
          go_still (by kernel_rfl)
          have hrec : ({ heap := wr.heap, tape := wr.tape, drawn := wr.drawn + 1, os := wr.os, output := wr.output } : World) = wr.drew := rfl
          rw [hrec]
          clear hrec a0 a1 e0 e1
          have Hoc5 := Lib.hid (Hoc.out.below (Below.refl _ _).drew)
          have Hb5 := Lib.hid Hb.out.drew
          generalize wr.drew = w5 at Hoc5 Hb5 ⊢
          clear Hoc Hb f0 f1 e2 e3
          go_upto_if 78 with fail
          go_cut [17] (fun s wx => s = .int .i64 (hidW ws m) ∧ wx = w5)
          case first =>
            rcases Nat.lt_or_ge kk ws.length with hw | hw
            · have q0 : decide ((kk : Int) < (ws.length : Int)) = true := decide_eq_true (by omega)
              have q00 : decide (kk < ws.length) = true := decide_eq_true hw
              have q3 : (kk : Int) < (ws.length : Int) := by omega
              have hn := HW.out _ (HbB.out.trans (Hb5.out.mono HbB.out.size))
              obtain ⟨gw, ow, hA2, _⟩ : ∃ b off, A2 = some ⟨b, off, none⟩ ∧ b < w5.heap.size := hn.addr (by omega)
              subst hA2
              have a0 := hn.c0 kk hw
              have p0 := Hok.out.wsb kk hw
              have hW : hidW ws m = 1 + iv ws kk := by unfold hidW; rw [← Hkk.out, if_pos hw]
              generalize iv ws kk = x0 at a0 p0 hW
              have f0 : IntKind.i64.wrap x0 = x0 := by rw [IntKind.wrap_i64]; omega
              have f1 : IntKind.i64.wrap (1 + x0) = 1 + x0 := by rw [IntKind.wrap_i64]; omega
              have HW2 := Lib.hid hW
              clear hn p0 hW
              go_wp2_with fail
              go_meet
              exact ⟨by rw [HW2.out], rfl⟩
            · have q0 : decide ((kk : Int) < (ws.length : Int)) = false := decide_eq_false (by omega)
              have q00 : decide (kk < ws.length) = false := decide_eq_false (by omega)
              have HW2 : Hid (hidW ws m = 3) := Lib.hid (by unfold hidW; rw [← Hkk.out, if_neg (by omega)])
              go_wp2_with fail
              go_meet
              exact ⟨by rw [HW2.out], rfl⟩
          case rest =>
            obtain ⟨rfl, rfl⟩ := hcut
            have hn := HA.out _ Hb5.out.drew
            obtain ⟨ga, oa, hA, _⟩ : ∃ b off, Av = some ⟨b, off, none⟩ ∧ b < wc.drew.heap.size := by
              have h := hn
              obtain ⟨A', c', e, _⟩ := h.form
              injection e with e1 e2 e3
              subst e1 e3
              rw [e2] at h
              exact h.addr (by have := Hok.out.n1; omega)
            subst hA
            have hal := Hok.out.len
            obtain ⟨A', c', e, _⟩ := hn.form
            injection e with e1 e2 e3
            subst e3
            rw [e2] at hn
            have a0 := hn.c0 jj (by rw [hal]; exact Hjj.out)
            have a1 := hn.c0 ii (by rw [hal]; exact Hii.out)
            obtain ⟨d, hd⟩ : ∃ d, d = hidD nv ats ps m := ⟨_, rfl⟩
            have hd2 := Hd.out
            rw [← hd] at hd2
            have hy := Hy.out
            have hdb := Hdb.out
            rw [← hd] at hdb
            have hwb := Hwb.out
            have hHC := HC.out
            rw [← hd] at hHC
            obtain ⟨wv, hwv⟩ : ∃ y, y = hidW ws m := ⟨_, rfl⟩
            rw [← hwv] at hwb hHC ⊢
            generalize iv ats jj = y1 at a0 hd2 hy
            generalize iv ats ii = y0 at a1 hd2 hy
            have h3 := w3 hwb.1 hwb.2
            obtain ⟨t3, ht3⟩ : ∃ y, y = wv.tdiv 3 := ⟨_, rfl⟩
            have r0 : (0 : Int) ≤ (jj : Int) := by omega
            have r1 : (jj : Int) < (nv : Int) := by have := Hjj.out; omega
            have r2 : (0 : Int) ≤ (ii : Int) := by omega
            have r3 : (ii : Int) < (nv : Int) := by have := Hii.out; omega
            have r11 : jj < nv := Hjj.out
            have r33 : ii < nv := Hii.out
            have u0 : IntKind.i64.wrap (y1 - y0) = d := by rw [IntKind.wrap_i64, hd2]; omega
            have u1 : wv.tdiv 3 = t3 := ht3.symm
            rw [← ht3] at h3
            have u2 : IntKind.i64.wrap t3 = t3 := by rw [IntKind.wrap_i64]; omega
            have u3 : IntKind.i64.wrap (d - t3) = d - t3 := by rw [IntKind.wrap_i64]; omega
            have u4 : IntKind.i64.wrap (d + wv) = d + wv := by rw [IntKind.wrap_i64]; omega
            have u5 : IntKind.i64.wrap (d + 100) = d + 100 := by rw [IntKind.wrap_i64]; omega
            have u6 : IntKind.i64.wrap (d + 100 + wv) = d + 100 + wv := by rw [IntKind.wrap_i64]; omega
            have HHC := Lib.hid hHC; have Ht3 := Lib.hid ht3
            clear hn hal e1 e2 hd hd2 hy hdb hwb hHC hwv h3 ht3 Hd Hdb Hwb HC Hy
            go_wp2_with fail
            go_still (by kernel_rfl)
            have hrec : ({ heap := wc.heap, tape := wc.tape, drawn := wc.drawn + 1, os := wc.os, output := wc.output } : World) = wc.drew := rfl
            rw [hrec]
            clear hrec a0 a1
            have Hoc6 := Lib.hid (Hoc5.out.below (Below.refl _ _).drew)
            have Hb6 := Lib.hid Hb5.out.drew
            generalize wc.drew = w6 at Hoc6 Hb6 ⊢
            obtain ⟨b1, hb1⟩ : ∃ y, y = w6.heap.size := ⟨_, rfl⟩
            obtain ⟨W7, hW7⟩ : ∃ y, y = w6.alloc (.cells #[.int .i64 (d - t3), .int .i64 (d + wv)] 48) := ⟨_, rfl⟩
            obtain ⟨W8, hW8⟩ : ∃ y, y = W7.alloc (.cells #[.int .i64 (d + 100), .int .i64 (d + 100 + wv)] 48) := ⟨_, rfl⟩
            have hz7 : W7.heap.size = b1 + 1 := by rw [hW7, World.size_alloc, hb1]
            have hz8 : W8.heap.size = b1 + 2 := by rw [hW8, World.size_alloc, hz7]
            have hb7 : Below w6.heap.size w6 W7 := by rw [hW7]; exact (Below.refl _ _).alloc (Nat.le_refl _) _
            have hb8 : Below W7.heap.size W7 W8 := by rw [hW8]; exact (Below.refl _ _).alloc (Nat.le_refl _) _
            have T1 : W8.heap[b1]? = some (.cells #[.int .i64 (d - t3), .int .i64 (d + wv)] 48 (0, 0)) := (hb8.block _ (by omega)).trans (by rw [hW7, hb1]; exact heap_alloc_new w6 _)
            have T2 : W8.heap[b1 + 1]? = some (.cells #[.int .i64 (d + 100), .int .i64 (d + 100 + wv)] 48 (0, 0)) := by rw [hW8, ← hz7]; exact heap_alloc_new W7 _
            have hbr8 : Below w6.heap.size w6 W8 := hb7.trans (hb8.mono hb7.size)
            obtain ⟨W9, hW9⟩ : ∃ y, y = W8.alloc (.cells #[.int .i64 (d - t3), .int .i64 (d + wv), .int .i64 (d + 100), .int .i64 (d + 100 + wv)] 48) := ⟨_, rfl⟩
            obtain ⟨W10, hW10⟩ : ∃ y, y = W9.alloc (.cells #[.int .i64 (ii : Int), .int .i64 (jj : Int), .slice (some ⟨b1 + 2, 0, none⟩) 2 2] 31) := ⟨_, rfl⟩
            have hz9 : W9.heap.size = b1 + 2 + 1 := by rw [hW9, World.size_alloc, hz8]
            have hz10 : W10.heap.size = b1 + 4 := by rw [hW10, World.size_alloc, hz9]
            have hb9 : Below W8.heap.size W8 W9 := by rw [hW9]; exact (Below.refl _ _).alloc (Nat.le_refl _) _
            have hb10 : Below W9.heap.size W9 W10 := by rw [hW10]; exact (Below.refl _ _).alloc (Nat.le_refl _) _
            have T3 : W10.heap[b1 + 2]? = some (.cells #[.int .i64 (d - t3), .int .i64 (d + wv), .int .i64 (d + 100), .int .i64 (d + 100 + wv)] 48 (0, 0)) := (hb10.block _ (by omega)).trans (by rw [hW9, ← hz8]; exact heap_alloc_new W8 _)
            have T4 : W10.heap[b1 + 2 + 1]? = some (.cells #[.int .i64 (ii : Int), .int .i64 (jj : Int), .slice (some ⟨b1 + 2, 0, none⟩) 2 2] 31 (0, 0)) := by rw [hW10, ← hz9]; exact heap_alloc_new W9 _
            have hbr10 : Below w6.heap.size w6 W10 := hbr8.trans ((hb9.mono (by omega)).trans (hb10.mono (by omega)))
            have T1' := ((hb9.trans (hb10.mono hb9.size)).block b1 (by omega)).trans T1
            have T2' := ((hb9.trans (hb10.mono hb9.size)).block (b1 + 1) (by omega)).trans T2
            have c0 := blk_get T1 0
            have c1 := blk_get T1 1
            have c2 := blk_get T2 0
            have c3 := blk_get T2 1
            simp at c0 c1 c2 c3
            have HW7 := Lib.hid hW7; have HW8 := Lib.hid hW8; have HW9 := Lib.hid hW9; have HW10 := Lib.hid hW10; have Hb1 := Lib.hid hb1; have Hz7 := Lib.hid hz7; have Hz8 := Lib.hid hz8; have Hz9 := Lib.hid hz9; have Hz10 := Lib.hid hz10
            have HT1 := Lib.hid T1'; have HT2 := Lib.hid T2'; have HT3 := Lib.hid T3; have HT4 := Lib.hid T4; have Hbr := Lib.hid hbr10
            clear hb1 hW7 hW8 hW9 hW10 hz7 hz8 hz9 hz10 hb7 hb8 hb9 hb10 T1 T2 T3 T4 T1' T2' hbr8 hbr10
            go_upto_region 21 with fail
            rw [← HW7.out, ← HW8.out, ← Hb1.out]
            go_upto_region 22 with fail
            rw [Hz8.out, ← HW9.out, ← HW10.out]
            clear c0 c1 c2 c3
            have a0 := blk_get HT2.out 0
            have a1 := blk_get HT2.out 1
            have a2 := blk_get HT1.out 0
            have a3 := blk_get HT1.out 1
            simp at a0 a1 a2 a3
            obtain ⟨W11, hW11⟩ : ∃ y, y = W10.alloc (.cells #[.int .i64 (d + 100), .int .i64 (d + 100 + wv), .int .i64 (d - t3), .int .i64 (d + wv)] 48) := ⟨_, rfl⟩
            have hb11 : Below W10.heap.size W10 W11 := by rw [hW11]; exact (Below.refl _ _).alloc (Nat.le_refl _) _
            have T5 : W11.heap[b1 + 4]? = some (.cells #[.int .i64 (d + 100), .int .i64 (d + 100 + wv), .int .i64 (d - t3), .int .i64 (d + wv)] 48 (0, 0)) := by rw [hW11, ← Hz10.out]; exact heap_alloc_new W10 _
            have T6 := (hb11.block _ (by rw [Hz10.out]; omega)).trans HT4.out
            have s0 := blk_soft T6 2
            obtain ⟨W12, hW12⟩ : ∃ y, y = W11.setCell ⟨b1 + 2 + 1, 2, none⟩ (.slice (some ⟨b1 + 4, 0, none⟩) 2 2) := ⟨_, rfl⟩
            have T7 : W12.heap[b1 + 4]? = some (.cells #[.int .i64 (d + 100), .int .i64 (d + 100 + wv), .int .i64 (d - t3), .int .i64 (d + wv)] 48 (0, 0)) := by rw [hW12]; exact (blk_oth (by omega) _ _).trans T5
            have T8 : W12.heap[b1 + 2 + 1]? = some (.cells #[.int .i64 (ii : Int), .int .i64 (jj : Int), .slice (some ⟨b1 + 4, 0, none⟩) 2 2] 31 (0, 0)) := by rw [hW12]; exact blk_set T6 2 _
            have hbr12 : Below w6.heap.size w6 W12 := by
              rw [hW12]
              refine (Hbr.out.trans (hb11.mono Hbr.out.size)).setCell (p := ⟨b1 + 2 + 1, 2, none⟩) ?_ _
              show w6.heap.size ≤ b1 + 2 + 1
              have := Hb1.out
              omega
            have HW11 := Lib.hid hW11; have HW12 := Lib.hid hW12; have HT8 := Lib.hid T8
            have HocX := Lib.hid (Hoc6.out.below hbr12)
            have HbX := Lib.hid (Hb6.out.trans (hbr12.mono Hb6.out.size))
            have Hsp := Lib.hid (two_sp T7)
            have HCx : Hid (hidC nv ats ps ws true m = ((ii : Int), (jj : Int), [(d + 100, d + 100 + wv), (d - t3, d + wv)])) := Lib.hid (by rw [HHC.out, Ht3.out]; rfl)
            have Hlow : Hid (∀ g, (Value.slice Al (hidL nv ats ps ws true m).length cl).ownBlock = some g → g ≠ b1 + 4) := Lib.hid fun g h => by have h1 := (World.ownsRow.lt Hoc6.out.own g h).2; have h2 := Hb1.out; omega
            have Hsz : Hid (wB.heap.size ≤ W12.heap.size) := Lib.hid HbX.out.size
            have c6 := blk_get T6 2
            simp at c6
            clear T5 T6 T7 T8 hW11 hW12 hb11 hbr12 HT1 HT2 HT3 HT4 HW7 HW8 HW9 HW10 Hz7 Hz8 Hz9 Hb1 Hbr
            rw [HW11.out] at s0 c6
            go_upto_region 24 with fail
            rw [Hz10.out, ← HW11.out, ← HW12.out]
            have a0 := blk_get HT8.out 0
            have a1 := blk_get HT8.out 1
            have a2 := blk_get HT8.out 2
            simp at a0 a1 a2
            clear HT8 HW11 HW12 Hz10 s0 c6 a3
            go_wp2_with (at_builtin; refine append_choG rfl _ _ rfl wB.heap.size _ (hidL nv ats ps ws true m) S (ii : Int) (jj : Int) _ [(d + 100, d + 100 + wv), (d - t3, d + wv)] (by rfl) HocX.out (by rfl) Hsp.out (by show 0 < 2; omega) (fun gg h e => Hlow.out gg h (Option.some.inj e).symm) (by rw [hidL_len]; have := Hm8.out; omega) Hsz.out ?_; intro v7 w7 hout7 hb7 _ _)
            have HFo : Hid (OwnC w7 wB.heap.size v7 (hidL nv ats ps ws true (m + 1)) _) := Lib.hid (by rw [hidL_succ, HCx.out]; exact hout7)
            have Hb7 := Lib.hid (HbX.out.trans hb7)
            clear hout7 hb7
            go_wp2_with fail
            go_roundw
            case rel => exact ⟨m + 1, _, by rw [Hkk.out]; rfl, by have := Hlt.out; have := Hkk.out; omega, HFo.out, Hb7.out⟩
            case measure => have := Hlt.out; simp [intOf]; omega
        · have k0 : decide ((kk : Int) + 1 < (ps.length : Int)) = false := decide_eq_false (by omega)
          have k00 : decide (kk + 1 < ps.length) = false := decide_eq_false (by omega)
          have n1 := Hok.out.n1
          have n6 := Hok.out.n6
          have hst := Hok.out.st (o := true) (k := m) (by have := Hm8.out; omega)
          have hsat := Hok.out.sat (o := true) m
          have hab := Hok.out.above (o := true) (k := m) Hm8.out
          have hch := hoc.chos
          obtain ⟨L, hL⟩ : ∃ L, L = hidL nv ats ps ws true m := ⟨_, rfl⟩
          rw [← hL] at hst hsat hab hch ⊢
          have hnet := stOk_net hst n1 (by omega)
          have hhold := holds_sat hst n1 (by omega) Hok.out.len Hok.out.zero Hok.out.at_ hsat
          obtain ⟨kn, r, hnar⟩ := nar_run n1 (by omega) hst
          obtain ⟨out, rfl, hso⟩ := nar_keep n1 (by omega) hnar hsat
          have hpart := nar_part n1 (by omega) hnar out rfl
          have hhold2 := holds_sat hpart.ok n1 (by omega) Hok.out.len Hok.out.zero Hok.out.at_ hso
          have KSo : Hid (∀ X, Below wr.heap.size wr X → Calls Tryz.prog 13 #[.int .i64 (nv : Int), .slice Al L.length cl, .int .i64 100000] X (fun e w' => ∃ P g c, e = .returned (.tuple #[.slice (some ⟨g, 0, none⟩) nv c, .int .i64 0]) ∧ SolOk nv L P ∧ IsInts w' (.slice (some ⟨g, 0, none⟩) nv c) (schL P nv) ∧ Below X.heap.size X w')) := Lib.hid fun X h => by
            refine (djSolve_c _ _ _ L X (hch.below h)).mono ?_
            rintro e w' ⟨hb, ⟨q1, _⟩ | ⟨_, w0, _, q2⟩⟩
            · exact absurd (bud_zero hnet (by omega) (by omega)) q1
            · rw [Int.toNat_natCast] at q2
              obtain ⟨_, ⟨_, q⟩ | ⟨_, q⟩ | ⟨P, g, c, rfl, q, hr, _, hc1, hc2⟩⟩ := q2
              · rw [show (100000 : Int).toNat = 100000 from rfl, hab] at q
                cases q
              · exact absurd hsat (q _)
              · exact ⟨P, g, c, rfl, q, cells_ints hr.lt (schL_len P nv) hc1 hc2 (fun j hj => by rw [schL_iv P nv hj]; exact hr.cell j hj), hb⟩
          have KN : Hid (∀ X, Below wr.heap.size wr X → Calls Tryz.prog 23 #[.int .i64 (nv : Int), .slice Al L.length cl] X (fun e w' => ∃ A n c, e = .returned (.tuple #[.slice A n c, .int .i64 0]) ∧ IsChos w' (.slice A n c) out ∧ Below X.heap.size X w')) := Lib.hid fun X h => by
            obtain ⟨n', hn'⟩ : ∃ n', nv = n' + 1 := ⟨nv - 1, by omega⟩
            rw [hn'] at hnar hnet ⊢
            refine (djNarrow_c n' _ L X (hch.below h) (by omega) hnet hnar).mono ?_
            rintro e w' ⟨v, S', rfl, ho, hb⟩
            have hc := ho.chos
            obtain ⟨S2, hc2⟩ := hc
            obtain ⟨A, c, rfl, _, _⟩ := hc2.form
            exact ⟨A, _, c, rfl, ⟨S2, hc2⟩, hb⟩
          have KM : Hid (∀ X, Below wr.heap.size wr X → Calls Tryz.prog 10 #[.int .i64 (nv : Int), .slice Al L.length cl, .int .i64 100000] X (Ret X (.tuple #[.slice none 0 0, .int .i64 7]))) := Lib.hid fun X h => by
            refine (djMinimal_c _ _ _ L X (hch.below h)).mono ?_
            rintro e w' ⟨hb, ⟨q1, _⟩ | ⟨_, _, q⟩ | ⟨_, rfl, _⟩ | ⟨_, ks, v, _, _, hk⟩⟩
            · exact absurd (bud_zero hnet (by omega) (by omega)) q1
            · rw [show (100000 : Int).toNat = 100000 from rfl, hab] at q
              cases q
            · exact ⟨rfl, hb⟩
            · have hsub := part_sub (l := L) hk.1
              rw [part_all] at hsub
              exact absurd (sat_sub hsub hsat) (hk.2.1 _)
          have KH : Hid (∀ X v u l (x : List Int), IsChos X v l → IsInts X u x → holdsB l x = true → Calls Tryz.prog 24 #[v, u] X (Ret X (.bool true))) := Lib.hid fun X v u l x h1 h2 h3 => by
            have := djHolds_c v u l x X h1 h2
            rw [h3] at this
            exact this
          have Hch : Hid (∀ X, Below wr.heap.size wr X → IsChos X (.slice Al L.length cl) L) := Lib.hid fun X h => hch.below h
          have HAt : Hid (∀ X, Below wr.heap.size wr X → IsInts X (.slice Av nv cv) ats) := Lib.hid fun X h => HA.out X (hb.trans (h.mono hb.size))
          have Hh1 := Lib.hid hhold; have Hh2 := Lib.hid hhold2
          have Hsol : Hid (∀ P, SolOk nv L P → holdsB L (schL P nv) = true) := Lib.hid fun P h => sol_holds9 n1 (by omega) hst h
          have Hbw := Lib.hid (HbB.out.trans (hb.mono HbB.out.size))
          clear hoc hb hkk h16 hm hge n1 n6 hst hsat hab hch hL hnet hhold hnar hso hpart hhold2 Hoc Hb
          go_wp2_with fail
          refine (KSo.out _ (Below.refl _ _)).mono ?_
          rintro e w3 ⟨P, g, cg, rfl, hsol, hfi, hb3⟩
          have Hfs := Lib.hid (Hsol.out P hsol); have Hfi := Lib.hid hfi; have Hb3 := Lib.hid hb3
          clear hsol hfi hb3 k0 k00 k1
          go_wp2_with fail
          refine (KN.out _ Hb3.out).mono ?_
          rintro e w4 ⟨An, nn, cn, rfl, hno, hb4⟩
          have Hno := Lib.hid hno; have Hfi4 := Lib.hid (Hfi.out.below hb4); have Hb4 := Lib.hid (Hb3.out.trans (hb4.mono Hb3.out.size))
          clear hno hb4
          go_wp2_with fail
          refine (KM.out _ Hb4.out).mono ?_
          rintro e w5 ⟨rfl, hb5⟩
          have Hno5 := Lib.hid (Hno.out.below hb5); have Hfi5 := Lib.hid (Hfi4.out.below hb5); have Hb5 := Lib.hid (Hb4.out.trans (hb5.mono Hb4.out.size))
          clear hb5
          go_wp2_with fail
          refine (KH.out _ _ _ L ats (Hch.out _ Hb5.out) (HAt.out _ Hb5.out) Hh1.out).mono ?_
          rintro e w6 ⟨rfl, hb6⟩
          have Hno6 := Lib.hid (Hno5.out.below hb6); have Hfi6 := Lib.hid (Hfi5.out.below hb6); have Hb6 := Lib.hid (Hb5.out.trans (hb6.mono Hb5.out.size))
          clear hb6
          go_wp2_with fail
          refine (KH.out _ _ _ L (schL P nv) (Hch.out _ Hb6.out) Hfi6.out Hfs.out).mono ?_
          rintro e w7 ⟨rfl, hb7⟩
          have Hno7 := Lib.hid (Hno6.out.below hb7); have Hb7 := Lib.hid (Hb6.out.trans (hb7.mono Hb6.out.size))
          clear hb7
          go_wp2_with fail
          refine (KH.out _ _ _ out ats Hno7.out (HAt.out _ Hb7.out) Hh2.out).mono ?_
          rintro e w8 ⟨rfl, hb8⟩
          have Hb8 := Lib.hid (Hbw.out.trans ((Hb7.out.trans (hb8.mono Hb7.out.size)).mono Hbw.out.size))
          clear hb8
          go_wp2_with fail
          go_ret
          exact ⟨rfl, Hb8.out⟩
theorem law47Hidden_c (v0 v1 v2 : Value) (ts ps ws : List Int) (o : Bool) (w : World) (h0 : IsNums .i16 w v0 ts) (h1 : IsNums .u8 w v1 ps) (h2 : IsNums .u8 w v2 ws) (b0 : ∀ x ∈ ts, (Lit.int .i16 x).wf = true) (b1 : ∀ x ∈ ps, (Lit.int .u8 x).wf = true) (b2 : ∀ x ∈ ws, (Lit.int .u8 x).wf = true) (hbig : ts.length * 2 ≤ 140737488351232) :
    Calls Tryz.prog 7 #[v0, v1, v2, .bool o] w (Ret w (.bool true)) := by
  cases o
  · exact law47HiddenF_c v0 v1 v2 ts ps ws w h0 h1 h2 b0 b1 b2 hbig
  · exact law47HiddenT_c v0 v1 v2 ts ps ws w h0 h1 h2 b0 b1 b2 hbig

set_option maxRecDepth 100000 in
theorem law47Hidden_lifted (os : Os) (started : os.Started) (H : Type) (enc : TypeId × Value → H) :
    ReturnsInHanded {} Tryz.checked os 7 .any (Rows.disjunctiveHiddenSpec.pre6 enc Tryz.prog Tryz.f7 Rows.disjunctiveHiddenRow.domain false) (Rows.disjunctiveHiddenSpec.post enc Tryz.prog Tryz.f7 false true false false) := by
  refine returnsInHanded_of_change_sized (C := Tryz.checked) Tryz.own started (by kernel_rfl) Tryz.func7
    (ChangeSpec.witness6 (enc := enc) (C := Tryz.checked) false ⟨#[], #[.slice none 0 0, .slice none 0 0, .slice none 0 0, .bool false], []⟩ 8 (by kernel_rfl) (by kernel_rfl) (by kernel_rfl) (by kernel_rfl)) ?_
  intro W base args ds gs before hval0 hW hcnd hsized _
  have hval : ∀ (j : Nat) t v, Tryz.f7.params[j]? = some t → args[j]? = some v → Value.okWide Tryz.prog W .any base t v := hval0
  have hW' := hW
  obtain ⟨p, q, hA0, hV, rfl, hfz, hnd⟩ := hW
  have hA : DataW.TrodAll enc Tryz.prog W 0 (fun _ => true) true Tryz.f7.params.toList args.toList ds p := hA0
  have hA1 := hA0
  rw [Tryz.params7] at hA hval
  obtain ⟨v0, v1, v2, v3, d0, d1, d2, d3, p0, p1, p2, p3, rfl, rfl, hp, h0, h1, h2, h3⟩ := trodAll_four hA
  obtain ⟨rfl, rfl⟩ := trodVars_none hV
  obtain ⟨ts, g0, b0⟩ := open_nums Tryz.underlying44 Tryz.underlying46 (by kernel_rfl) (hval 0 44 v0 rfl rfl) h0
  obtain ⟨ps, g1, b1⟩ := open_nums Tryz.underlying45 Tryz.underlying5 (by kernel_rfl) (hval 1 45 v1 rfl rfl) h1
  obtain ⟨ws, g2, b2⟩ := open_nums Tryz.underlying45 Tryz.underlying5 (by kernel_rfl) (hval 2 45 v2 rfl rfl) h2
  obtain ⟨o, rfl, rfl, rfl⟩ := open_bool Tryz.underlying4 (hval 3 4 v3 rfl rfl) h3
  have hbig := nums_big (nb := 2) Tryz.underlying44 (by kernel_rfl) g0 h0 0 _ _ (by rw [Tryz.params7]; rfl) (by rfl) hsized
  clear hA0 hval0
  have hlt : ∀ x ∈ p, x.block < W.heap.size := fun x hx => hW'.lt x (by simp [hx])
  refine (law47Hidden_c v0 v1 v2 ts ps ws o W g0 g1 g2 b0 b1 b2 hbig).mono fun e W' ⟨he, hg⟩ => ?_
  subst he
  exact ⟨_, rfl, post_of_below (pa := p) (pv := []) hW' (fun _ _ _ => trodAll_mk1 (shut_bool Tryz.underlying4 _))
    (fun sp hsp => trodAll_keep Tryz.laidOut hg (by kernel_rfl) hA1 hlt (fun x hx => hsp x (by simp [hx])))
    (fun _ _ => rfl) rfl hg (ok_one (by kernel_rfl) rfl (okWide_bool_mk Tryz.underlying4 _))⟩

theorem law47Hidden_holds : Rows.DisjunctiveHiddenSaid :=
  OpenClaim.holds_of_wide 7 Tryz.f7 rfl rfl rfl rfl rfl rfl rfl ⟨rfl, rfl, rfl, rfl, rfl⟩ rfl rfl rfl rfl rfl (by kernel_rfl) Tryz.func7 (by kernel_rfl)
    (of_decide_eq_true (by kernel_rfl)) (by unfold Func.isWrapper; first | (rw [if_pos (by decide +kernel)]; kernel_rfl) | (rw [if_neg (by decide +kernel)]; exact ⟨rfl, rfl⟩))
    (fun os started H enc _ => law47Hidden_lifted os started H enc)
#print axioms law47Hidden_holds
end Go.Proofs.YtcppcfinnbeboaaGreat
