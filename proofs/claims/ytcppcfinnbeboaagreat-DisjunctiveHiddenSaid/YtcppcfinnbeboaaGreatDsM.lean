/- Law 47: the search, walked. -/
import Derived.Test.YtcppcfinnbeboaaGreatDsk
import Derived.Deep.LoopGhost
namespace Go.Proofs.YtcppcfinnbeboaaGreat
open Go.RowKit Go.Shelf

def SRel (base zs N : Nat) (L : List Cho) (W0 : World) (J : List Mat → World → Prop) (lim : Bool) (most k : Nat) (st sv : Value) (wr : World) : Prop :=
  ∃ (d g cap : Nat) (s : Int) (mv : Nat → Value) (nx : Nat → Nat) (PM : Nat → Mat) (bl : Nat → List Bnd) (vs : List Mat), st = .int .i64 s ∧ sv = .slice (some ⟨g, 0, none⟩) d cap ∧ k = muV L nx d ∧ SStat base zs N L W0 J noT d g cap mv nx PM bl vs wr ∧ (lim = true → 0 ≤ s ∧ s ≤ (most : Int))
set_option maxRecDepth 100000 in
set_option maxHeartbeats 8000000 in
theorem djsearch_c (N : Nat) (v : Value) (l : List Cho) (S0 : Nat → Value) (most : Nat) (f : FuncId) (caps : Array Value) (J Dn : List Mat → World → Prop) (w0 w : World) (hs : ChosIn w0 v l S0) (hw : Below w0.heap.size w0 w) (hN1 : 1 ≤ N) (hN : N ≤ 24) (hst : StOk N l) (hm1 : 1 ≤ most) (hm : most ≤ 100000) (hV : Visitor w0.heap.size w.heap.size N f caps J Dn) (hJ : J [] w) :
    Calls Tryz.prog 33 #[.int .i64 (N : Int), v, .int .i64 (most : Int), .func (.func f) #[] caps] w (SRet N l most J Dn w0.heap.size w) := by
  obtain ⟨A0, cp0, rfl, _, _⟩ := hs.form
  obtain ⟨base, hbase⟩ : ∃ y, y = w0.heap.size := ⟨_, rfl⟩
  obtain ⟨zs, hzs⟩ : ∃ y, y = w.heap.size := ⟨_, rfl⟩
  rw [← hbase, ← hzs] at hV
  rw [← hbase]
  have hb0 : base ≤ zs := by rw [hbase, hzs]; exact hw.size
  obtain ⟨W1, hW1⟩ : ∃ y, y = w.alloc (.cells #[.slice A0 l.length cp0] 22) := ⟨_, rfl⟩
  have hbW1 : Below zs w W1 := by rw [hW1]; exact (Below.refl _ _).alloc (by omega) _
  have hz1 : W1.heap.size = zs + 1 := by rw [hW1, World.size_alloc, hzs]
  have hT1 : W1.heap[zs]? = some (.cells #[.slice A0 l.length cp0] 22 (0, 0)) := by rw [hW1, hzs]; exact heap_alloc_new w _
  have c0 := blk_get hT1 0
  simp only [List.getElem?_toArray, List.getElem?_cons_zero] at c0
  have hbw : Below base w0 W1 := by rw [hbase]; exact hw.trans (hbW1.mono (by omega))
  have KC : Hid (Calls Tryz.prog 39 #[.slice A0 l.length cp0] W1 (CloneRetS l S0 W1)) := Lib.hid (slCloneChoice_s _ l S0 W1 (hs.below (by rw [← hbase]; exact hbw)) (by have := hst.1; omega) (fun i hi => by have := (hst.2 i hi).2.2.2.2.1; omega))
  have HZ : Hid (∀ i, i < l.length → ∀ X, Below base w0 X → IsSpans X (S0 i) (cho l i).2.2) := Lib.hid fun i hi X hX => (hs.2 i hi).below (by rw [← hbase]; exact hX)
  have HW1 := Lib.hid hW1; have HbW1 := Lib.hid hbW1; have Hz1 := Lib.hid hz1; have HT1 := Lib.hid hT1; have Hbw := Lib.hid hbw; have Hzs := Lib.hid hzs; have Hbase := Lib.hid hbase
  have HN1 := Lib.hid hN1; have HN := Lib.hid hN; have Hst := Lib.hid hst; have Hm1 := Lib.hid hm1; have Hm := Lib.hid hm; have HV := Lib.hid hV; have HJ := Lib.hid hJ; have Hb0 := Lib.hid hb0
  obtain ⟨fv, hfv⟩ : ∃ y, y = Value.func (.func f) #[] caps := ⟨_, rfl⟩
  rw [← hfv]
  have Hfv := Lib.hid hfv
  clear hs hw hN1 hN hst hm1 hm hV hJ hb0 hW1 hbW1 hz1 hT1 hbw hzs hbase hfv
  go_enter Tryz.func33, Tryz.ntmps33
  go_wp2_with fail
  rw [← HW1.out, ← Hzs.out]
  go_step3
  go_wp2_with fail
  refine KC.out.mono ?_
  rintro e w2 ⟨o, rfl, ho2, hb2⟩
  obtain ⟨Ao, co, rfl⟩ : ∃ A c, o = .slice A l.length c := by
    rcases id ho2 with ⟨rfl, A, c, rfl, _⟩ | ⟨g, c, rfl, _⟩
    · exact ⟨A, c, rfl⟩
    · exact ⟨_, _, rfl⟩
  have hT2 := (hb2.block _ (by rw [Hz1.out]; omega)).trans HT1.out
  have u0 := blk_soft hT2 0
  have u1 := blk_get hT2 0
  simp only [List.getElem?_toArray, List.getElem?_cons_zero] at u1
  obtain ⟨W3, hW3⟩ : ∃ y, y = w2.setCell ⟨zs, 0, none⟩ (.slice Ao l.length co) := ⟨_, rfl⟩
  have hT3 : W3.heap[zs]? = some (.cells #[.slice Ao l.length co] 22 (0, 0)) := by rw [hW3]; exact blk_set hT2 0 _
  have t3 := blk_get hT3 0
  simp only [List.getElem?_toArray, List.getElem?_cons_zero] at t3
  have hs3 : w2.heap.size = W3.heap.size := by rw [hW3]; simp [World.setCell]
  have hb3 : Below zs W1 W3 := by rw [hW3]; exact (hb2.mono (show zs ≤ W1.heap.size by rw [Hz1.out]; omega)).setCell (p := ⟨zs, 0, none⟩) (show zs ≤ zs from Nat.le_refl _) _
  have ho3 : OutAt W3 W1.heap.size (.slice Ao l.length co) l S0 := by
    rcases ho2 with h | ⟨g, c, h1, h2, h3, h4, h5⟩
    · exact .inl h
    · refine .inr ⟨g, c, h1, h2, h3, h4, ?_⟩
      have hne : g ≠ zs := by rw [Hz1.out] at h4; omega
      obtain ⟨⟨cs, a1, a2⟩, b1, b2⟩ := h5
      have hbA : Below base w0 W3 := Hbw.out.trans (hb3.mono Hb0.out)
      exact ⟨⟨cs, by rw [hW3, blk_oth hne]; exact a1, a2⟩, fun i hi => HZ.out i hi _ hbA, b2⟩
  have KS : Hid (Calls Tryz.prog 51 #[.iface 22 (.slice Ao l.length co), .func (.func 52) #[] #[.pointer (some ⟨zs, 0, none⟩)]] W3 (SrtRet47 (fun u sp => ∀ X, Below base w0 X → IsSpans X u sp) l (.slice Ao l.length co) W1.heap.size W3)) :=
    Lib.hid (sort_all _ l S0 _ zs W1.heap.size W3 ho3 HZ.out hT3 (by rw [Hz1.out]; omega) (by rw [← hs3]; exact hb2.size) (by have := Hst.out.1; omega))
  have HT3 := Lib.hid hT3; have HB3 := Lib.hid hb3; have HW3 := Lib.hid hW3
  clear c0 hb2 hT2 ho2 ho3 hT3 hb3 hs3
  rw [hW3] at t3
  clear hW3
  go_wp2_with fail
  rw [← HW3.out]
  refine KS.out.mono ?_
  rintro e w4 ⟨rfl, ⟨L, S, hp, ho4, hZ4⟩, hb4⟩
  have hll := hp.length_eq
  have hT4 := (hb4.block zs (by rw [Hz1.out]; omega)).trans HT3.out
  have t4 := blk_get hT4 0
  simp only [List.getElem?_toArray, List.getElem?_cons_zero] at t4
  have hb4z : Below zs W3 w4 := hb4.mono (by rw [Hz1.out]; omega)
  have hcb : ∀ i, i < L.length → ChoN (N : Int) (cho L i) := perm_cho hp Hst.out.2
  have KA : Hid (Calls Tryz.prog 53 #[.slice Ao l.length co, .int .i64 (most : Int)] w4 (Ret w4 (.bool (aboveB L most)))) := Lib.hid (djabove_c _ L most w4 ho4.chos (by have := Hst.out.1; omega) (fun i hi => ⟨(hcb i hi).2.2.2.2.1, (hcb i hi).2.2.2.2.2.1⟩) (by have := Hm.out; omega) Hm1.out)
  have Hp := Lib.hid hp; have Ho4 := Lib.hid ho4; have HZ4 := Lib.hid hZ4; have HT4 := Lib.hid hT4; have Hb4 := Lib.hid hb4z; have Hcb := Lib.hid hcb; have Hll := Lib.hid hll
  clear t3 u0 u1 hp ho4 hZ4 hb4 hll hT4 hb4z hcb
  go_wp2_with fail
  refine KA.out.mono ?_
  rintro e w5 ⟨rfl, hb5⟩
  have Hb5 := Lib.hid hb5
  have HLm : Hid (aboveB L most = aboveB l most) := Lib.hid (by unfold aboveB; rw [sizeN_perm Hp.out])
  clear hb5
  generalize aboveB L most = lim at HLm
  go_wp2_with fail
  refine (djopen_c N w5 HN.out HN1.out).mono ?_
  rintro e w6 ⟨m0, rfl, hm0, hb6⟩
  obtain ⟨Am, cm, rfl⟩ : ∃ A c, m0 = .slice A N c := by
    obtain ⟨b, c, G, C, h1, _⟩ := hm0
    exact ⟨_, _, h1⟩
  have Hm0 := Lib.hid hm0; have Hb6 := Lib.hid hb6
  clear hm0 hb6 t4
  go_wp2_with fail
  go_step3
  go_wp2_with fail
  have hb46 : Below w4.heap.size w4 w6 := Hb5.out.trans (Hb6.out.mono Hb5.out.size)
  have hz46 : zs ≤ w4.heap.size := by have := HT4.out; have := blk_lt this; omega
  have hzw : Below zs w w6 := HbW1.out.trans (HB3.out.trans (Hb4.out.trans (hb46.mono hz46)))
  have hbase6 : Below base w0 w6 := Hbw.out.trans ((HB3.out.trans (Hb4.out.trans (hb46.mono hz46))).mono Hb0.out)
  have hzs6 : zs < w6.heap.size := by have h1 := blk_lt HT4.out; have h2 := hb46.size; omega
  have FB : Hid (∀ W, Kz base zs w6 W → W.heap[zs]? = some (.cells #[.slice Ao l.length co] 22 (0, 0))) := Lib.hid fun W hK => (hK.oth zs (Nat.le_refl _) hzs6).trans ((hb46.block zs (blk_lt HT4.out)).trans HT4.out)
  have FR : Hid (∀ W d, Kz base zs w6 W → d < L.length → ∃ gl, Ao = some ⟨gl, 0, none⟩ ∧ W.cell? ⟨gl, d * 3, none⟩ = some (.int .i64 (cho L d).1) ∧ W.cell? ⟨gl, d * 3 + 1, none⟩ = some (.int .i64 (cho L d).2.1) ∧ W.cell? ⟨gl, d * 3 + 2, none⟩ = some (S d) ∧ IsSpans W (S d) (cho L d).2.2) := Lib.hid fun W d hK hd => by
    rcases Ho4.out with ⟨rfl, _⟩ | ⟨gl, c, h1, h2, h3, h4, h5⟩
    · exact absurd hd (by simp)
    · injection h1 with h1
      have hgl := h5.lt
      have hfr : W.heap[gl]? = w4.heap[gl]? := (hK.oth gl (by rw [Hz1.out] at h4; omega) (by have := hb46.size; omega)).trans (hb46.block gl hgl)
      have hc : ∀ j, W.cell? ⟨gl, j, none⟩ = w4.cell? ⟨gl, j, none⟩ := fun j => by unfold World.cell?; simp only [hfr]
      exact ⟨gl, h1, by rw [hc]; exact h5.c0 d hd, by rw [hc]; exact h5.c1 d hd, by rw [hc]; exact h5.c2 d hd, HZ4.out d hd W (hbase6.trans hK.bel)⟩
  obtain ⟨P0, hP0, hP0e⟩ := tight_nil HN1.out HN.out
  obtain ⟨W7, hW7⟩ : ∃ y, y = w6.alloc (.cells #[.slice Am N cm, .int .i64 0] 82) := ⟨_, rfl⟩
  have hb7 : Below w6.heap.size w6 W7 := by rw [hW7]; exact (Below.refl _ _).alloc (Nat.le_refl _) _
  have hS7 : SStat base zs N L w6 J noT 1 w6.heap.size 1 (fun _ => .slice Am N cm) (fun _ => 0) (fun _ => P0) (fun _ => []) [] W7 := by
    refine ⟨Kz.of hb7 (by have := Hb0.out; omega), ⟨⟨_, by rw [hW7]; exact heap_alloc_new w6 _, by simp, fun k hk => ?_⟩, Nat.le_refl _, by unfold maxLen; omega⟩, Nat.le_refl _, by omega, fun k _ => ?_, fun k hk hl => Nat.zero_le _, fun k hk => ⟨by rfl, hP0, fun x _ i hi => absurd hi (by omega)⟩, fun P hP => absurd hP (by simp), HV.out.keep _ _ _ HJ.out (hzw.trans (hb7.mono (by omega))), fun x hx => .inr (.inl ⟨0, by omega, ?_, fun hl => ?_⟩)⟩
    · obtain rfl : k = 0 := by omega
      exact ⟨rfl, rfl⟩
    · refine (((Hm0.out.congr hP0e).mono (q := fun b => zs ≤ b ∧ b ≠ w6.heap.size) fun b hb hq => ⟨?_, by omega⟩).below hb7)
      have := Hb5.out.size
      omega
    · exact ((tightX_some HN1.out HN.out (by rfl) hP0).2.2 x).2 (satL_nil x)
    · obtain ⟨i, b1, b2⟩ := mem_ex (hx 0 hl)
      exact ⟨i, Nat.zero_le _, b1, b2⟩
  have HEnd : Hid (∀ g cap mv nx PM bl vs wr, SStat base zs N L w6 J noT 0 g cap mv nx PM bl vs wr → SRet N l most J Dn base w (.returned (.bool false)) wr) := Lib.hid fun g cap mv nx PM bl vs wr h => ⟨false, vs, rfl, (hzw.mono Hb0.out).trans h.keep.bel, fun P hP => mat_sol Hp.out (h.vis P hP), .inr (.inr ⟨rfl, h.j, fun x hx => by
    rcases h.cov x ((satN_perm Hp.out x).2 hx) with a | ⟨k, a, _⟩ | a
    · exact a
    · omega
    · exact absurd a id⟩)⟩
  have HS7 := Lib.hid hS7; have Hzw := Lib.hid hzw; have Hzs6 := Lib.hid hzs6
  have HW7 := Lib.hid hW7
  clear hb46 hz46 hzw hbase6 hzs6 hP0 hP0e hb7 hS7 hW7
  rw [← HW7.out]
  go_loopg [10, 11] (muV L (fun _ => 0) 1) (fun k st sv wr => SRel base zs N L w6 J lim most k st sv wr)
  case atStart => exact ⟨1, w6.heap.size, 1, 0, _, _, _, _, _, rfl, rfl, rfl, HS7.out, fun _ => ⟨Int.le_refl _, by omega⟩⟩
  case round =>
    obtain ⟨d, g, cap, s, mv, nx, PM, bl, vs, rfl, rfl, hk, hS, hlim⟩ := hrel
    have HS := Lib.hid hS; have Hlim := Lib.hid hlim; have Hk := Lib.hid hk
    clear hS hlim hk
    cases d with
    | zero =>
      have k0 : decide ((0 : Int) > 0) = false := by rfl
      go_wp2_with fail
      rw [Exit.noGoto_ret]
      go_ret
      exact HEnd.out _ _ _ _ _ _ _ _ HS.out
    | succ d =>
      have k0 : decide ((0 : Int) < ((d + 1 : Nat) : Int)) = true := decide_eq_true (by omega)
      have k1 : IntKind.i64.wrap (((d + 1 : Nat) : Int) - 1) = (d : Int) := by have := HS.out.d1; have := Hst.out.1; have := Hll.out; rw [IntKind.wrap_i64]; omega
      have k9 : IntKind.i64.wrap (d : Int) = (d : Int) := by have := HS.out.d1; have := Hst.out.1; have := Hll.out; rw [IntKind.wrap_i64]; omega
      have k2 : (0 : Int) ≤ (d : Int) := by omega
      have k3 : (d : Int) < ((d + 1 : Nat) : Int) := by omega
      have hT := FB.out _ HS.out.keep
      have t0 := blk_get hT 0
      simp only [List.getElem?_toArray, List.getElem?_cons_zero] at t0
      clear hT
      have k7 : (d : Int) ≤ (cap : Int) := by have := HS.out.lv.hd; omega
      have k8 : (0 : Int) ≤ (cap : Int) := by omega
      have hlen : l.length = L.length := Hll.out.symm
      rw [hlen] at t0
      clear hlen
      rcases Nat.lt_or_ge d L.length with hd | hd
      rotate_left
      · obtain rfl : d = L.length := by have := HS.out.d1; omega
        have k4 : ((L.length : Int) == (L.length : Int)) = true := by simp
        have m1 := HS.out.lv.c0 L.length (Nat.lt_succ_self _)
        clear hd
        have eg := HV.out.ent
        rw [Hfv.out]
        have hz : zs ≤ wr.heap.size := by have h1 := HS.out.keep.bel.size; have h2 := Hzs6.out; omega
        obtain ⟨p1, p2, p3⟩ := HS.out.path L.length (Nat.lt_succ_self _)
        obtain ⟨p4, p5, _⟩ := tightX_some HN1.out HN.out p1 p2
        have KV := Lib.hid (HV.out.call wr _ _ vs HS.out.j hz ((HS.out.mats L.length (Nat.lt_succ_self _)).mono fun b _ h => h.1) p4 p5)
        obtain ⟨mm, hmm⟩ : ∃ y, y = mv L.length := ⟨_, rfl⟩
        rw [← hmm] at m1 KV
        have hms : ∃ A n c, mm = .slice A n c := by
          obtain ⟨b, c, G, C, h1, _⟩ := HS.out.mats L.length (Nat.lt_succ_self _)
          exact ⟨_, _, _, hmm.trans h1⟩
        obtain ⟨A2, n2, c2, rfl⟩ := hms
        clear p1 p2 p3 p4 p5 hz hmm
        go_wp2_with (go_at_fn f; refine KV.out.mono ?_; rintro e w8 ⟨bb, rfl, hK8, hJ8⟩; have HK8 := Lib.hid hK8; have HJ8 := Lib.hid hJ8; clear hK8 hJ8; cases bb)
        · rw [Exit.noGoto_ret]
          go_ret
          refine ⟨false, vs ++ [PM L.length], rfl, (Hzw.out.mono Hb0.out).trans (HS.out.keep.bel.trans HK8.out.bel), fun P hP => ?_, .inr (.inl ⟨rfl, by simp, HJ8.out⟩)⟩
          rcases List.mem_append.1 hP with h1 | h1
          · exact mat_sol Hp.out (HS.out.vis P h1)
          · rw [List.mem_singleton.1 h1]
            exact mat_sol Hp.out ⟨_, HS.out.path L.length (Nat.lt_succ_self _)⟩
        · rw [← Hfv.out]
          go_roundg (muV L nx L.length)
          case measure => rw [Hk.out]; exact mu_pop L nx _
          case rel => exact ⟨L.length, g, cap, s, mv, nx, PM, bl, _, rfl, rfl, rfl, HS.out.visit (by have := Hzs6.out; omega) rfl HK8.out HJ8.out, Hlim.out⟩
      · have k4 : ((d : Int) == (L.length : Int)) = false := by simp; omega
        obtain ⟨gl, rfl, r0, r1, r2, r3⟩ := FR.out _ d HS.out.keep hd
        have k5 : (d : Int) < (L.length : Int) := by omega
        obtain ⟨A3, c3, e3, _, _⟩ := r3.form
        rw [e3] at r2
        generalize hcd : cho L d = cd at r0 r1 r2 r3
        obtain ⟨cI, cJ, sp⟩ := cd
        simp only at r0 r1 r2 r3
        rw [hcd] at e3
        have HSd : Hid (S d = .slice A3 sp.length c3) := Lib.hid e3
        clear r3 e3
        obtain ⟨W9, hW9⟩ : ∃ y, y = wr.alloc (.cells #[.int .i64 cI, .int .i64 cJ, .slice A3 sp.length c3] 31) := ⟨_, rfl⟩
        obtain ⟨bc, hbc⟩ : ∃ y, y = wr.heap.size := ⟨_, rfl⟩
        have hb9 : Below wr.heap.size wr W9 := by rw [hW9]; exact (Below.refl _ _).alloc (Nat.le_refl _) _
        have hT9 : W9.heap[bc]? = some (.cells #[.int .i64 cI, .int .i64 cJ, .slice A3 sp.length c3] 31 (0, 0)) := by rw [hW9, hbc]; exact heap_alloc_new wr _
        have HS9 := Lib.hid (HS.out.below HV.out Hb0.out (by have := Hzs6.out; omega) hb9)
        have Hgbc : Hid (bc ≠ g) := Lib.hid (by have := HS.out.lv.lt; omega)
        have HT9 := Lib.hid hT9; have HW9 := Lib.hid hW9; have Hbc := Lib.hid hbc; have Hcd := Lib.hid hcd; have Hd := Lib.hid hd
        clear hb9 hT9 hW9 hbc hcd hd
        go_wp2_with fail
        rw [← HW9.out, ← Hbc.out]
        clear r0 r1 r2 t0
        obtain ⟨og, hog⟩ : ∃ y, y = gk := ⟨_, rfl⟩
        have Hog := Lib.hid hog
        have hog2 : muV L nx (d + 1) ≤ og := by rw [hog, Hk.out]; exact Nat.le_refl _
        clear hog
        go_loopg [10, 11] (muV L nx (d + 1)) (fun k st sv wq => ∃ (s : Int) (nx2 : Nat → Nat), st = .int .i64 s ∧ sv = .slice (some ⟨g, 0, none⟩) (d + 1) cap ∧ k = muV L nx2 (d + 1) ∧ k ≤ og ∧ SStat base zs N L w6 J noT (d + 1) g cap mv nx2 PM bl vs wq ∧ (lim = true → 0 ≤ s ∧ s ≤ (most : Int)) ∧ wq.heap[bc]? = some (.cells #[.int .i64 cI, .int .i64 cJ, .slice A3 sp.length c3] 31 (0, 0)))
        case atStart => exact ⟨s, nx, rfl, rfl, rfl, hog2, HS9.out, Hlim.out, HT9.out⟩
        case round =>
          obtain ⟨s2, nx2, rfl, rfl, hk2, hko, hS2, hlim2, hT2⟩ := hrel
          have c0 := hS2.lv.c1 d (Nat.lt_succ_self d)
          have c1 := blk_get hT2 2
          simp at c1
          have HS2 := Lib.hid hS2; have Hk2 := Lib.hid hk2; have Hko := Lib.hid hko; have Hlim2 := Lib.hid hlim2; have HT2 := Lib.hid hT2
          obtain ⟨x, hx⟩ : ∃ y, y = nx2 d := ⟨_, rfl⟩
          rw [← hx] at c0
          have Hx := Lib.hid hx
          clear hS2 hk2 hko hlim2 hT2 hx hog2
          rcases Nat.lt_or_ge x sp.length with hlt | hge
          rotate_left
          · have z0 : decide ((x : Int) < (sp.length : Int)) = false := decide_eq_false (by omega)
            have z00 : decide (x < sp.length) = false := decide_eq_false (by omega)
            have Hge := Lib.hid hge
            clear hge
            go_wp2_with fail
            go_quiet (fail)
            generalize hw8 : World.drewN wr _ = w8
            have hb8 : Below wr.heap.size wr w8 := by rw [← hw8]; exact below_dnL (Below.refl _ _) _
            have HS8 := Lib.hid (HS2.out.below HV.out Hb0.out (by have := Hzs6.out; omega) hb8)
            clear hw8 hb8
            go_wp2_with fail
            go_roundg (muV L nx2 d)
            case measure => have h1 := mu_pop L nx2 d; have h2 := Hk2.out; have h3 := Hko.out; have h4 := Hog.out; omega
            case rel => exact ⟨d, g, cap, s2, mv, nx2, PM, bl, vs, rfl, rfl, rfl, HS8.out.pop Hd.out (by rw [Hcd.out, ← Hx.out]; exact Hge.out), Hlim2.out⟩
          · have z0 : decide ((x : Int) < (sp.length : Int)) = true := decide_eq_true (by omega)
            have z00 : decide (x < sp.length) = true := decide_eq_true (by omega)
            have Hlt := Lib.hid hlt
            clear hlt
            go_wp2_with fail
            go_quiet (fail)
            generalize hw8 : World.drewN wr _ = w8
            have hb8 : Below wr.heap.size wr w8 := by rw [← hw8]; exact below_dnL (Below.refl _ _) _
            have HS8 := Lib.hid (HS2.out.below HV.out Hb0.out (by have := Hzs6.out; omega) hb8)
            have HT8 : Hid (w8.heap[bc]? = some (.cells #[.int .i64 cI, .int .i64 cJ, .slice A3 sp.length c3] 31 (0, 0))) := Lib.hid ((hb8.block _ (blk_lt HT2.out)).trans HT2.out)
            have c0 := HS8.out.lv.c1 d (Nat.lt_succ_self d)
            rw [← Hx.out] at c0
            have c1 := blk_get HT8.out 2
            simp at c1
            obtain ⟨gl2, e2, _, _, _, r3⟩ := FR.out _ d HS8.out.keep Hd.out
            clear hw8 hb8 e2
            have r3z : IsSpans w8 (S d) sp := by have := r3; rw [Hcd.out] at this; exact this
            rw [HSd.out] at r3z
            have hpos : 0 < sp.length := Nat.lt_of_le_of_lt (Nat.zero_le x) Hlt.out
            obtain ⟨b3, o3, rfl, hb3⟩ := r3z.addr hpos
            clear hpos
            have x0 := r3z.c0 x Hlt.out
            have x1 := r3z.c1 x Hlt.out
            have z1 : (x : Int) < (sp.length : Int) := by have := Hlt.out; omega
            have z2 : (0 : Int) ≤ (x : Int) := by omega
            have hbA : Below w8.heap.size w8 ((w8.alloc (.cells #[.int .i64 0, .int .i64 0] 48)).drew) := ((Below.refl _ _).alloc (Nat.le_refl _) _).drew
            have c0A := (hbA.cell (p := ⟨g, d * 2 + 1, none⟩) HS8.out.lv.lt).trans c0
            have c1A := (hbA.cell (p := ⟨bc, 2, none⟩) (blk_lt HT8.out)).trans c1
            have x0A := (hbA.cell (p := ⟨b3, o3 + x * 2, none⟩) hb3).trans x0
            have x1A := (hbA.cell (p := ⟨b3, o3 + x * 2 + 1, none⟩) hb3).trans x1
            have Hb3 := Lib.hid hb3
            clear r3 r3z hb3 z0 z00 hbA
            go_wp2_with fail
            go_region
            obtain ⟨W10, hW10⟩ : ∃ y, y = (w8.alloc (.cells #[.int .i64 (fr sp x), .int .i64 (tt sp x)] 48)).drew := ⟨_, rfl⟩
            obtain ⟨bs, hbs⟩ : ∃ y, y = w8.heap.size := ⟨_, rfl⟩
            have hb10 : Below w8.heap.size w8 W10 := by rw [hW10]; exact ((Below.refl _ _).alloc (Nat.le_refl _) _).drew
            have hTs : W10.heap[bs]? = some (.cells #[.int .i64 (fr sp x), .int .i64 (tt sp x)] 48 (0, 0)) := by rw [hW10, hbs]; exact heap_alloc_new w8 _
            have hT10 := (hb10.block _ (blk_lt HT8.out)).trans HT8.out
            have hS10 := HS8.out.below HV.out Hb0.out (by have := Hzs6.out; omega) hb10
            have c0 := hS10.lv.c1 d (Nat.lt_succ_self d)
            have c1 := hS10.lv.soft (d * 2 + 1)
            rw [← Hx.out] at c0
            have hgs : bs ≠ g := by have := HS8.out.lv.lt; omega
            have z3 : IntKind.i64.wrap ((x : Int) + 1) = (x : Int) + 1 := by have h1 := (hS10.nxl d (Nat.lt_succ_self d) Hd.out); rw [Hcd.out, ← Hx.out] at h1; have h2 : sp.length ≤ 8 := by { have h3 := (Hcb.out d Hd.out).2.2.2.2.2.1; rw [Hcd.out] at h3; exact h3 }; rw [IntKind.wrap_i64]; omega
            obtain ⟨W11, hW11⟩ : ∃ y, y = W10.setCell ⟨g, d * 2 + 1, none⟩ (.int .i64 ((x : Int) + 1)) := ⟨_, rfl⟩
            have hS11 : SStat base zs N L w6 J (tryT N L PM d x) (d + 1) g cap mv (nxS nx2 d) PM bl vs W11 := by
              have h1 := hS10.take HV.out Hb0.out (by have := Hzs6.out; omega) Hd.out (by rw [Hcd.out, ← Hx.out]; exact Hlt.out)
              rw [← Hx.out] at h1
              rw [hW11]
              have e : ((x + 1 : Nat) : Int) = (x : Int) + 1 := by omega
              rw [e] at h1
              exact h1
            have hT11 : W11.heap[bc]? = some (.cells #[.int .i64 cI, .int .i64 cJ, .slice (some ⟨b3, o3, none⟩) sp.length c3] 31 (0, 0)) := by rw [hW11, blk_oth Hgbc.out]; exact hT10
            have hTs11 : W11.heap[bs]? = some (.cells #[.int .i64 (fr sp x), .int .i64 (tt sp x)] 48 (0, 0)) := by rw [hW11, blk_oth hgs]; exact hTs
            obtain ⟨s3, hs3⟩ : ∃ y, y = IntKind.i64.wrap (s2 + 1) := ⟨_, rfl⟩
            have z4 : IntKind.i64.wrap (s2 + 1) = s3 := hs3.symm
            have Hs3 : Hid (lim = true → s3 = s2 + 1) := Lib.hid fun h => by rw [hs3, IntKind.wrap_i64]; have := Hlim2.out h; have := Hm.out; omega
            have HW10 := Lib.hid hW10; have Hbs := Lib.hid hbs; have HW11 := Lib.hid hW11; have HS11 := Lib.hid hS11; have HT11 := Lib.hid hT11; have HTs11 := Lib.hid hTs11
            clear c0A c1A x0A x1A x0 x1 z1 z2 hW10 hbs hb10 hTs hT10 hS10 hgs hW11 hS11 hT11 hTs11 hs3
            rw [← HW10.out, ← Hbs.out]
            cases lim with
            | true =>
              cases q : decide ((most : Int) < s3)
              · go_wp2_with fail
                rw [← HW11.out]
                have e0 := HS11.out.lv.c0 d (Nat.lt_succ_self d)
                have e1 := blk_get HT11.out 0
                have e2 := blk_get HT11.out 1
                have e3 := blk_get HT11.out 2
                have e4 := blk_get HTs11.out 0
                have e5 := blk_get HTs11.out 1
                simp at e1 e2 e3 e4 e5
                obtain ⟨mm, hmm⟩ : ∃ y, y = mv d := ⟨_, rfl⟩
                have hmt := HS11.out.mats d (Nat.lt_succ_self d)
                have hms : ∃ A n c, mm = .slice A n c := by
                  obtain ⟨b, c, G, C, h1, _⟩ := hmt
                  exact ⟨_, _, _, hmm.trans h1⟩
                rw [← hmm] at e0 hmt
                obtain ⟨A4, n4, c4, rfl⟩ := hms
                have hch : ChoN (N : Int) (cI, cJ, sp) := by have := Hcb.out d Hd.out; rw [Hcd.out] at this; exact this
                have hsp : spB (fr sp x, tt sp x) = true := by
                  have h1 : sp.all spB = true := hch.2.2.2.2.2.2
                  have h2 : sp[x]'Hlt.out = (fr sp x, tt sp x) := by unfold fr tt; rw [List.getD_eq_getElem?_getD, List.getElem?_eq_getElem Hlt.out]; rfl
                  rw [← h2]
                  exact List.all_eq_true.1 h1 _ (List.getElem_mem _)
                obtain ⟨p1, p2, _⟩ := HS11.out.path d (Nat.lt_succ_self d)
                have hspj : spanJ (cho L d) x = (fr sp x, tt sp x) := by rw [Hcd.out]; rfl
                have Hmu := Lib.hid (mu_take (nx := nx2) Hd.out (by rw [Hcd.out, ← Hx.out]; exact Hlt.out))
                have HFC : Hid (∀ X, Below W11.heap.size W11 X → X.cell? ⟨g, d * 2, none⟩ = some (.slice A4 n4 c4) ∧ X.cell? ⟨bc, 0, none⟩ = some (.int .i64 cI) ∧ X.cell? ⟨bc, 1, none⟩ = some (.int .i64 cJ) ∧ X.cell? ⟨bc, 2, none⟩ = some (.slice (some ⟨b3, o3, none⟩) sp.length c3) ∧ X.cell? ⟨bs, 0, none⟩ = some (.int .i64 (fr sp x)) ∧ X.cell? ⟨bs, 1, none⟩ = some (.int .i64 (tt sp x))) := Lib.hid fun X h =>
                  have hg := HS11.out.lv.lt
                  have hc := blk_lt HT11.out
                  have hs := blk_lt HTs11.out
                  ⟨(h.cell (p := ⟨g, d * 2, none⟩) hg).trans e0, (h.cell (p := ⟨bc, 0, none⟩) hc).trans e1, (h.cell (p := ⟨bc, 1, none⟩) hc).trans e2, (h.cell (p := ⟨bc, 2, none⟩) hc).trans e3, (h.cell (p := ⟨bs, 0, none⟩) hs).trans e4, (h.cell (p := ⟨bs, 1, none⟩) hs).trans e5⟩
                have KN := Lib.hid fun X (h : Below W11.heap.size W11 X) => djnarrower_c (.slice A4 n4 c4) N (PM d) (bl d) cI cJ (.slice (some ⟨b3, o3, none⟩) sp.length c3) sp (fr sp x) (tt sp x) X (hmt.mat.below h) HN1.out HN.out p1 p2 hch hsp
                have kb : Below W11.heap.size W11 W11.drew := (Below.refl _ _).drew
                have hspt : tightX N (bl d ++ bnd2 (cI, cJ, sp) (fr sp x, tt sp x)) = tightX N (bl d ++ bnd2 (cho L d) (spanJ (cho L d) x)) := by rw [hspj, Hcd.out]
                obtain ⟨TT, hTT⟩ : ∃ y, y = tightX N (bl d ++ bnd2 (cI, cJ, sp) (fr sp x, tt sp x)) := ⟨_, rfl⟩
                rw [← hTT] at KN
                rw [hspt] at hTT
                have HTT := Lib.hid hTT
                have Hsp : Hid (spB (spanJ (cho L d) x) = true) := Lib.hid (by rw [hspj]; exact hsp)
                clear hmm hmt hch hsp p1 p2 hspj c0 c1 e0 e1 e2 e3 e4 e5 hspt hTT z3 z4
                cases TT with
                | none =>
                  go_region_held3 (fun X => X.cell? ⟨g, d * 2, none⟩ = some (.slice A4 n4 c4) ∧ X.cell? ⟨bc, 0, none⟩ = some (.int .i64 cI) ∧ X.cell? ⟨bc, 1, none⟩ = some (.int .i64 cJ) ∧ X.cell? ⟨bc, 2, none⟩ = some (.slice (some ⟨b3, o3, none⟩) sp.length c3) ∧ X.cell? ⟨bs, 0, none⟩ = some (.int .i64 (fr sp x)) ∧ X.cell? ⟨bs, 1, none⟩ = some (.int .i64 (tt sp x))) ((first | exact HFC.out _ kb)) (first
                    | (go_at_call 55; (with_reducible refine (KN.out _ kb).mono ?_); rintro e Wa ⟨rfl, hba⟩; have kb := kb.trans (hba.mono kb.size); clear hba)
                    | fail)
                  have HSa := Lib.hid ((HS11.out.below HV.out Hb0.out (by have := Hzs6.out; omega) kb).fail HN1.out HN.out Hcb.out Hd.out Hsp.out HTT.out.symm)
                  have HTa := Lib.hid ((kb.block _ (blk_lt HT11.out)).trans HT11.out)
                  clear kb
                  go_wp2_with fail
                  go_roundg (muV L (nxS nx2 d) (d + 1))
                  case measure => have h1 := Hk2.out; have h2 := Hmu.out; omega
                  case rel => exact ⟨s3, nxS nx2 d, rfl, rfl, rfl, by have h1 := Hk2.out; have h2 := Hmu.out; have h3 := Hko.out; omega, HSa.out, fun h => by have h1 := Hs3.out (by trivial); have h2 := Hlim2.out (by trivial); have h3 := of_decide_eq_false q; omega, HTa.out⟩
                | some P2 =>
                  go_region_held3 (fun X => X.cell? ⟨g, d * 2, none⟩ = some (.slice A4 n4 c4) ∧ X.cell? ⟨bc, 0, none⟩ = some (.int .i64 cI) ∧ X.cell? ⟨bc, 1, none⟩ = some (.int .i64 cJ) ∧ X.cell? ⟨bc, 2, none⟩ = some (.slice (some ⟨b3, o3, none⟩) sp.length c3) ∧ X.cell? ⟨bs, 0, none⟩ = some (.int .i64 (fr sp x)) ∧ X.cell? ⟨bs, 1, none⟩ = some (.int .i64 (tt sp x))) ((first | exact HFC.out _ kb)) (first
                    | (go_at_call 55; (with_reducible refine (KN.out _ kb).mono ?_); rintro e Wa ⟨v2, rfl, hm2, hba⟩; have Hlo := Lib.hid kb.size; have kb := kb.trans (hba.mono kb.size); clear hba)
                    | fail)
                  obtain ⟨A5, n5, c5, rfl⟩ : ∃ A n c, v2 = .slice A n c := by
                    obtain ⟨b, c, G, C, h1, _⟩ := hm2
                    exact ⟨_, _, _, h1⟩
                  have hzW : zs ≤ W11.heap.size := by have h1 := HS11.out.keep.bel.size; have h2 := Hzs6.out; omega
                  have hmP : MatP (fun b => zs ≤ b ∧ b ≠ g) Wa (.slice A5 n5 c5) N P2 := hm2.mono fun b _ h => by have h1 := HS11.out.lv.lt; have h2 := Hlo.out; constructor <;> omega
                  have HSa := Lib.hid (HS11.out.below HV.out Hb0.out (by have := Hzs6.out; omega) kb)
                  have HzWa := Lib.hid (Nat.le_trans hzW kb.size)
                  have Hzg : Hid (zs ≤ g) := Lib.hid (by have h1 := HS11.out.hg; have h2 := Hzs6.out; omega)
                  have HmP := Lib.hid hmP
                  clear kb hm2 hzW hmP
                  go_wp2_with (at_builtin; refine append_lv rfl _ _ rfl zs g (d + 1) cap mv (nxS nx2 d) _ (by rfl) (by rfl) HSa.out.lv Hzg.out (by rfl) (by have h1 := HSa.out.d1; have h2 := Hst.out.1; have h3 := Hll.out; omega) HzWa.out (Nat.le_add_left 1 d) ?_; intro g' cap' w14 hl hb hbo hsz hg'; have HPU := Lib.hid (HSa.out.push HV.out Hb0.out HN1.out HN.out Hcb.out Hd.out (by rw [Hcd.out]; exact Hlt.out) Hsp.out HTT.out.symm HmP.out hl hb hbo hsz hg'); clear hl hb hbo hsz hg')
                  go_roundg (muV L (fun k => if k = d + 1 then 0 else nxS nx2 d k) (d + 2))
                  case measure => have h0 := mu_push (nx := nxS nx2 d) Hd.out; have h1 := Hk2.out; have h2 := Hmu.out; have h3 := Hko.out; have h4 := Hog.out; omega
                  case rel => exact ⟨d + 2, g', cap', s3, _, _, _, _, vs, rfl, rfl, rfl, HPU.out, fun h => by have h1 := Hs3.out (by trivial); have h2 := Hlim2.out (by trivial); have h3 := of_decide_eq_false q; omega⟩
              · go_wp2_with fail
                rw [← HW11.out]
                first | rw [Exit.noGoto_ret] | skip
                go_ret
                have hq := of_decide_eq_true q
                exact ⟨true, vs, rfl, (Hzw.out.mono Hb0.out).trans HS11.out.keep.bel, fun P hP => mat_sol Hp.out (HS11.out.vis P hP), .inl ⟨rfl, HLm.out.symm, HS11.out.j⟩⟩
            | false =>
              go_wp2_with fail
              rw [← HW11.out]
              have e0 := HS11.out.lv.c0 d (Nat.lt_succ_self d)
              have e1 := blk_get HT11.out 0
              have e2 := blk_get HT11.out 1
              have e3 := blk_get HT11.out 2
              have e4 := blk_get HTs11.out 0
              have e5 := blk_get HTs11.out 1
              simp at e1 e2 e3 e4 e5
              obtain ⟨mm, hmm⟩ : ∃ y, y = mv d := ⟨_, rfl⟩
              have hmt := HS11.out.mats d (Nat.lt_succ_self d)
              have hms : ∃ A n c, mm = .slice A n c := by
                obtain ⟨b, c, G, C, h1, _⟩ := hmt
                exact ⟨_, _, _, hmm.trans h1⟩
              rw [← hmm] at e0 hmt
              obtain ⟨A4, n4, c4, rfl⟩ := hms
              have hch : ChoN (N : Int) (cI, cJ, sp) := by have := Hcb.out d Hd.out; rw [Hcd.out] at this; exact this
              have hsp : spB (fr sp x, tt sp x) = true := by
                have h1 : sp.all spB = true := hch.2.2.2.2.2.2
                have h2 : sp[x]'Hlt.out = (fr sp x, tt sp x) := by unfold fr tt; rw [List.getD_eq_getElem?_getD, List.getElem?_eq_getElem Hlt.out]; rfl
                rw [← h2]
                exact List.all_eq_true.1 h1 _ (List.getElem_mem _)
              obtain ⟨p1, p2, _⟩ := HS11.out.path d (Nat.lt_succ_self d)
              have hspj : spanJ (cho L d) x = (fr sp x, tt sp x) := by rw [Hcd.out]; rfl
              have Hmu := Lib.hid (mu_take (nx := nx2) Hd.out (by rw [Hcd.out, ← Hx.out]; exact Hlt.out))
              have HFC : Hid (∀ X, Below W11.heap.size W11 X → X.cell? ⟨g, d * 2, none⟩ = some (.slice A4 n4 c4) ∧ X.cell? ⟨bc, 0, none⟩ = some (.int .i64 cI) ∧ X.cell? ⟨bc, 1, none⟩ = some (.int .i64 cJ) ∧ X.cell? ⟨bc, 2, none⟩ = some (.slice (some ⟨b3, o3, none⟩) sp.length c3) ∧ X.cell? ⟨bs, 0, none⟩ = some (.int .i64 (fr sp x)) ∧ X.cell? ⟨bs, 1, none⟩ = some (.int .i64 (tt sp x))) := Lib.hid fun X h =>
                have hg := HS11.out.lv.lt
                have hc := blk_lt HT11.out
                have hs := blk_lt HTs11.out
                ⟨(h.cell (p := ⟨g, d * 2, none⟩) hg).trans e0, (h.cell (p := ⟨bc, 0, none⟩) hc).trans e1, (h.cell (p := ⟨bc, 1, none⟩) hc).trans e2, (h.cell (p := ⟨bc, 2, none⟩) hc).trans e3, (h.cell (p := ⟨bs, 0, none⟩) hs).trans e4, (h.cell (p := ⟨bs, 1, none⟩) hs).trans e5⟩
              have KN := Lib.hid fun X (h : Below W11.heap.size W11 X) => djnarrower_c (.slice A4 n4 c4) N (PM d) (bl d) cI cJ (.slice (some ⟨b3, o3, none⟩) sp.length c3) sp (fr sp x) (tt sp x) X (hmt.mat.below h) HN1.out HN.out p1 p2 hch hsp
              have kb : Below W11.heap.size W11 W11.drew := (Below.refl _ _).drew
              have hspt : tightX N (bl d ++ bnd2 (cI, cJ, sp) (fr sp x, tt sp x)) = tightX N (bl d ++ bnd2 (cho L d) (spanJ (cho L d) x)) := by rw [hspj, Hcd.out]
              obtain ⟨TT, hTT⟩ : ∃ y, y = tightX N (bl d ++ bnd2 (cI, cJ, sp) (fr sp x, tt sp x)) := ⟨_, rfl⟩
              rw [← hTT] at KN
              rw [hspt] at hTT
              have HTT := Lib.hid hTT
              have Hsp : Hid (spB (spanJ (cho L d) x) = true) := Lib.hid (by rw [hspj]; exact hsp)
              clear hmm hmt hch hsp p1 p2 hspj c0 c1 e0 e1 e2 e3 e4 e5 hspt hTT z3 z4
              cases TT with
              | none =>
                go_region_held3 (fun X => X.cell? ⟨g, d * 2, none⟩ = some (.slice A4 n4 c4) ∧ X.cell? ⟨bc, 0, none⟩ = some (.int .i64 cI) ∧ X.cell? ⟨bc, 1, none⟩ = some (.int .i64 cJ) ∧ X.cell? ⟨bc, 2, none⟩ = some (.slice (some ⟨b3, o3, none⟩) sp.length c3) ∧ X.cell? ⟨bs, 0, none⟩ = some (.int .i64 (fr sp x)) ∧ X.cell? ⟨bs, 1, none⟩ = some (.int .i64 (tt sp x))) ((first | exact HFC.out _ kb)) (first
                  | (go_at_call 55; (with_reducible refine (KN.out _ kb).mono ?_); rintro e Wa ⟨rfl, hba⟩; have kb := kb.trans (hba.mono kb.size); clear hba)
                  | fail)
                have HSa := Lib.hid ((HS11.out.below HV.out Hb0.out (by have := Hzs6.out; omega) kb).fail HN1.out HN.out Hcb.out Hd.out Hsp.out HTT.out.symm)
                have HTa := Lib.hid ((kb.block _ (blk_lt HT11.out)).trans HT11.out)
                clear kb
                go_wp2_with fail
                go_roundg (muV L (nxS nx2 d) (d + 1))
                case measure => have h1 := Hk2.out; have h2 := Hmu.out; omega
                case rel => exact ⟨s3, nxS nx2 d, rfl, rfl, rfl, by have h1 := Hk2.out; have h2 := Hmu.out; have h3 := Hko.out; omega, HSa.out, fun h => absurd h (by simp), HTa.out⟩
              | some P2 =>
                go_region_held3 (fun X => X.cell? ⟨g, d * 2, none⟩ = some (.slice A4 n4 c4) ∧ X.cell? ⟨bc, 0, none⟩ = some (.int .i64 cI) ∧ X.cell? ⟨bc, 1, none⟩ = some (.int .i64 cJ) ∧ X.cell? ⟨bc, 2, none⟩ = some (.slice (some ⟨b3, o3, none⟩) sp.length c3) ∧ X.cell? ⟨bs, 0, none⟩ = some (.int .i64 (fr sp x)) ∧ X.cell? ⟨bs, 1, none⟩ = some (.int .i64 (tt sp x))) ((first | exact HFC.out _ kb)) (first
                  | (go_at_call 55; (with_reducible refine (KN.out _ kb).mono ?_); rintro e Wa ⟨v2, rfl, hm2, hba⟩; have Hlo := Lib.hid kb.size; have kb := kb.trans (hba.mono kb.size); clear hba)
                  | fail)
                obtain ⟨A5, n5, c5, rfl⟩ : ∃ A n c, v2 = .slice A n c := by
                  obtain ⟨b, c, G, C, h1, _⟩ := hm2
                  exact ⟨_, _, _, h1⟩
                have hzW : zs ≤ W11.heap.size := by have h1 := HS11.out.keep.bel.size; have h2 := Hzs6.out; omega
                have hmP : MatP (fun b => zs ≤ b ∧ b ≠ g) Wa (.slice A5 n5 c5) N P2 := hm2.mono fun b _ h => by have h1 := HS11.out.lv.lt; have h2 := Hlo.out; constructor <;> omega
                have HSa := Lib.hid (HS11.out.below HV.out Hb0.out (by have := Hzs6.out; omega) kb)
                have HzWa := Lib.hid (Nat.le_trans hzW kb.size)
                have Hzg : Hid (zs ≤ g) := Lib.hid (by have h1 := HS11.out.hg; have h2 := Hzs6.out; omega)
                have HmP := Lib.hid hmP
                clear kb hm2 hzW hmP
                go_wp2_with (at_builtin; refine append_lv rfl _ _ rfl zs g (d + 1) cap mv (nxS nx2 d) _ (by rfl) (by rfl) HSa.out.lv Hzg.out (by rfl) (by have h1 := HSa.out.d1; have h2 := Hst.out.1; have h3 := Hll.out; omega) HzWa.out (Nat.le_add_left 1 d) ?_; intro g' cap' w14 hl hb hbo hsz hg'; have HPU := Lib.hid (HSa.out.push HV.out Hb0.out HN1.out HN.out Hcb.out Hd.out (by rw [Hcd.out]; exact Hlt.out) Hsp.out HTT.out.symm HmP.out hl hb hbo hsz hg'); clear hl hb hbo hsz hg')
                go_roundg (muV L (fun k => if k = d + 1 then 0 else nxS nx2 d k) (d + 2))
                case measure => have h0 := mu_push (nx := nxS nx2 d) Hd.out; have h1 := Hk2.out; have h2 := Hmu.out; have h3 := Hko.out; have h4 := Hog.out; omega
                case rel => exact ⟨d + 2, g', cap', s3, _, _, _, _, vs, rfl, rfl, rfl, HPU.out, fun h => absurd h (by simp)⟩
end Go.Proofs.YtcppcfinnbeboaaGreat
