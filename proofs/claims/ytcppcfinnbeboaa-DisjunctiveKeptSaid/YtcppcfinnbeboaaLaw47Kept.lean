/- DisjunctiveKept: what holds is not lost by narrowing, narrowed choices are parts of what they were, and narrowing again changes nothing. No condition. -/
import Derived.Test.YtcppcfinnbeboaaDkK
import Derived.Test.YtcppcfinnbeboaaDjK
import Derived.Test.YtcppcfinnbeboaaDjO
namespace Go.Proofs.Ytcppcfinnbeboaa
open Go.RowKit Go.Shelf Go.ChangeShapes Go.WideShapes Go.ChangeAt

theorem chos_formK {w : World} {v : Value} {L : List Cho} (h : IsChos w v L) : ∃ A c, v = .slice A L.length c := by
  obtain ⟨S, h⟩ := h
  obtain ⟨A, c, h, _⟩ := h.form
  exact ⟨A, c, h⟩
set_option maxRecDepth 100000 in
set_option maxHeartbeats 8000000 in
theorem law47Kept_c (v u : Value) (l : List Cho) (ts : List Int) (w : World) (hs : IsChos w v l) (ha : IsInts w u ts) : Calls Try.prog 5 #[v, u] w (Ret w (.bool true)) := by
  obtain ⟨At, ct, rfl, _, hct⟩ := ha.form
  have KF : Hid (∀ X, Below w.heap.size w X → Calls Try.prog 9 #[v] X (Ret X (.bool (fewB l)))) := Lib.hid fun X h => few47_c v l X (hs.below h)
  have KV : Hid (∀ X, Below w.heap.size w X → Calls Try.prog 15 #[.int .i64 (ts.length : Int), v] X (Ret X (.bool (netB (ts.length : Int) l)))) := Lib.hid fun X h => r47Valid_c _ v l X (hs.below h)
  cases hf : fewB l
  · rw [hf] at KF
    clear hs ha
    go_enter Try.func5, Try.ntmps5
    go_wp2_with fail
    refine (awake47_c _).mono ?_
    rintro e w1 ⟨rfl, hb1⟩
    go_wp2_with fail
    refine (KF.out _ hb1).mono ?_
    rintro e w2 ⟨rfl, hb2⟩
    have HF := Lib.hid (hb1.trans (hb2.mono hb1.size))
    clear hb2
    go_wp2_with fail
    go_ret
    exact ⟨rfl, HF.out⟩
  rw [hf] at KF
  cases hl : decide ((24 : Int) < (ts.length : Int))
  rotate_left
  · clear hs ha
    go_enter Try.func5, Try.ntmps5
    go_wp2_with fail
    refine (awake47_c _).mono ?_
    rintro e w1 ⟨rfl, hb1⟩
    go_wp2_with fail
    refine (KF.out _ hb1).mono ?_
    rintro e w2 ⟨rfl, hb2⟩
    have HF := Lib.hid (hb1.trans (hb2.mono hb1.size))
    clear hb2
    go_wp2_with fail
    go_ret
    exact ⟨rfl, HF.out⟩
  cases hv : netB (ts.length : Int) l
  · rw [hv] at KV
    clear hs ha
    go_enter Try.func5, Try.ntmps5
    go_wp2_with fail
    refine (awake47_c _).mono ?_
    rintro e w1 ⟨rfl, hb1⟩
    go_wp2_with fail
    refine (KF.out _ hb1).mono ?_
    rintro e w2 ⟨rfl, hb2⟩
    have hb2 := hb1.trans (hb2.mono hb1.size)
    go_wp2_with fail
    refine (KV.out _ hb2).mono ?_
    rintro e w3 ⟨rfl, hb3⟩
    have HF := Lib.hid (hb2.trans (hb3.mono hb2.size))
    clear hb3
    go_wp2_with fail
    go_ret
    exact ⟨rfl, HF.out⟩
  rw [hv] at KV
  have hn : 1 ≤ ts.length ∧ ts.length ≤ 24 ∧ StOk ts.length l := by
    unfold netB at hv
    simp only [Bool.and_eq_true, decide_eq_true_eq] at hv
    exact ⟨by omega, by omega, hv.1.2, fun i hi => choB_N (List.all_eq_true.1 hv.2 _ (cho_mem hi))⟩
  obtain ⟨n1, n24, hst⟩ := hn
  obtain ⟨k, r, hnr⟩ := nar_run n1 n24 hst
  obtain ⟨m, hm⟩ : ∃ m, ts.length = m + 1 := ⟨ts.length - 1, by omega⟩
  have KN : Hid (∀ X, Below w.heap.size w X → Calls Try.prog 10 #[.int .i64 (ts.length : Int), v] X (NarRet r X)) := Lib.hid fun X h => by
    rw [hm] at hnr hv ⊢
    exact djNarrow_c m v l X (hs.below h) (by omega) hv hnr
  have KH : Hid (∀ X, Below w.heap.size w X → Calls Try.prog 13 #[v, .slice At ts.length ct] X (Ret X (.bool (holdsB l ts)))) := Lib.hid fun X h => djHolds_c v _ l ts X (hs.below h) (ha.below h)
  cases r with
  | none =>
    have hh : holdsB l ts = false := by
      rw [holds_net hv, Bool.and_eq_false_iff]
      right
      rw [Bool.eq_false_iff]
      intro h
      obtain ⟨out, h2, _⟩ := nar_keep n1 n24 hnr (all_sat.1 h)
      cases h2
    rw [hh] at KH
    clear hs ha hv hst hnr hm hh n1 n24
    go_enter Try.func5, Try.ntmps5
    go_wp2_with fail
    refine (awake47_c _).mono ?_
    rintro e w1 ⟨rfl, hb1⟩
    go_wp2_with fail
    refine (KF.out _ hb1).mono ?_
    rintro e w2 ⟨rfl, hb2⟩
    have hb2 := hb1.trans (hb2.mono hb1.size)
    go_wp2_with fail
    refine (KV.out _ hb2).mono ?_
    rintro e w3 ⟨rfl, hb3⟩
    have hb3 := hb2.trans (hb3.mono hb2.size)
    go_wp2_with fail
    refine (KN.out _ hb3).mono ?_
    rintro e w4 ⟨rfl, hb4⟩
    have hb4 := hb3.trans (hb4.mono hb3.size)
    go_wp2_with fail
    refine (KH.out _ hb4).mono ?_
    rintro e w5 ⟨rfl, hb5⟩
    have HF := Lib.hid (hb4.trans (hb5.mono hb4.size))
    clear hb5
    go_wp2_with fail
    go_ret
    exact ⟨rfl, HF.out⟩
  | some out =>
  have hp := nar_part n1 n24 hnr out rfl
  have hho : holdsB out ts = holdsB l ts := by
    rw [holds_net hv, holds_net (stOk_net hp.ok n1 n24)]
    congr 1
    rw [Bool.eq_iff_iff, all_sat, all_sat]
    constructor
    · exact part_sat hp
    · intro h
      obtain ⟨o2, h2, h3⟩ := nar_keep n1 n24 hnr h
      cases h2
      exact h3
  have hn2 : Nar ts.length 0 out (some out) := .fix hp.ok hp.fix
  have KH2 : Hid (∀ X u, Below w.heap.size w X → IsChos X u out → Calls Try.prog 13 #[u, .slice At ts.length ct] X (Ret X (.bool (holdsB l ts)))) := Lib.hid fun X u h h2 => by rw [← hho]; exact djHolds_c u _ out ts X h2 (ha.below h)
  have KN2 : Hid (∀ X u, IsChos X u out → Calls Try.prog 10 #[.int .i64 (ts.length : Int), u] X (NarRet (some out) X)) := Lib.hid fun X u h2 => by
    have h3 := stOk_net hp.ok n1 n24
    rw [hm] at hn2 h3 ⊢
    exact djNarrow_c m u out X h2 (by omega) h3 hn2
  have KS : Hid (∀ X a b, IsChos X a out → IsChos X b out → Calls Try.prog 12 #[a, b] X (Ret X (.bool true))) := Lib.hid fun X a b h1 h2 => by
    have h := r47Same_c a b out out X h1 h2 (by have := hp.ok.1; omega) (fun i hi => by have := (hp.ok.2 i hi).2.2.2.2.2.1; omega)
    have e : sameC out out = true := by unfold sameC; simp
    rwa [e] at h
  obtain ⟨Sl, hsl⟩ := hs
  obtain ⟨Al, cl, rfl, _, _⟩ := hsl.form
  have Hsl := Lib.hid hsl
  have Hp := Lib.hid hp; have Hl := Lib.hid hst
  obtain ⟨hb, hhb⟩ : ∃ y, y = holdsB l ts := ⟨_, rfl⟩
  rw [← hhb] at KH KH2
  have hlen := hp.len
  have b1 : ((out.length : Int) != (l.length : Int)) = false := by rw [hlen]; simp
  have b2 : (hb != hb) = false := by simp
  clear ha hv hst hnr hm n1 n24 hho hn2 hhb hsl hp hlen
  go_enter Try.func5, Try.ntmps5
  go_wp2_with fail
  refine (awake47_c _).mono ?_
  rintro e w1 ⟨rfl, hb1⟩
  go_wp2_with fail
  refine (KF.out _ hb1).mono ?_
  rintro e w2 ⟨rfl, hb2⟩
  have hb2 := hb1.trans (hb2.mono hb1.size)
  go_wp2_with fail
  refine (KV.out _ hb2).mono ?_
  rintro e w3 ⟨rfl, hb3⟩
  have hb3 := hb2.trans (hb3.mono hb2.size)
  go_wp2_with fail
  refine (KN.out _ hb3).mono ?_
  rintro e w4 ⟨vo, So, rfl, ho, hb4⟩
  have hco := ho.chos
  obtain ⟨So2, hco2⟩ := hco
  obtain ⟨Ao, co, rfl, _, _⟩ := hco2.form
  have Hco := Lib.hid hco2
  have hb4 := hb3.trans (hb4.mono hb3.size)
  have Hb4 := Lib.hid hb4
  clear hb1 hb2 hb3 hco2 ho
  go_wp2_with fail
  refine (KH.out _ hb4).mono ?_
  rintro e w5 ⟨rfl, hb5⟩
  have Hc5 := Lib.hid (Hco.out.below hb5)
  have hb5 := hb4.trans (hb5.mono hb4.size)
  clear hb4 Hb4 Hco
  go_wp2_with fail
  refine (KH2.out _ _ hb5 ⟨_, Hc5.out⟩).mono ?_
  rintro e w6 ⟨rfl, hb6⟩
  have Hc6 := Lib.hid (Hc5.out.below hb6)
  have hb6 := hb5.trans (hb6.mono hb5.size)
  clear hb5 Hc5
  go_wp2_with fail
  refine (KN2.out _ _ ⟨_, Hc6.out⟩).mono ?_
  rintro e w7 ⟨va, Sa, rfl, ha, hb7⟩
  have Hc7 := Lib.hid (Hc6.out.below hb7)
  obtain ⟨Aa, ca, rfl⟩ := chos_formK ha.chos
  have Ha7 := Lib.hid ha.chos
  have Hb7 := Lib.hid (hb6.trans (hb7.mono hb6.size))
  clear hb6 hb7 Hc6 ha
  go_wp2_with fail
  go_loopw [72] (fun i wr => ∃ j : Nat, i = .int .i64 (j : Int) ∧ j ≤ out.length ∧ Below w7.heap.size w7 wr) (fun i _ => out.length - (intOf i).toNat)
  case atStart => exact ⟨0, rfl, Nat.zero_le _, Below.refl _ _⟩
  case round =>
    obtain ⟨j, rfl, hj, hb⟩ := hrel
    rcases Nat.lt_or_ge j out.length with hjl | hjl
    rotate_left
    · obtain rfl : j = out.length := by omega
      have j0 : decide ((out.length : Int) < (out.length : Int)) = false := decide_eq_false (by omega)
      have K9 := Lib.hid (KS.out wr _ _ ⟨_, Hc7.out.below hb⟩ (Ha7.out.below hb))
      have HbF := Lib.hid (Hb7.out.trans (hb.mono Hb7.out.size))
      clear hb hj hjl
      go_wp2_with fail
      refine K9.out.mono ?_
      rintro e w9 ⟨rfl, hb9⟩
      have HF := Lib.hid (HbF.out.trans (hb9.mono HbF.out.size))
      clear hb9
      go_wp2_with fail
      go_ret
      exact ⟨rfl, HF.out⟩
    have j0 : decide ((j : Int) < (out.length : Int)) = true := decide_eq_true (by omega)
    have j1 : IntKind.i64.wrap ((j : Int) + 1) = (j : Int) + 1 := by rw [IntKind.wrap_i64]; have := Hp.out.ok.1; omega
    have j2 : (0 : Int) ≤ (j : Int) := by omega
    have j3 : (j : Int) < (out.length : Int) := by omega
    have j4 : (j : Int) < (l.length : Int) := by have := Hp.out.len; omega
    have hjl2 : j < l.length := by have := Hp.out.len; omega
    obtain ⟨g, off, rfl, _⟩ := (Hc7.out.below hb).addr (by omega)
    obtain ⟨gl, ofl, rfl, _⟩ := Hsl.out.addr (by omega)
    have hev := Hp.out.ev j hjl2
    have hne := Hp.out.ne j hjl2
    have hsub := Hp.out.sub j hjl2
    have hcv := Hp.out.ok.2 j hjl
    have hFo : ∀ X, Below w7.heap.size w7 X → X.cell? ⟨g, off + j * 3, none⟩ = some (.int .i64 (cho out j).1) ∧ X.cell? ⟨g, off + j * 3 + 1, none⟩ = some (.int .i64 (cho out j).2.1) ∧ X.cell? ⟨g, off + j * 3 + 2, none⟩ = some (So2 j) ∧ IsSpans X (So2 j) (cho out j).2.2 := fun X h => ⟨(Hc7.out.below h).c0 j hjl, (Hc7.out.below h).c1 j hjl, (Hc7.out.below h).c2 j hjl, (Hc7.out.below h).2 j hjl⟩
    have hFl : ∀ X, Below w7.heap.size w7 X → X.cell? ⟨gl, ofl + j * 3, none⟩ = some (.int .i64 (cho l j).1) ∧ X.cell? ⟨gl, ofl + j * 3 + 1, none⟩ = some (.int .i64 (cho l j).2.1) ∧ X.cell? ⟨gl, ofl + j * 3 + 2, none⟩ = some (Sl j) ∧ IsSpans X (Sl j) (cho l j).2.2 := fun X h => by
      have h2 := Hsl.out.below (Hb7.out.trans (h.mono Hb7.out.size))
      exact ⟨h2.c0 j hjl2, h2.c1 j hjl2, h2.c2 j hjl2, h2.2 j hjl2⟩
    rw [← hev.1, ← hev.2] at hFl
    generalize cho out j = y at *
    generalize cho l j = z at *
    generalize So2 j = sy at *
    generalize Sl j = sz at *
    obtain ⟨I0, J0, sp⟩ := y
    obtain ⟨_, _, sl⟩ := z
    unfold ChoN at hcv
    simp only at hFo hFl hcv hne hsub
    obtain ⟨v0, v1, v2, v3, v4, v5, v6⟩ := hcv
    obtain ⟨A1, cp, rfl, _, _⟩ := (hFo _ (Below.refl _ _)).2.2.2.form
    obtain ⟨A2, cq, rfl, _, _⟩ := (hFl _ (Below.refl _ _)).2.2.2.form
    obtain ⟨W, hW⟩ : ∃ y, y = wr.alloc (.cells #[.int .i64 I0, .int .i64 J0, .slice A1 sp.length cp] 36) := ⟨_, rfl⟩
    obtain ⟨b6, hb6⟩ : ∃ y, y = wr.heap.size := ⟨_, rfl⟩
    have hbW : Below w7.heap.size w7 W := by rw [hW]; exact hb.alloc hb.size _
    have hT : W.heap[b6]? = some (.cells #[.int .i64 I0, .int .i64 J0, .slice A1 sp.length cp] 36 (0, 0)) := by rw [hW, hb6]; exact heap_alloc_new wr _
    obtain ⟨d0, d1, d2, _⟩ := hFo _ hb
    obtain ⟨e0, e1, e2, _⟩ := hFl _ hbW
    have t0 := blk_get hT 0
    have t1 := blk_get hT 1
    have t2 := blk_get hT 2
    simp at t0 t1 t2
    have c0 : (I0 != I0) = false := by simp
    have c1 : (J0 != J0) = false := by simp
    have c2 : ((sp.length : Int) == 0) = false := by rw [beq_eq_false_iff_ne]; omega
    have hlt6 := blk_lt hT
    have FT : Hid (∀ X, Below W.heap.size W X → X.cell? ⟨b6, 2, none⟩ = some (.slice A1 sp.length cp)) := Lib.hid fun X h => blk_get ((h.block _ hlt6).trans hT) 2
    have HW := Lib.hid hW; have Hb6 := Lib.hid hb6; have HbW := Lib.hid hbW; have HFo := Lib.hid hFo; have HFl := Lib.hid hFl; have Hsub := Lib.hid hsub; have V6 := Lib.hid v6; have H8 := Lib.hid v5; have Hjl := Lib.hid hjl
    clear hW hb6 hbW hFo hFl hsub v0 v1 v2 v3 v4 v5 v6 hjl hj hb hT hev hne hjl2 hlt6
    go_wp2_with fail
    rw [← HW.out, ← Hb6.out]
    clear d0 d1 d2
    go_quiet (fail)
    go_wp2_with fail
    clear e0 e1 e2 t0 t1 t2 c0 c1 c2
    go_loopw [104] (fun i wq => ∃ m : Nat, i = .int .i64 (m : Int) ∧ m ≤ sp.length ∧ Below W.heap.size W wq) (fun i _ => sp.length - (intOf i).toNat)
    case atStart => exact ⟨0, rfl, Nat.zero_le _, below_dnL (Below.refl _ _) _⟩
    case round =>
      obtain ⟨m, rfl, hm, hbm⟩ := hrel
      rcases Nat.lt_or_ge m sp.length with hml | hml
      rotate_left
      · obtain rfl : m = sp.length := by omega
        have m0 : decide ((sp.length : Int) < (sp.length : Int)) = false := decide_eq_false (by omega)
        have HbF := Lib.hid (HbW.out.trans (hbm.mono HbW.out.size))
        clear hbm hm hml
        go_wp2_with fail
        go_roundw
        case rel => exact ⟨j + 1, by go_num, Hjl.out, HbF.out⟩
        case measure => have := Hjl.out; simp [intOf]; omega
      have m0 : decide ((m : Int) < (sp.length : Int)) = true := decide_eq_true (by omega)
      have m1 : IntKind.i64.wrap ((m : Int) + 1) = (m : Int) + 1 := by rw [IntKind.wrap_i64]; have := H8.out; omega
      have m2 : (0 : Int) ≤ (m : Int) := by omega
      have m3 : (m : Int) < (sp.length : Int) := by omega
      have hb7 := HbW.out.trans (hbm.mono HbW.out.size)
      have hsm := (HFo.out _ hb7).2.2.2
      obtain ⟨g2, o2, rfl, _⟩ := hsm.addr (by omega)
      have f0 := hsm.c0 m hml
      have f1 := hsm.c1 m hml
      have hspb := spB_near (List.all_eq_true.1 V6.out _ (idx_mem hml))
      simp only at hspb
      have hx0 : mem sl (fr sp m) = true := Hsub.out _ (mem_iff.2 ⟨_, idx_mem hml, Int.le_refl _, hspb.2.1⟩)
      have hx1 : mem sl (tt sp m - 1) = true := Hsub.out _ (mem_iff.2 ⟨_, idx_mem hml, by simp only; omega, by simp only; omega⟩)
      generalize fr sp m = p at *
      generalize tt sp m = q at *
      have z1 : IntKind.i64.wrap (q - 1) = q - 1 := by rw [IntKind.wrap_i64]; omega
      have z2 : decide (q ≤ p) = false := decide_eq_false (by omega)
      obtain ⟨W2, hW2⟩ : ∃ y, y = wr.alloc (.cells #[.int .i64 p, .int .i64 q] 38) := ⟨_, rfl⟩
      obtain ⟨b13, hb13⟩ : ∃ y, y = wr.heap.size := ⟨_, rfl⟩
      have hT2 : W2.heap[b13]? = some (.cells #[.int .i64 p, .int .i64 q] 38 (0, 0)) := by rw [hW2, hb13]; exact heap_alloc_new wr _
      have s0 := blk_get hT2 0
      have s1 := blk_get hT2 1
      simp at s0 s1
      obtain ⟨W3, hW3⟩ : ∃ y, y = W2.alloc (.cells #[.int .i64 p, .int .i64 (q - 1)] 3) := ⟨_, rfl⟩
      obtain ⟨b14, hb14⟩ : ∃ y, y = W2.heap.size := ⟨_, rfl⟩
      have hT3 : W3.heap[b14]? = some (.cells #[.int .i64 p, .int .i64 (q - 1)] 3 (0, 0)) := by rw [hW3, hb14]; exact heap_alloc_new W2 _
      have hb2 : Below wr.heap.size wr W2 := by rw [hW2]; exact (Below.refl _ _).alloc (Nat.le_refl _) _
      have hb3 : Below W2.heap.size W2 W3 := by rw [hW3]; exact (Below.refl _ _).alloc (Nat.le_refl _) _
      have hT23 := (hb3.block _ (blk_lt hT2)).trans hT2
      have FX : Hid (∀ X, Below W3.heap.size W3 X → X.cell? ⟨b13, 0, none⟩ = some (.int .i64 p) ∧ X.cell? ⟨b13, 1, none⟩ = some (.int .i64 q) ∧ ∀ n, n < 2 → X.cell? ⟨b14, n, none⟩ = some (.int .i64 (if n = 0 then p else q - 1))) := Lib.hid fun X h => by
        have x1 := (h.block _ (blk_lt hT23)).trans hT23
        have x2 := (h.block _ (blk_lt hT3)).trans hT3
        refine ⟨blk_get x1 0, blk_get x1 1, fun n hn => ?_⟩
        rcases (by omega : n = 0 ∨ n = 1) with rfl | rfl
        · exact blk_get x2 0
        · exact blk_get x2 1
      have hbw3 := hb2.trans (hb3.mono hb2.size)
      have hB3 : Below W.heap.size W W3 := hbm.trans (hbw3.mono hbm.size)
      have hB73 : Below w7.heap.size w7 W3 := hb7.trans (hbw3.mono hb7.size)
      have E14 := Lib.hid (show b14 = b13 + 1 by rw [hb14, hW2, hb13, World.size_alloc])
      have HW2 := Lib.hid hW2; have Hb13 := Lib.hid hb13; have HW3 := Lib.hid hW3; have Hb14 := Lib.hid hb14; have HB3 := Lib.hid hB3; have HB73 := Lib.hid hB73
      have Hx0 := Lib.hid hx0; have Hx1 := Lib.hid hx1; have Hml := Lib.hid hml
      rw [hW2, hb13] at s0 s1
      clear hW2 hb13 hT2 hW3 hb14 hT3 hb2 hb3 hT23 hbw3 hB3 hB73 hx0 hx1 hml hm hsm hbm hb7 hspb
      go_wp2_with fail
      rw [← HW2.out, ← Hb13.out, ← E14.out, ← HW3.out]
      clear s0 s1 f0 f1
      go_loopw [115] (fun i wq => ∃ n : Nat, i = .int .i64 (n : Int) ∧ n ≤ 2 ∧ Below W3.heap.size W3 wq) (fun i _ => 2 - (intOf i).toNat)
      case atStart => exact ⟨0, rfl, Nat.zero_le _, Below.refl _ _⟩
      case round =>
        obtain ⟨n, rfl, hn, hbn⟩ := hrel
        rcases Nat.lt_or_ge n 2 with hnl | hnl
        rotate_left
        · obtain rfl : n = 2 := by omega
          have HbF := Lib.hid (HB3.out.trans (hbn.mono HB3.out.size))
          clear hbn hn hnl
          go_wp2_with fail
          go_roundw
          case rel => exact ⟨m + 1, by go_num, Hml.out, HbF.out⟩
          case measure => have := Hml.out; simp [intOf]; omega
        have n0 : decide ((n : Int) < 2) = true := decide_eq_true (by omega)
        have n1 : IntKind.i64.wrap ((n : Int) + 1) = (n : Int) + 1 := by rw [IntKind.wrap_i64]; omega
        have n2 : (0 : Int) ≤ (n : Int) := by omega
        have n3 : (n : Int) < 2 := by omega
        have x2 := (FX.out _ hbn).2.2 n hnl
        have hmx : mem sl (if n = 0 then p else q - 1) = true := by split; exact Hx0.out; exact Hx1.out
        generalize (if n = 0 then p else q - 1) = x at x2 hmx
        obtain ⟨W4, hW4⟩ : ∃ y, y = wr.alloc (.cells #[.int .i64 x] 3) := ⟨_, rfl⟩
        obtain ⟨b15, hb15⟩ : ∃ y, y = wr.heap.size := ⟨_, rfl⟩
        have hb4 : Below wr.heap.size wr W4 := by rw [hW4]; exact (Below.refl _ _).alloc (Nat.le_refl _) _
        have hB4 : Below W3.heap.size W3 W4 := hbn.trans (hb4.mono hbn.size)
        have hbx : BoxI b15 x W4 := by rw [hW4, hb15]; exact heap_alloc_new wr _
        obtain ⟨s0, s1, _⟩ := FX.out _ hB4
        have hB74 := HB73.out.trans (hB4.mono HB73.out.size)
        obtain ⟨_, _, e2, hsl4⟩ := HFl.out _ hB74
        have KC := slContainsKept_c b15 x _ sl W4 hsl4 hbx
        have hmx2 : sl.any (inSp x) = true := hmx
        rw [hmx2] at KC
        have KC2 := Lib.hid KC; have HW4 := Lib.hid hW4; have Hb15 := Lib.hid hb15; have HB4 := Lib.hid hB4; have Hnl := Lib.hid hnl
        rw [hW4] at s0 s1 e2
        clear KC hW4 hb15 hb4 hB4 hbx hB74 hsl4 hmx hmx2 hn hnl hbn
        go_wp2_with fail
        rw [← HW4.out, ← Hb15.out]
        refine KC2.out.mono ?_
        rintro e w9 ⟨rfl, hb9⟩
        have HbF := Lib.hid (HB4.out.trans (hb9.mono HB4.out.size))
        clear hb9
        go_wp2_with fail
        go_roundw
        case rel => exact ⟨n + 1, by go_num, Hnl.out, HbF.out⟩
        case measure => have := Hnl.out; simp [intOf]; omega

set_option maxRecDepth 100000 in
theorem law47Kept_lifted (os : Os) (started : os.Started) (H : Type) (enc : TypeId × Value → H) :
    ReturnsInHanded {} Try.checked os 5 .any (Rows.disjunctiveKeptSpec.pre6 enc Try.prog Try.f5 Rows.disjunctiveKeptRow.domain false) (Rows.disjunctiveKeptSpec.post enc Try.prog Try.f5 false true false false) := by
  refine returnsInHanded_of_change (C := Try.checked) Try.own started (by kernel_rfl) Try.func5
    (ChangeSpec.witness6 (enc := enc) (C := Try.checked) false ⟨#[], #[.slice none 0 0, .slice none 0 0], []⟩ 8 (by kernel_rfl) (by kernel_rfl) (by kernel_rfl) (by kernel_rfl)) ?_
  intro W base args ds gs before hval0 hW hcnd _
  have hval : ∀ (j : Nat) t v, Try.f5.params[j]? = some t → args[j]? = some v → Value.okWide Try.prog W .any base t v := hval0
  have hW' := hW
  obtain ⟨p, q, hA0, hV, rfl, hfz, hnd⟩ := hW
  have hA : DataW.TrodAll enc Try.prog W 0 (fun _ => true) true Try.f5.params.toList args.toList ds p := hA0
  have hA1 := hA0
  rw [Try.params5] at hA hval
  obtain ⟨v0, v1, d0, d1, p0, p1, rfl, rfl, hp, h0, h1⟩ := trodAll_two hA
  obtain ⟨rfl, rfl⟩ := trodVars_none hV
  obtain ⟨l, g0⟩ := open_chos (hval 0 22 v0 rfl rfl) h0
  obtain ⟨ts, g1⟩ := open_ints (hval 1 32 v1 rfl rfl) h1
  clear hA0 hval0
  have hlt : ∀ x ∈ p, x.block < W.heap.size := fun x hx => hW'.lt x (by simp [hx])
  refine (law47Kept_c v0 v1 l ts W g0 g1).mono fun e W' ⟨he, hg⟩ => ?_
  subst he
  exact ⟨_, rfl, post_of_below (pa := p) (pv := []) hW' (fun _ _ _ => trodAll_mk1 (shut_bool Try.underlying4 _))
    (fun sp hsp => trodAll_keep Try.laidOut hg (by kernel_rfl) hA1 hlt (fun x hx => hsp x (by simp [hx])))
    (fun _ _ => rfl) rfl hg (ok_one (by kernel_rfl) rfl (okWide_bool_mk Try.underlying4 _))⟩

theorem law47Kept_holds : Rows.DisjunctiveKeptSaid :=
  OpenClaim.holds_of_wide 5 Try.f5 rfl rfl rfl rfl rfl rfl rfl ⟨rfl, rfl, rfl, rfl, rfl⟩ rfl rfl rfl rfl rfl (by kernel_rfl) Try.func5 (by kernel_rfl)
    (of_decide_eq_true (by kernel_rfl)) (by unfold Func.isWrapper; first | (rw [if_pos (by decide +kernel)]; kernel_rfl) | (rw [if_neg (by decide +kernel)]; exact ⟨rfl, rfl⟩))
    (fun os started H enc _ => law47Kept_lifted os started H enc)
#print axioms law47Kept_holds
end Go.Proofs.Ytcppcfinnbeboaa
