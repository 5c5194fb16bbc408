/- DisjunctiveMinimals: an explanation is not consistent, but without any one of its choices it is; there is none exactly if the network is consistent. No condition. -/
import Derived.Test.YtcppcfinnbeboaaGreatDtz
import Derived.Test.YtcppcfinnbeboaaGreatDtH
import Derived.Test.YtcppcfinnbeboaaGreatDjK
import Derived.Test.YtcppcfinnbeboaaGreatDjO
namespace Go.Proofs.YtcppcfinnbeboaaGreat
open Go.RowKit Go.Shelf Go.ChangeShapes Go.WideShapes Go.ChangeAt

theorem sub_asc {ks : List Nat} {n : Nat} (h : ks.Sublist (List.range n)) {i : Nat} (hi : i + 1 < ks.length) : ks.getD i 0 < ks.getD (i + 1) 0 := by
  have hp : ks.Pairwise (· < ·) := List.Pairwise.sublist h List.pairwise_lt_range
  have := List.pairwise_iff_getElem.1 hp i (i + 1) (by omega) hi (by omega)
  rw [List.getD_eq_getElem?_getD, List.getD_eq_getElem?_getD, List.getElem?_eq_getElem (by omega), List.getElem?_eq_getElem hi]
  exact this
theorem part_erase (l : List Cho) (ks : List Nat) (i : Nat) : partC l (ks.eraseIdx i) = (partC l ks).take i ++ (partC l ks).drop (i + 1) := by
  unfold partC
  rw [List.eraseIdx_eq_take_drop_succ, List.map_append, List.map_take, List.map_drop]
theorem chos_take {w : World} {g c : Nat} {L : List Cho} {S : Nat → Value} (h : ChosIn w (.slice (some ⟨g, 0, none⟩) L.length c) L S) {i : Nat} (hi : i ≤ L.length) (h0 : 0 < L.length) : ChosIn w (.slice (some ⟨g, 0, none⟩) (L.take i).length c) (L.take i) S := by
  obtain ⟨A, c', e, h1, h2⟩ := h.form
  injection e with e1 e2 e3
  subst e3
  obtain ⟨b, off, e4, hb⟩ := h.addr h0
  have hl : (L.take i).length = i := by rw [List.length_take]; omega
  have hc : ∀ j, j < i → cho (L.take i) j = cho L j := fun j hj => by
    unfold cho
    rw [List.getD_eq_getElem?_getD, List.getD_eq_getElem?_getD, List.getElem?_take_of_lt hj]
  refine ⟨⟨some ⟨g, 0, none⟩, c, rfl, by omega, h2, fun _ => ⟨g, 0, rfl, by injection e4 with e4; injection e4 with e4; subst e4; exact hb, fun a b ha hb' => ?_⟩⟩, fun j hj => ?_⟩
  · rw [hl] at ha
    have := RowsIn.cells h.1 a b (by omega) hb'
    rw [this]
    unfold choCell
    rw [hc a ha]
  · rw [hl] at hj
    rw [hc j hj]
    exact h.2 j (by omega)
theorem chos_drop {w : World} {g c : Nat} {L : List Cho} {S : Nat → Value} (h : ChosIn w (.slice (some ⟨g, 0, none⟩) L.length c) L S) {i : Nat} (hi : i ≤ L.length) (h0 : 0 < L.length) (A : Addr) (hA : i < L.length → A = ⟨g, i * 3, none⟩) : ChosIn w (.slice (some A) (L.drop i).length (c - i)) (L.drop i) (fun j => S (i + j)) := by
  obtain ⟨A', c', e, h1, h2⟩ := h.form
  injection e with e1 e2 e3
  subst e3
  obtain ⟨b, off, e4, hb⟩ := h.addr h0
  have hl : (L.drop i).length = L.length - i := by rw [List.length_drop]
  have hc : ∀ j, cho (L.drop i) j = cho L (i + j) := fun j => by
    unfold cho
    rw [List.getD_eq_getElem?_getD, List.getD_eq_getElem?_getD, List.getElem?_drop]
  refine ⟨⟨some A, c - i, rfl, by omega, by omega, fun hpos => ?_⟩, fun j hj => ?_⟩
  · have hA := hA (by omega)
    subst hA
    refine ⟨g, i * 3, rfl, by injection e4 with e4; injection e4 with e4; subst e4; exact hb, fun a b ha hb' => ?_⟩
    have := RowsIn.cells h.1 (i + a) b (by omega) hb'
    rw [show i * 3 + a * 3 + b = 0 + (i + a) * 3 + b from by omega]
    rw [this]
    unfold choCell
    rw [hc a]
  · rw [hc j]
    exact h.2 (i + j) (by omega)
set_option maxRecDepth 100000 in
set_option maxHeartbeats 8000000 in
theorem law47Minimals_c (n : Int) (v : Value) (l : List Cho) (w : World) (hs : IsChos w v l) : Calls Tryz.prog 3 #[.int .i64 n, v] w (Ret w (.bool true)) := by
  have KS : Hid (∀ X, Below w.heap.size w X → Calls Tryz.prog 9 #[.int .i64 n, v] X (Ret X (.bool (smallB n l)))) := Lib.hid fun X h => small47_c _ v l X (hs.below h)
  have Hsx := Lib.hid hs
  obtain ⟨S, hs⟩ := hs
  obtain ⟨A, c, rfl, _, _⟩ := hs.form
  cases hv : smallB n l
  · rw [hv] at KS
    clear hv hs
    go_enter Tryz.func3, Tryz.ntmps3
    go_wp2_with fail
    refine (awake47_c _).mono ?_
    rintro e w1 ⟨rfl, hb1⟩
    go_wp2_with fail
    refine (KS.out _ hb1).mono ?_
    rintro e w2 ⟨rfl, hb2⟩
    have HF := Lib.hid (hb1.trans (hb2.mono hb1.size))
    clear hb2
    go_wp2_with fail
    go_ret
    exact ⟨rfl, HF.out⟩
  rw [hv] at KS
  obtain ⟨N, rfl, hN1, hN, hst, hl10, hsz, hnet⟩ := small_ok hv
  have KM : Hid (∀ X, Below w.heap.size w X → Calls Tryz.prog 10 #[.int .i64 (N : Int), .slice A l.length c, .int .i64 120] X (MinRet (N : Int) l 120 X)) := Lib.hid fun X h => djMinimal_c _ _ _ l X (Hsx.out.below h)
  have HBd : Hid (budE (N : Int) l 120 = 0) := Lib.hid (bud_zero hnet (by omega) (by omega))
  have HAb : Hid (aboveB l 120 = false) := Lib.hid (above_small hsz)
  have KC : Hid (∀ X u ks, IsChos X u (partC l ks) → ks.Sublist (List.range l.length) → Calls Tryz.prog 11 #[.int .i64 (N : Int), u] X (ConR (partC l ks) X)) := Lib.hid fun X u ks h hk => by
    have hsub := part_sub (l := l) hk
    rw [part_all] at hsub
    exact r47Consistent_c N u _ X h hN1 (by omega) (st_sub hsub hst) (by have := size_sub hsub hst; omega)
  have KC0 : Hid (∀ X, Below w.heap.size w X → Calls Tryz.prog 11 #[.int .i64 (N : Int), .slice A l.length c] X (ConR l X)) := Lib.hid fun X h => r47Consistent_c N _ l X (Hsx.out.below h) hN1 (by omega) hst (by omega)
  have Hs : Hid (∀ X, Below w.heap.size w X → ChosIn X (.slice A l.length c) l S) := Lib.hid fun X h => hs.below h
  have Hst := Lib.hid hst; have Hl10 := Lib.hid hl10
  clear hv hs hN1 hN hst hl10 hsz hnet
  go_enter Tryz.func3, Tryz.ntmps3
  go_wp2_with fail
  refine (awake47_c _).mono ?_
  rintro e w1 ⟨rfl, hb1⟩
  go_wp2_with fail
  refine (KS.out _ hb1).mono ?_
  rintro e w2 ⟨rfl, hb2⟩
  have HF := Lib.hid (hb1.trans (hb2.mono hb1.size))
  clear hb2 hb1
  go_wp2_with fail
  refine (KM.out _ HF.out).mono ?_
  rintro e w3 ⟨hb3, ⟨q, _⟩ | ⟨_, _, q⟩ | ⟨_, rfl, hx⟩ | ⟨_, ks, vm, rfl, hi, hk⟩⟩
  · exact absurd HBd.out q
  · rw [show (120 : Int).toNat = 120 from rfl, HAb.out] at q
    cases q
  · have HF3 := Lib.hid (HF.out.trans (hb3.mono HF.out.size)); have Hx := Lib.hid hx
    clear hb3 hx
    go_wp2_with fail
    refine (KC0.out _ HF3.out).mono ?_
    rintro e w4 ⟨cb, rfl, hcb, hb4⟩
    have HF4 := Lib.hid (HF3.out.trans (hb4.mono HF3.out.size))
    obtain rfl := hcb.2 Hx.out
    clear hb4 hcb
    go_wp2_with fail
    go_ret
    exact ⟨rfl, HF4.out⟩
  have HF3 := Lib.hid (HF.out.trans (hb3.mono HF.out.size)); have Hi := Lib.hid hi; have Hk := Lib.hid hk
  obtain ⟨Am, cm, hvm, _, _⟩ := hi.form
  subst hvm
  rw [natL_len] at Hi ⊢
  clear hb3 hi hk
  go_wp2_with fail
  refine (KC0.out _ HF3.out).mono ?_
  rintro e w4 ⟨cb, rfl, hcb, hb4⟩
  have Hsb : Hid ((partC l ks).Sublist l) := Lib.hid (by have := part_sub (l := l) Hk.out.1; rw [part_all] at this; exact this)
  obtain rfl : cb = false := by
    cases cb
    · rfl
    · obtain ⟨x, hx⟩ := hcb.1 rfl
      exact absurd (sat_sub Hsb.out hx) (Hk.out.2.1 x)
  have hpos : 0 < ks.length := by
    rcases Nat.eq_zero_or_pos ks.length with e | e
    · obtain rfl := List.length_eq_zero_iff.1 e
      exact absurd (fun i hi => absurd hi (by simp [partC])) (Hk.out.2.1 fun _ => 0)
    · exact e
  have h10 : ks.length ≤ 10 := by have := Hk.out.1.length_le; rw [List.length_range] at this; have := Hl10.out; omega
  have HF4 := Lib.hid (HF3.out.trans (hb4.mono HF3.out.size))
  have Hi4 := Lib.hid (Hi.out.below hb4)
  have p0 : ((ks.length : Int) == 0) = false := by rw [beq_eq_false_iff_ne]; omega
  have p1 : ¬ (ks.length : Int) = 0 := by omega
  have p2 : ¬ ks.length = 0 := by omega
  have Hpos := Lib.hid hpos; have H10 := Lib.hid h10
  clear hb4 hcb hpos h10
  go_wp2_with fail
  clear p0 p1 p2
  go_loopw [7, 42] (fun pv i wz => ∃ j : Nat, i = .int .i64 (j : Int) ∧ j ≤ ks.length ∧ OwnC wz w4.heap.size pv (partC l (ks.take j)) (fun i => S (ks.getD i 0)) ∧ Below w4.heap.size w4 wz) (fun _ i _ => ks.length - (intOf i).toNat)
  case atStart => exact ⟨0, rfl, Nat.zero_le _, .nil, Below.refl _ _⟩
  case round =>
    obtain ⟨j, rfl, hj, ho, hbz⟩ := hrel
    obtain ⟨Ap, cp, rfl⟩ := ho.form
    have Ho := Lib.hid ho; have Hbz := Lib.hid hbz
    rcases Nat.lt_or_ge j ks.length with hjl | hjl
    · have j0 : decide ((j : Int) < (ks.length : Int)) = true := decide_eq_true (by omega)
      have j00 : decide (j < ks.length) = true := decide_eq_true hjl
      have j1 : IntKind.i64.wrap ((j : Int) + 1) = (j : Int) + 1 := by rw [IntKind.wrap_i64]; have := H10.out; omega
      have j2 : (0 : Int) ≤ (j : Int) := by omega
      have j3 : (j : Int) < (ks.length : Int) := by omega
      have him := Hi4.out.below hbz
      obtain ⟨gm, om, hAm, _⟩ : ∃ b off, Am = some ⟨b, off, none⟩ ∧ b < wr.heap.size := by
        have := him
        rw [← natL_len ks] at this
        exact this.addr (by rw [natL_len]; omega)
      subst hAm
      rw [← natL_len ks] at him
      have a0 := him.c0 j (by rw [natL_len]; exact hjl)
      have a0' := fun h => him.c0 (j - 1) h
      obtain ⟨x, hx⟩ : ∃ x, x = ks.getD j 0 := ⟨_, rfl⟩
      rw [natL_iv ks hjl, ← hx] at a0
      have hxl : x < l.length := by
        have : ks[j] ∈ ks := List.getElem_mem hjl
        have h2 := sub_lt Hk.out.1 _ this
        rw [hx, List.getD_eq_getElem?_getD, List.getElem?_eq_getElem hjl]
        exact h2
      have x0 : (0 : Int) ≤ (x : Int) := by omega
      have x1 : (x : Int) < (l.length : Int) := by omega
      have x2 : decide ((x : Int) < 0) = false := decide_eq_false (by omega)
      have x3 : decide ((l.length : Int) ≤ (x : Int)) = false := decide_eq_false (by omega)
      have x4 : decide (l.length ≤ x) = false := decide_eq_false (by omega)
      have hbwz : Below w.heap.size w wr := HF4.out.trans (hbz.mono HF4.out.size)
      have hsr := Hs.out _ hbwz
      obtain ⟨gl, ol, rfl, _⟩ := hsr.addr (by omega)
      have d0 := hsr.c0 x hxl
      have d1 := hsr.c1 x hxl
      have d2 := hsr.c2 x hxl
      have hsp := hsr.2 x hxl
      have hcn := Hst.out.2 x hxl
      have hpos := hcn.2.2.2.2.1
      have hblk : ∀ g, sblk (S x) = some g → g < w.heap.size := fun g hg => ((Hs.out _ (Below.refl _ _)).2 x hxl).blk_lt hpos g hg
      have hstep := part_take l ks hjl
      rw [← hx] at hstep
      have Hstep := Lib.hid hstep; have Hx := Lib.hid hx; have Hjl2 := Lib.hid hjl; have Hsp := Lib.hid hsp; have Hblk := Lib.hid hblk; have Hpos2 := Lib.hid hpos
      obtain ⟨cI, hI⟩ : ∃ y, y = (cho l x).1 := ⟨_, rfl⟩
      obtain ⟨cJ, hJ⟩ : ∃ y, y = (cho l x).2.1 := ⟨_, rfl⟩
      obtain ⟨cS, hS⟩ : ∃ y, y = (cho l x).2.2 := ⟨_, rfl⟩
      obtain ⟨sv, hsv⟩ : ∃ y, y = S x := ⟨_, rfl⟩
      rw [← hI] at d0
      rw [← hJ] at d1
      rw [← hS, ← hsv] at Hsp
      rw [← hS] at Hpos2
      rw [← hsv] at d2 Hblk
      have Hcho : Hid (cho l x = (cI, cJ, cS)) := Lib.hid (by rw [hI, hJ, hS])
      have Hsv := Lib.hid hsv
      obtain ⟨A3, n3, c3, rfl⟩ : ∃ A n c, sv = .slice A n c := by
        obtain ⟨A3, c3, e, _⟩ := hsp.form
        exact ⟨A3, _, c3, hsv.trans e⟩
      have hlt : (partC l (ks.take j)).length = j := by rw [part_len, List.length_take]; omega
      have Hlt := Lib.hid hlt
      have Hbwz := Lib.hid hbwz
      have key : ∀ v7 w7, OwnC w7 w4.heap.size v7 (partC l (ks.take j) ++ [(cI, cJ, cS)]) (fun i => if i = (partC l (ks.take j)).length then Value.slice A3 n3 c3 else S (ks.getD i 0)) → OwnC w7 w4.heap.size v7 (partC l (ks.take (j + 1))) (fun i => S (ks.getD i 0)) := fun v7 w7 h7 => by
        rw [Hstep.out, Hcho.out]
        have e : (fun i => S (ks.getD i 0)) = fun i => if i = (partC l (ks.take j)).length then Value.slice A3 n3 c3 else S (ks.getD i 0) := by
          funext i
          rw [Hlt.out]
          by_cases e : i = j
          · rw [if_pos e, e, ← Hx.out, ← Hsv.out]
          · rw [if_neg e]
        rw [e]
        exact h7
      have Key := Lib.hid key
      have hprev : ∀ i, j = i + 1 → (0 : Int) ≤ (i : Int) ∧ wr.cell? ⟨gm, om + i, none⟩ = some (.int .i64 ((ks.getD i 0 : Nat) : Int)) ∧ ks.getD i 0 < x := fun i hi => by
        subst hi
        have := a0' (by rw [natL_len]; omega)
        rw [Nat.add_sub_cancel, natL_iv ks (by omega)] at this
        exact ⟨by omega, this, by rw [hx]; exact sub_asc Hk.out.1 hjl⟩
      clear ho hbz hj hxl hbwz hsr hsp hcn hpos hblk hstep hx hI hJ hS hsv him a0' key hlt
      by_cases hj0 : j = 0
      · subst hj0
        have y0 : decide ((0 : Int) < 0) = false := by decide
        rw [Nat.add_zero] at a0
        clear hprev hjl
        go_wp2_with (at_builtin; refine append_choG rfl _ _ rfl w4.heap.size _ (partC l (ks.take 0)) (fun i => S (ks.getD i 0)) cI cJ _ cS (by rfl) Ho.out (by rfl) Hsp.out Hpos2.out (fun gg h e => by have h1 := (World.ownsRow.lt Ho.out.own gg h).1; have h2 := Hblk.out gg e; have h3 := HF4.out.size; omega) (by rw [Hlt.out]; have := H10.out; omega) Hbz.out.size ?_; intro v7 w7 hout7 hb7 _ _)
        have HFo := Lib.hid (Key.out _ _ hout7)
        have Hb7 := Lib.hid (Hbz.out.trans hb7)
        clear hout7 hb7
        go_wp2_with fail
        go_roundw
        case rel => exact ⟨1, by go_num, Hjl2.out, HFo.out, Hb7.out⟩
        case measure => have := Hjl2.out; simp [intOf]; omega
      · obtain ⟨i, hi⟩ : ∃ i, j = i + 1 := ⟨j - 1, by omega⟩
        obtain ⟨i2, a1, hlx⟩ := hprev i hi
        have y0 : decide ((0 : Int) < (j : Int)) = true := decide_eq_true (by omega)
        have y00 : decide (0 < j) = true := decide_eq_true (by omega)
        have y1 : IntKind.i64.wrap ((j : Int) - 1) = (i : Int) := by rw [IntKind.wrap_i64]; have := H10.out; have := Hjl2.out; omega
        have y2 : (i : Int) < (ks.length : Int) := by have := Hjl2.out; omega
        obtain ⟨pv, hpv⟩ : ∃ y, y = ks.getD i 0 := ⟨_, rfl⟩
        rw [← hpv] at a1 hlx
        have y3 : decide ((x : Int) ≤ (pv : Int)) = false := decide_eq_false (by omega)
        have y33 : decide (x ≤ pv) = false := decide_eq_false (by omega)
        clear hprev hlx hpv hjl hi hj0
        go_wp2_with (at_builtin; refine append_choG rfl _ _ rfl w4.heap.size _ (partC l (ks.take j)) (fun i => S (ks.getD i 0)) cI cJ _ cS (by rfl) Ho.out (by rfl) Hsp.out Hpos2.out (fun gg h e => by have h1 := (World.ownsRow.lt Ho.out.own gg h).1; have h2 := Hblk.out gg e; have h3 := HF4.out.size; omega) (by rw [Hlt.out]; have := H10.out; have := Hjl2.out; omega) Hbz.out.size ?_; intro v7 w7 hout7 hb7 _ _)
        have HFo := Lib.hid (Key.out _ _ hout7)
        have Hb7 := Lib.hid (Hbz.out.trans hb7)
        clear hout7 hb7
        go_wp2_with fail
        go_roundw
        case rel => exact ⟨j + 1, by go_num, Hjl2.out, HFo.out, Hb7.out⟩
        case measure => have := Hjl2.out; simp [intOf]; omega
    · obtain rfl : j = ks.length := by omega
      have j0 : decide ((ks.length : Int) < (ks.length : Int)) = false := decide_eq_false (by omega)
      have j00 : decide (ks.length < ks.length) = false := decide_eq_false (by omega)
      have ht : ks.take ks.length = ks := List.take_length
      have ho2 := ho
      rw [ht] at ho2
      have hlen : (partC l (ks.take ks.length)).length = ks.length := by rw [ht, part_len]
      rw [hlen]
      have hform : ∃ g, Ap = some ⟨g, 0, none⟩ := by
        rcases ho.own.2 with ⟨_, h0⟩ | ⟨g, cap, cur, e, _⟩
        · rw [hlen] at h0
          have := Hpos.out
          omega
        · injection e with e
          exact ⟨g, e⟩
      obtain ⟨g, rfl⟩ := hform
      rw [part_len] at ho2
      obtain ⟨cur, hg, hh, hcap1, hcap2, _⟩ : ∃ cur, w4.heap.size ≤ g ∧ wr.heap[g]? = some (.cells cur 31 (0, 0)) ∧ ks.length ≤ cp ∧ cp ≤ maxLen ∧ True := by
        rcases ho2.own.2 with ⟨e, _⟩ | ⟨g', cap, cur, e, q1, q2, q3, q4, _⟩
        · injection e with e _ _
          cases e
        · injection e with e1 e2 e3
          injection e1 with e1
          injection e1 with e1
          subst e1
          subst e3
          rw [part_len] at q3
          exact ⟨cur, q1, q2, q3, q4, trivial⟩
      have hch := ho2.chos
      have hin : ChosIn wr (.slice (some ⟨g, 0, none⟩) (partC l ks).length cp) (partC l ks) (fun i => S (ks.getD i 0)) := by
        rw [part_len]
        have h1 := ho2.own
        refine ⟨⟨some ⟨g, 0, none⟩, cp, by rw [part_len], by rw [part_len]; exact hcap1, by unfold maxLen at hcap2; exact hcap2, fun _ => ⟨g, 0, rfl, blk_lt hh, fun a b ha hb => ?_⟩⟩, fun i hi => ho2.sp i hi⟩
        rcases h1.2 with ⟨e, _⟩ | ⟨g', cap, cur', e, q1, q2, q3, q4, q5, q6⟩
        · injection e with e _ _
          cases e
        · injection e with e1 e2 e3
          injection e1 with e1
          injection e1 with e1
          subst e1
          subst e3
          rw [Nat.zero_add, blk_get q2]
          have e := flatC_get (partC l ks) (fun i => S (ks.getD i 0)) (partC l ks).length a b ha hb
          rw [← q6, List.getElem?_take_of_lt (by omega), Array.getElem?_toList] at e
          exact e
      have Hin := Lib.hid hin; have Hch := Lib.hid hch
      have hbwz : Below w.heap.size w wr := HF4.out.trans (hbz.mono HF4.out.size)
      have Hbwz := Lib.hid hbwz
      have Hcap := Lib.hid (And.intro hcap1 hcap2)
      have KCn := Lib.hid (KC.out wr _ ks hch Hk.out.1)
      clear ho ho2 hin hch hbz hbwz hg hh hcap1 hcap2 ht hlen hj hjl
      go_wp2_with fail
      refine KCn.out.mono ?_
      rintro e w5 ⟨cb, rfl, hcb, hb5⟩
      obtain rfl : cb = false := by
        cases cb
        · rfl
        · obtain ⟨x, hx⟩ := hcb.1 rfl
          exact absurd hx (Hk.out.2.1 x)
      have Hb5 := Lib.hid hb5
      have Hbw5 := Lib.hid (Hbwz.out.trans (hb5.mono Hbwz.out.size))
      clear hb5 hcb
      go_wp2_with fail
      clear j0 j00
      obtain ⟨wE, hwE⟩ : ∃ y, y = wr := ⟨_, rfl⟩
      subst hwE
      have KCat : Hid (∀ (Y : World) (B i : Nat) (A2 : Addr) (n2 c2 : Nat), Below wE.heap.size wE Y → Y.heap[B]? = some (.cells #[.slice (some ⟨g, 0, none⟩) i cp, .slice (some A2) n2 c2] 22 (0, 0)) → i < ks.length → n2 = ks.length - (i + 1) → c2 = cp - (i + 1) → (i + 1 < ks.length → A2 = ⟨g, (i + 1) * 3, none⟩) → Calls Tryz.prog 12 #[.slice (some ⟨B, 0, none⟩) 2 2] Y (CatRet (partC l (ks.eraseIdx i)) Y)) := Lib.hid fun Y B i A2 n2 c2 hY hB hi hn2 hc2 hA => by
        have h10 := H10.out
        have h1 := chos_take (Hin.out.below hY) (i := i) (by rw [part_len]; omega) (by rw [part_len]; omega)
        have h2 := chos_drop (Hin.out.below hY) (i := i + 1) (by rw [part_len]; omega) (by rw [part_len]; omega) A2 (by rw [part_len]; exact hA)
        have hl1 : ((partC l ks).take i).length = i := by rw [List.length_take, part_len]; omega
        have hl2 : ((partC l ks).drop (i + 1)).length = ks.length - (i + 1) := by rw [List.length_drop, part_len]
        rw [part_erase]
        refine slConcat2_c B ⟨g, 0, none⟩ A2 cp (cp - (i + 1)) _ _ _ _ _ ?_ h1 h2 (by rw [hl1, hl2]; omega)
        rw [hl1, hl2, ← hn2, ← hc2]
        exact hB
      have KCe : Hid (∀ X u i, IsChos X u (partC l (ks.eraseIdx i)) → Calls Tryz.prog 11 #[.int .i64 (N : Int), u] X (ConR (partC l (ks.eraseIdx i)) X)) := Lib.hid fun X u i h => KC.out X u _ h ((List.eraseIdx_sublist _ _).trans Hk.out.1)
      clear KCn
      go_loopw [81] (fun i wz => ∃ j : Nat, i = .int .i64 (j : Int) ∧ j ≤ ks.length ∧ Below wE.heap.size wE wz) (fun i _ => ks.length - (intOf i).toNat)
      case atStart => exact ⟨0, rfl, Nat.zero_le _, Hb5.out⟩
      case round =>
        obtain ⟨j, rfl, hj, hbz⟩ := hrel
        obtain ⟨wl, hwl⟩ : ∃ y, y = wr := ⟨_, rfl⟩
        rcases Nat.lt_or_ge j ks.length with hjl | hjl
        · have j0 : decide ((j : Int) < (ks.length : Int)) = true := decide_eq_true (by omega)
          have j00 : decide (j < ks.length) = true := decide_eq_true hjl
          have j1 : IntKind.i64.wrap ((j : Int) + 1) = (j : Int) + 1 := by rw [IntKind.wrap_i64]; have := H10.out; omega
          have hcp := Hcap.out
          have j2 : (0 : Int) ≤ (j : Int) := by omega
          have j3 : (j : Int) ≤ (cp : Int) := by omega
          have j4 : (j : Int) + 1 ≤ (ks.length : Int) := by omega
          have j5 : (0 : Int) ≤ (j : Int) + 1 := by omega
          have j6 : ((j : Int) + 1).toNat = j + 1 := by omega
          have j7 : j ≤ cp := by omega
          have j8 : j + 1 ≤ ks.length := hjl
          have Hjl := Lib.hid hjl
          have Hkx := Lib.hid (Hk.out.2.2 j hjl)
          obtain ⟨bs, hbs⟩ : ∃ y, y = wr.heap.size := ⟨_, rfl⟩
          obtain ⟨A2, hA, hA2⟩ : ∃ A : Addr, (if cp = j + 1 then (some ⟨g, 0, none⟩ : Option Addr) else some ⟨g, (j + 1) * 3, none⟩) = some A ∧ (j + 1 < ks.length → A = ⟨g, (j + 1) * 3, none⟩) := by
            by_cases hce : cp = j + 1
            · exact ⟨⟨g, 0, none⟩, by rw [if_pos hce], fun h => by omega⟩
            · exact ⟨⟨g, (j + 1) * 3, none⟩, by rw [if_neg hce], fun _ => rfl⟩
          have K1 := KCat.out ((wr.alloc (.cells #[.slice (some ⟨g, 0, none⟩) j cp, .slice (some A2) (ks.length - (j + 1)) (cp - (j + 1))] 22)).drew) wr.heap.size j A2 (ks.length - (j + 1)) (cp - (j + 1)) ((hbz.alloc hbz.size _).drew) (heap_alloc_new wr _) hjl rfl rfl hA2
          have K1 := Lib.hid K1
          have kb := Lib.hid (hbz.alloc hbz.size (.cells #[.slice (some ⟨g, 0, none⟩) j cp, .slice (some A2) (ks.length - (j + 1)) (cp - (j + 1))] 22)).drew
          clear hbz hj hjl hcp hA2
          go_wp2_with fail
          go_region_held3 (fun _ => True) (exact trivial) (first
            | (go_at_call 12; (with_reducible refine (K1.out).mono ?_); rintro e Wa ⟨v9, rfl, hv9, hba⟩; have kb := Lib.hid (kb.out.trans (hba.mono kb.out.size)); clear hba)
            | (go_at_call 11; (with_reducible refine (KCe.out _ _ _ hv9).mono ?_); rintro e Wb ⟨cb, rfl, hcb, hbb⟩; have kb := Lib.hid (kb.out.trans (hbb.mono kb.out.size)); obtain rfl := hcb.2 Hkx.out; clear hbb hcb)
            | fail)
          go_wp2_with fail
          go_roundw
          case rel => exact ⟨j + 1, by go_num, Hjl.out, kb.out⟩
          case measure => have := Hjl.out; simp [intOf]; omega
        · obtain rfl : j = ks.length := by omega
          have j0 : decide ((ks.length : Int) < (ks.length : Int)) = false := decide_eq_false (by omega)
          have j00 : decide (ks.length < ks.length) = false := decide_eq_false (by omega)
          have HbF := Lib.hid (Hbwz.out.trans (hbz.mono Hbwz.out.size))
          clear hbz hj hjl
          go_wp2_with fail
          go_ret
          exact ⟨rfl, HbF.out⟩

set_option maxRecDepth 100000 in
theorem law47Minimals_lifted (os : Os) (started : os.Started) (H : Type) (enc : TypeId × Value → H) :
    ReturnsInHanded {} Tryz.checked os 3 .any (Rows.disjunctiveMinimalsSpec.pre6 enc Tryz.prog Tryz.f3 Rows.disjunctiveMinimalsRow.domain false) (Rows.disjunctiveMinimalsSpec.post enc Tryz.prog Tryz.f3 false true false false) := by
  refine returnsInHanded_of_change (C := Tryz.checked) Tryz.own started (by kernel_rfl) Tryz.func3
    (ChangeSpec.witness6 (enc := enc) (C := Tryz.checked) false ⟨#[], #[.int .i64 0, .slice none 0 0], []⟩ 8 (by kernel_rfl) (by kernel_rfl) (by kernel_rfl) (by kernel_rfl)) ?_
  intro W base args ds gs before hval0 hW hcnd _
  have hval : ∀ (j : Nat) t v, Tryz.f3.params[j]? = some t → args[j]? = some v → Value.okWide Tryz.prog W .any base t v := hval0
  have hW' := hW
  obtain ⟨p, q, hA0, hV, rfl, hfz, hnd⟩ := hW
  have hA : DataW.TrodAll enc Tryz.prog W 0 (fun _ => true) true Tryz.f3.params.toList args.toList ds p := hA0
  have hA1 := hA0
  rw [Tryz.params3] at hA hval
  obtain ⟨v0, v1, d0, d1, p0, p1, rfl, rfl, hp, h0, h1⟩ := trodAll_two hA
  obtain ⟨rfl, rfl⟩ := trodVars_none hV
  obtain ⟨n, rfl, rfl, rfl, g0⟩ := open_int Tryz.underlying3 (hval 0 3 v0 rfl rfl) h0
  obtain ⟨l, g1⟩ := open_chos (hval 1 22 v1 rfl rfl) h1
  clear hA0 hval0
  have hlt : ∀ x ∈ p, x.block < W.heap.size := fun x hx => hW'.lt x (by simp [hx])
  refine (law47Minimals_c n v1 l W g1).mono fun e W' ⟨he, hg⟩ => ?_
  subst he
  exact ⟨_, rfl, post_of_below (pa := p) (pv := []) hW' (fun _ _ _ => trodAll_mk1 (shut_bool Tryz.underlying4 _))
    (fun sp hsp => trodAll_keep Tryz.laidOut hg (by kernel_rfl) hA1 hlt (fun x hx => hsp x (by simp [hx])))
    (fun _ _ => rfl) rfl hg (ok_one (by kernel_rfl) rfl (okWide_bool_mk Tryz.underlying4 _))⟩

theorem law47Minimals_holds : Rows.DisjunctiveMinimalsSaid :=
  OpenClaim.holds_of_wide 3 Tryz.f3 rfl rfl rfl rfl rfl rfl rfl ⟨rfl, rfl, rfl, rfl, rfl⟩ rfl rfl rfl rfl rfl (by kernel_rfl) Tryz.func3 (by kernel_rfl)
    (of_decide_eq_true (by kernel_rfl)) (by unfold Func.isWrapper; first | (rw [if_pos (by decide +kernel)]; kernel_rfl) | (rw [if_neg (by decide +kernel)]; exact ⟨rfl, rfl⟩))
    (fun os started H enc _ => law47Minimals_lifted os started H enc)
#print axioms law47Minimals_holds
end Go.Proofs.YtcppcfinnbeboaaGreat
