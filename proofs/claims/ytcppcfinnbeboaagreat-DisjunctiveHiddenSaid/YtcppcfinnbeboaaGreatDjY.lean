/- Law 47: disjunctive.Narrow. -/
import Derived.Test.YtcppcfinnbeboaaGreatDjN
namespace Go.Proofs.YtcppcfinnbeboaaGreat
open Go.RowKit Go.Shelf

/-! ### a least number -/
theorem least_ex {p : Nat → Prop} : ∀ k, p k → ∃ m, p m ∧ ∀ j, p j → m ≤ j := by
  intro k
  induction k using Nat.strongRecOn with
  | ind k ih =>
    intro h
    by_cases h2 : ∃ j, j < k ∧ p j
    · obtain ⟨j, h3, h4⟩ := h2
      exact ih j h3 h4
    · exact ⟨k, h, fun j hj => by
        rcases Nat.lt_or_ge j k with h3 | h3
        · exact absurd ⟨j, h3, hj⟩ h2
        · exact h3⟩
open Classical in
noncomputable def leastK (p : Nat → Prop) : Nat := if h : ∃ m, p m ∧ ∀ j, p j → m ≤ j then h.choose else 0
theorem leastK_spec {p : Nat → Prop} {k : Nat} (h : p k) : p (leastK p) ∧ leastK p ≤ k := by
  have he := least_ex k h
  unfold leastK
  rw [dif_pos he]
  exact ⟨he.choose_spec.1, he.choose_spec.2 k h⟩
theorem hulls_ok {n : Nat} {cs : List Cho} (h : ∀ i, i < cs.length → ChoN (n : Int) (cho cs i)) : ∀ k, k ≤ cs.length → (hullsF cs k).all (bndB (n : Int)) = true
  | 0, _ => rfl
  | k + 1, hk => by
    rw [hullsF, List.all_append, hulls_ok h k (by omega), Bool.true_and]
    obtain ⟨h1, h2, h3, h4, h5, h6, h7⟩ := h k (by omega)
    have h8 := loH_near h7 (by omega) (cho cs k).2.2.length (Nat.le_refl _)
    have h9 := hiH_near h7 (by omega) (cho cs k).2.2.length (Nat.le_refl _)
    simp only [hull2, List.all_cons, List.all_nil, Bool.and_true, Bool.and_eq_true, bndB, decide_eq_true_eq]
    omega
def NarRet (r : Option (List Cho)) (w : World) (e : Ending) (w' : World) : Prop :=
  match r with
  | none => e = .returned (.tuple #[.slice none 0 0, .int .i64 17]) ∧ Below w.heap.size w w'
  | some cs => ∃ v S, e = .returned (.tuple #[v, .int .i64 0]) ∧ OutAt w' w.heap.size v cs S ∧ Below w.heap.size w w'
/-- The state of the narrowing's loop, k rounds ahead of its end. -/
def NarSt (n : Nat) (r : Option (List Cho)) (w : World) (k : Nat) (o : Value) (W : World) : Prop := ∃ cs S, Nar n k cs r ∧ OutAt W w.heap.size o cs S ∧ Below w.heap.size w W
theorem nar_none {n k : Nat} {cs : List Cho} {r : Option (List Cho)} (h : Nar n k cs r) (hn : nextD n cs = none) : r = none := by
  cases h with
  | fail _ _ => rfl
  | fix _ h2 => rw [hn] at h2; cases h2
  | step _ h2 _ => rw [hn] at h2; cases h2
theorem nar_fix {n k : Nat} {cs cs' : List Cho} {r : Option (List Cho)} (h : Nar n k cs r) (hn : nextD n cs = some (cs', false)) : r = some cs' := by
  cases h with
  | fail _ h2 => rw [hn] at h2; cases h2
  | fix _ h2 => rw [hn] at h2; injection h2 with h2; injection h2 with h2; rw [h2]
  | step _ h2 _ => rw [hn] at h2; injection h2 with h2; injection h2 with _ h2; cases h2
theorem nar_step {n k : Nat} {cs cs' : List Cho} {r : Option (List Cho)} (h : Nar n k cs r) (hn : nextD n cs = some (cs', true)) : ∃ j, k = j + 1 ∧ Nar n j cs' r := by
  cases h with
  | fail _ h2 => rw [hn] at h2; cases h2
  | fix _ h2 => rw [hn] at h2; injection h2 with h2; injection h2 with _ h2; cases h2
  | step _ h2 h3 => rw [hn] at h2; injection h2 with h2; injection h2 with h2 _; subst h2; exact ⟨_, rfl, h3⟩
set_option maxRecDepth 100000 in
set_option maxHeartbeats 16000000 in
theorem djNarrow_c (n : Nat) (v : Value) (l : List Cho) (w : World) (hs : IsChos w v l) (hn : n < 24) (hv : netB ((n + 1 : Nat) : Int) l = true) {k : Nat} {r : Option (List Cho)} (h : Nar (n + 1) k l r) : Calls Tryz.prog 23 #[.int .i64 ((n + 1 : Nat) : Int), v] w (NarRet r w) := by
  have KV := Lib.hid (djValid_c ((n + 1 : Nat) : Int) v l w hs)
  rw [hv] at KV
  have hst := h.st
  have KC : Hid (∀ X, Below w.heap.size w X → Calls Tryz.prog 39 #[v] X (CloneRet l X)) := Lib.hid fun X hb => slCloneChoice_c v l X (hs.below hb) (by have := hst.1; omega) (fun i hi => by have := (hst.2 i hi).2.2.2.2.1; omega)
  have KH : Hid (∀ X u cs, StOk (n + 1) cs → IsChos X u cs → Calls Tryz.prog 41 #[u] X (HullRet cs X)) := Lib.hid fun X u cs h1 h2 => djhulls_c ((n + 1 : Nat) : Int) u cs X h2 h1.1 h1.2
  have KT : Hid (∀ X u cs, StOk (n + 1) cs → IsBnds X u (hullsF cs cs.length) → Calls Tryz.prog 40 #[.int .i64 ((n + 1 : Nat) : Int), u] X (TightRet (n + 1) (tightF (n + 1) (hullsF cs cs.length)) X)) := Lib.hid fun X u cs h1 h2 => bdTight_c n u _ X h2 hn (hulls_ok h1.2 _ (Nat.le_refl _)) (by rw [hullsF_len]; have := h1.1; omega)
  have HLow : Hid (∀ cs M, tightF (n + 1) (hullsF cs cs.length) = some M → ∀ i j, i < n + 1 → j < n + 1 → -68719476736 ≤ M i j) := Lib.hid fun cs M h => tightF_low h
  obtain ⟨N, hN⟩ : ∃ N, N = n + 1 := ⟨_, rfl⟩
  rw [← hN] at KV KH KT HLow h ⊢
  have HN24 := Lib.hid (show N ≤ 24 by omega)
  have Hh := Lib.hid h
  clear hN hs hn hv hst h
  go_enter Tryz.func23, Tryz.ntmps23
  go_wp2_with fail
  refine KV.out.mono ?_
  rintro e w1 ⟨rfl, hb⟩
  go_wp2_with fail
  refine (KC.out _ hb).mono ?_
  rintro e w2 ⟨o, S0, rfl, ho, hb2⟩
  have hst0 : NarSt N r w k o w2 := ⟨l, S0, Hh.out, by
    rcases ho with h | ⟨g, cap, h1, h2, h3, h4, h5⟩
    · exact .inl h
    · exact .inr ⟨g, cap, h1, h2, h3, Nat.le_trans hb.size h4, h5⟩, hb.trans (hb2.mono hb.size)⟩
  have Hst0 := Lib.hid hst0
  clear hb hb2 ho hst0 KC KV Hh
  go_wp2_with fail
  go_loopw [9] (fun _ wr => ∃ k', NarSt N r w k' o wr) (fun _ wr => leastK fun k' => NarSt N r w k' o wr)
  case atStart => exact ⟨_, Hst0.out⟩
  case round =>
    obtain ⟨k', hst⟩ := hrel
    have hst : NarSt N r w (leastK fun k' => NarSt N r w k' o wr) o wr := (leastK_spec (p := fun k' => NarSt N r w k' o wr) hst).1
    obtain ⟨k0, hk0⟩ : ∃ y, y = leastK fun k' => NarSt N r w k' o wr := ⟨_, rfl⟩
    rw [← hk0] at hst
    have Hk0 := Lib.hid hk0
    clear hk0 Hst0
    obtain ⟨cs, S, hN, ho, hb⟩ := hst
    have hsk := hN.st
    have HN := Lib.hid hN; have Ho := Lib.hid ho; have Hb := Lib.hid hb; have Hsk := Lib.hid hsk
    have hch := ho.chos
    clear hN ho hb hsk
    go_wp2_with fail
    refine (KH.out _ _ cs Hsk.out hch).mono ?_
    rintro e w3 ⟨vb, rfl, hvb, hb3⟩
    have Hb3 := Lib.hid hb3
    clear hb3 hch
    go_wp2_with fail
    refine (KT.out _ _ cs Hsk.out hvb).mono ?_
    rintro e w4 hT
    clear hvb
    cases htf : tightF N (hullsF cs cs.length) with
    | none =>
      rw [htf] at hT
      obtain ⟨rfl, hb4⟩ := hT
      have hr : r = none := nar_none HN.out (by unfold nextD; rw [htf])
      have HbF := Lib.hid (Hb.out.trans ((Hb3.out.trans (hb4.mono Hb3.out.size)).mono Hb.out.size))
      have Hr := Lib.hid hr
      clear hr hb4 htf
      go_wp2_with fail
      go_ret2
      rw [Hr.out]
      exact ⟨rfl, HbF.out⟩
    | some M =>
      rw [htf] at hT
      obtain ⟨b, G, C, rfl, hm, hb4⟩ := hT
      have hnx : ∀ c, okTo M cs cs.length = c → nextD N cs = if c then some (roundTo M cs cs.length, chTo M cs cs.length) else none := fun c hc => by
        unfold nextD
        rw [htf]
        simp only [hc]
      have hlow := HLow.out cs M htf
      have hbF := Hb.out.trans ((Hb3.out.trans (hb4.mono Hb3.out.size)).mono Hb.out.size)
      have ho4 := (Ho.out.below Hb3.out).below hb4
      have Hnx := Lib.hid hnx; have Hlow := Lib.hid hlow
      have HbF := Lib.hid hbF; have Ho4 := Lib.hid ho4; have Hm4 := Lib.hid hm; have Hw34 := Lib.hid (show wr.heap.size ≤ w3.heap.size from Hb3.out.size)
      have hgw : ∀ g, ChosAt wr g cs S → g < wr.heap.size := fun g h => h.lt
      obtain ⟨A, c, rfl, _, _⟩ : ∃ A c, o = .slice A cs.length c ∧ True ∧ True := by
        rcases ho4 with ⟨rfl, A, c, rfl, _⟩ | ⟨g, cap, rfl, _⟩
        · exact ⟨A, c, rfl, trivial, trivial⟩
        · exact ⟨_, _, rfl, trivial, trivial⟩
      have hgA : ∀ g0, A = some ⟨g0, 0, none⟩ → 0 < cs.length → g0 < w3.heap.size := fun g0 h1 h2 => by
        rcases Ho.out with ⟨h3, _⟩ | ⟨g', cap, h3, _, _, _, h4⟩
        · rw [h3] at h2; cases h2
        · injection h3 with h5 _ _
          rw [h1] at h5
          injection h5 with h5
          injection h5 with h5
          rw [h5]
          exact Nat.lt_of_lt_of_le h4.lt Hw34.out
      have HgA := Lib.hid hgA
      clear hnx hlow hbF ho4 hm hb4 htf hgw Hb3 hgA
      go_wp2_with fail
      go_loopw [9, 34] (fun ch i wq => ∃ (j : Nat) (S' : Nat → Value), i = .int .i64 (j : Int) ∧ j ≤ cs.length ∧ ch = .bool (chTo M cs j) ∧ Hid (okTo M cs j = true) ∧ OutAt wq w.heap.size (.slice A cs.length c) (roundTo M cs j) S' ∧ MatAt wq w3.heap.size b N N G C M ∧ Below w.heap.size w wq) (fun _ i _ => cs.length - (intOf i).toNat)
      case atStart => exact ⟨0, S, rfl, Nat.zero_le _, rfl, Lib.hid rfl, Ho4.out, Hm4.out, HbF.out⟩
      case round =>
        obtain ⟨j, S', rfl, hj, rfl, HA, ho, hm, hb⟩ := hrel
        rcases Nat.lt_or_ge j cs.length with hjl | hjl
        rotate_left
        · obtain rfl : j = cs.length := by omega
          have j0 : decide ((cs.length : Int) < (cs.length : Int)) = false := decide_eq_false (by omega)
          have hnx := Hnx.out true HA.out
          have Ho5 := Lib.hid ho; have Hb5 := Lib.hid hb
          clear ho hm hb hj hjl
          cases hc : chTo M cs cs.length
          · rw [hc] at hnx
            have hr : r = some (roundTo M cs cs.length) := nar_fix HN.out (by rw [hnx]; rfl)
            have Hr := Lib.hid hr
            clear hnx hr hc
            go_wp2_with fail
            go_ret2
            rw [Hr.out]
            exact ⟨_, _, rfl, Ho5.out, Hb5.out⟩
          · rw [hc] at hnx
            obtain ⟨k1, hk1, hN2⟩ := nar_step HN.out (show nextD N cs = some (roundTo M cs cs.length, true) from by rw [hnx]; rfl)
            have hstN : NarSt N r w k1 (.slice A cs.length c) wr := ⟨_, _, hN2, Ho5.out, Hb5.out⟩
            have HstN := Lib.hid hstN; have Hk1 := Lib.hid hk1
            clear hnx hc hN2 hstN hk1
            go_wp2_with fail
            go_roundw
            case rel => exact ⟨k1, HstN.out⟩
            case measure =>
              have h1 := (leastK_spec (p := fun k' => NarSt N r w k' (.slice A cs.length c) wr) HstN.out).2
              have h2 := Hk0.out
              have h3 := Hk1.out
              omega
        have j0 : decide ((j : Int) < (cs.length : Int)) = true := decide_eq_true (by omega)
        have j1 : IntKind.i64.wrap ((j : Int) + 1) = (j : Int) + 1 := by rw [IntKind.wrap_i64]; have := Hsk.out.1; omega
        have j2 : (0 : Int) ≤ (j : Int) := by omega
        have j3 : (j : Int) < (cs.length : Int) := by omega
        rcases ho with ⟨h0, _⟩ | ⟨g, cap, he, hcap1, hcap2, hgw, hca⟩
        · have := roundTo_len M cs j
          rw [h0] at this
          simp at this
          omega
        rw [roundTo_len] at he hcap1
        injection he with e1 e2 e3
        subst e1 e3
        have hjR : j < (roundTo M cs j).length := by rw [roundTo_len]; exact hjl
        have hcg : cho (roundTo M cs j) j = cho cs j := by rw [roundTo_get M cs j hj j, if_neg (by omega)]
        have d0 := hca.c0 j hjR
        have d1 := hca.c1 j hjR
        have d2 := hca.c2 j hjR
        have hsp := hca.spans j hjR
        have hsg := hca.off j hjR
        rw [hcg] at d0 d1 hsp
        have hcv := Hsk.out.2 j hjl
        have hg3 : g < w3.heap.size := HgA.out g rfl (by omega)
        have hr1 : roundTo M cs (j + 1) = setC (roundTo M cs j) j (cutC M (cho cs j)) := rfl
        have hch1 : chTo M cs (j + 1) = (chTo M cs j || !decide (cutC M (cho cs j) = (cho cs j).2.2)) := any_range_succ _ j
        have hok1 : okTo M cs (j + 1) = (okTo M cs j && !decide (cutC M (cho cs j) = [])) := by unfold okTo; rw [List.range_succ, List.all_append]; simp
        have hno : cutC M (cho cs j) = [] → r = none := fun h => nar_none HN.out (by
          have := Hnx.out false (by
            unfold okTo
            rw [Bool.eq_false_iff]
            intro h2
            have h3 := List.all_eq_true.1 h2 j (by simpa using hjl)
            rw [h] at h3
            simp at h3)
          rw [this]
          rfl)
        have hsame : cutC M (cho cs j) = (cho cs j).2.2 → roundTo M cs (j + 1) = roundTo M cs j := fun h => by
          rw [hr1, h, ← hcg]
          exact setC_same hjR
        generalize hy : cho cs j = y at d0 d1 hsp hcv hr1 hch1 hok1 hno hsame hcg
        clear hy
        generalize hsv : S' j = sv at d2 hsp hsg
        clear hsv
        obtain ⟨I0, J0, sp⟩ := y
        unfold ChoN at hcv
        simp only at d0 d1 hsp hcv hno hsame hch1 hok1
        obtain ⟨v0, v1, v2, v3, v4, v5, v6⟩ := hcv
        obtain ⟨A1, cp, rfl, _, _⟩ := hsp.form
        obtain ⟨p, rfl⟩ : ∃ p : Nat, I0 = (p : Int) := ⟨I0.toNat, by omega⟩
        obtain ⟨q, rfl⟩ : ∃ q : Nat, J0 = (q : Int) := ⟨J0.toNat, by omega⟩
        have hp : p < N := by omega
        have hq : q < N := by omega
        obtain ⟨W1, hW1⟩ : ∃ y, y = wr.alloc (.cells #[.int .i64 (p : Int), .int .i64 (q : Int), .slice A1 sp.length cp] 31) := ⟨_, rfl⟩
        obtain ⟨b11, hb11⟩ : ∃ y, y = wr.heap.size := ⟨_, rfl⟩
        have hbW : Below wr.heap.size wr W1 := by rw [hW1]; exact (Below.refl _ _).alloc (Nat.le_refl _) _
        have hT : W1.heap[b11]? = some (.cells #[.int .i64 (p : Int), .int .i64 (q : Int), .slice A1 sp.length cp] 31 (0, 0)) := by rw [hW1, hb11]; exact heap_alloc_new wr _
        have hsp1 := hsp.below hbW
        have x2 := blk_get hT 2
        simp at x2
        have HW1 := Lib.hid hW1; have Hb11 := Lib.hid hb11; have HbW := Lib.hid hbW; have HT11 := Lib.hid hT
        have Hm := Lib.hid hm; have Hca := Lib.hid hca; have Hb := Lib.hid hb; have Hsp1 := Lib.hid hsp1; have Hjl := Lib.hid hjl; have HjR := Lib.hid hjR
        have Hp := Lib.hid hp; have Hq := Lib.hid hq; have V5 := Lib.hid v5; have V6 := Lib.hid v6; have Hg3 := Lib.hid hg3; have Hsg := Lib.hid hsg; have Hgw := Lib.hid hgw; have Hc1 := Lib.hid hcap1; have Hc2 := Lib.hid hcap2
        have Hr1 := Lib.hid hr1; have Hch1 := Lib.hid hch1; have Hok1 := Lib.hid hok1; have Hno := Lib.hid hno; have Hsame := Lib.hid hsame; have Hcg := Lib.hid hcg
        have p0 : (p : Int) < (N : Int) := by omega
        have p1 : (0 : Int) ≤ (p : Int) := by omega
        have q0 : (q : Int) < (N : Int) := by omega
        have q1 : (0 : Int) ≤ (q : Int) := by omega
        have m1 := Hlow.out q p hq hp
        have w1 : M q p < 4398046511104 → IntKind.i64.wrap (-(M q p)) = -(M q p) := fun h => by rw [IntKind.wrap_i64]; omega
        have m2 := Hlow.out p q hp hq
        have w2 : M p q < 4398046511104 → IntKind.i64.wrap (M p q + 1) = M p q + 1 := fun h => by rw [IntKind.wrap_i64]; omega
        have Hw1 := Lib.hid w1; have Hw2 := Lib.hid w2
        clear hW1 hb11 hbW hT hsp1 hm hca hb hsp hjl hjR hp hq v0 v1 v2 v3 v4 v5 v6 hg3 hsg hgw hcap1 hcap2 hr1 hch1 hok1 hno hsame hcg m1 m2 w1 w2 hj
        go_wp2_with fail
        rw [← HW1.out, ← Hb11.out]
        refine (rOf_c _ sp _ Hsp1.out (by have := V5.out; omega)).mono ?_
        rintro e W2 ⟨rr, hof, vm, rfl, hvm, hb2⟩
        obtain ⟨mm, rfl, hvv, hm16, hmm⟩ := cut_of V6.out V5.out hof
        simp only at hvm
        obtain ⟨Am, cm, rfl, _, _⟩ := hvm.form
        have FC : Hid (∀ X, Below W2.heap.size W2 X → X.cell? ⟨b11, 0, none⟩ = some (.int .i64 (p : Int)) ∧ X.cell? ⟨b11, 1, none⟩ = some (.int .i64 (q : Int)) ∧ X.cell? ⟨b11, 2, none⟩ = some (.slice A1 sp.length cp)) := Lib.hid fun X h => by
          have f1 := (hb2.block _ (blk_lt HT11.out)).trans HT11.out
          have f := (h.block _ (blk_lt f1)).trans f1
          exact ⟨blk_get f 0, blk_get f 1, blk_get f 2⟩
        have FM : Hid (∀ X, Below W2.heap.size W2 X → MatAt X w3.heap.size b N N G C M) := Lib.hid fun X h => ((Hm.out.below HbW.out).below hb2).below h
        have FO : Hid (∀ X, Below W2.heap.size W2 X → ChosAt X g (roundTo M cs j) S') := Lib.hid fun X h => ((Hca.out.below HbW.out).below hb2).below h
        have FSp : Hid (∀ X, Below W2.heap.size W2 X → IsSpans X (.slice A1 sp.length cp) sp) := Lib.hid fun X h => (Hsp1.out.below hb2).below h
        have FVm : Hid (∀ X, Below W2.heap.size W2 X → IsSpans X (.slice Am mm.length cm) mm) := Lib.hid fun X h => hvm.below h
        have hbF := Hb.out.trans ((HbW.out.trans (hb2.mono HbW.out.size)).mono Hb.out.size)
        have FB : Hid (∀ X, Below W2.heap.size W2 X → Below w.heap.size w X) := Lib.hid fun X h => hbF.trans (h.mono hbF.size)
        have HgS := Lib.hid (show g < W2.heap.size from (((Hca.out.below HbW.out).below hb2).lt))
        obtain ⟨W4, hW4⟩ : ∃ y, y = W2.alloc (.cells #[.int .i64 (-4398046511104), .int .i64 4398046511104] 48) := ⟨_, rfl⟩
        obtain ⟨b14, hb14⟩ : ∃ y, y = W2.heap.size := ⟨_, rfl⟩
        have Kb4 : Hid (Below W2.heap.size W2 W4) := Lib.hid (by rw [hW4]; exact (Below.refl _ _).alloc (Nat.le_refl _) _)
        have HT14 : Hid (W4.heap[b14]? = some (.cells #[.int .i64 (-4398046511104), .int .i64 4398046511104] 48 (0, 0))) := Lib.hid (by rw [hW4, hb14]; exact heap_alloc_new W2 _)
        have r0 := (FC.out _ Kb4.out.drew).1
        have r1 := (FC.out _ Kb4.out.drew).2.1
        have r2 := (FM.out _ Kb4.out.drew).head q Hq.out
        have r3 := (FM.out _ Kb4.out.drew).cell q p Hq.out Hp.out
        have HW4 := Lib.hid hW4; have Hb14 := Lib.hid hb14; have Hvv := Lib.hid hvv; have H16 := Lib.hid hm16; have Hmm := Lib.hid hmm
        clear hb2 hvm hbF hW4 hb14 x2 hvv hm16 hmm hof
        go_wp2_with fail
        rw [← HW4.out, ← Hb14.out]
        cases hJ0 : decide (M q p < 4398046511104) <;> cases hI0 : decide (M p q < 4398046511104)
        · have hJ : decide (M q p < 4398046511104) = false := hJ0
          have hI : decide (M p q < 4398046511104) = false := hI0
          clear hJ0 hI0
          have hlo : loD M (p, q, sp) = -4398046511104 := by
            unfold loD noneD
            simp only [Int.toNat_natCast]
            rw [if_neg (of_decide_eq_false hJ)]
          have hhi : hiD M (p, q, sp) = 4398046511104 := by
            unfold hiD noneD
            simp only [Int.toNat_natCast]
            rw [if_neg (of_decide_eq_false hI)]
          have Hlo := Lib.hid hlo; have Hhi := Lib.hid hhi
          clear hlo hhi
          skip
          skip
          go_still (by kernel_rfl)
          have hrec : ({ heap := W4.heap, tape := W4.tape, drawn := W4.drawn + 1, os := W4.os, output := W4.output } : World) = W4.drew := rfl
          rw [hrec]
          clear hrec r0 r1 r2 r3
          have kb := (Kb4.out).drew
          have T14 : W4.drew.heap[b14]? = some (.cells #[.int .i64 (-4398046511104), .int .i64 4398046511104] 48 (0, 0)) := HT14.out
          generalize W4.drew = W5 at kb T14 ⊢
          have Kb6 := Lib.hid kb; have HT6 := Lib.hid T14
          clear kb T14
          go_wp2_with fail
          obtain ⟨W6, hW6⟩ : ∃ y, y = W5 := ⟨_, rfl⟩
          rw [← hW6] at Kb6 HT6 ⊢
          have r0 := (FC.out _ Kb6.out.drew).1
          have r1 := (FC.out _ Kb6.out.drew).2.1
          have r2 := (FM.out _ Kb6.out.drew).head p Hp.out
          have r3 := (FM.out _ Kb6.out.drew).cell p q Hp.out Hq.out
          clear hW6
          go_still (by kernel_rfl)
          have hrec : ({ heap := W6.heap, tape := W6.tape, drawn := W6.drawn + 1, os := W6.os, output := W6.output } : World) = W6.drew := rfl
          rw [hrec]
          clear hrec r0 r1 r2 r3
          have kb := (Kb6.out).drew
          have T14 : W6.drew.heap[b14]? = some (.cells #[.int .i64 (-4398046511104), .int .i64 4398046511104] 48 (0, 0)) := by first | exact HT6.out | (have := HT6.out; simpa using this)
          generalize W6.drew = W7 at kb T14 ⊢
          have x0 := blk_get T14 0
          have x1 := blk_get T14 1
          simp at x0 x1
          obtain ⟨W8, hW8⟩ : ∃ y, y = W7 := ⟨_, rfl⟩
          rw [← hW8] at kb x0 x1 ⊢
          have Kb8 := Lib.hid kb
          clear hW8 kb T14
          go_wp2_with fail
          clear x0 x1
          have hlo9 := Hlo.out
          have hhi9 := Hhi.out
          clear Hlo Hhi Hw1 Hw2 hJ hI
          try clear w1
          try clear w2
          generalize (((-4398046511104) : Int)) = lo at hlo9 ⊢
          generalize (((4398046511104) : Int)) = hi at hhi9 ⊢
          have Hlo9 := Lib.hid hlo9; have Hhi9 := Lib.hid hhi9
          clear hlo9 hhi9
          have hal : Below W2.heap.size W2 (W8.alloc (.cells #[.int .i64 lo, .int .i64 hi] 48)) := Kb8.out.alloc Kb8.out.size _
          have hin := spans_one (w := W8) lo hi 48
          have KM := rMeet_c (.slice Am mm.length cm) (.slice (some ⟨W8.heap.size, 0, none⟩) 1 1) mm [(lo, hi)] _ (FVm.out _ hal) hin
          have KO : okSpan (lo, hi) = true → Calls Tryz.prog 43 #[.slice Am mm.length cm, .slice (some ⟨W8.heap.size, 0, none⟩) 1 1] (W8.alloc (.cells #[.int .i64 lo, .int .i64 hi] 48)) (fun e w' => ∃ r, OpSpec gMeet mm [(lo, hi)] r ∧ RetLEO (W8.alloc (.cells #[.int .i64 lo, .int .i64 hi] 48)) r e w') := fun h => rMeetO_c _ _ mm _ _ (FVm.out _ hal) hin Hvv.out (by
            rw [validB_iff]
            exact ⟨by simp, fun s hs => by rw [List.mem_singleton.1 hs]; exact (okSpan_iff _).1 h, List.pairwise_singleton _ _⟩)
          have hcut : cutC M ((p : Int), (q : Int), sp) = if okSpan (lo, hi) = true then cutD sp lo hi else [] := by
            unfold cutC
            rw [Hlo9.out, Hhi9.out]
          have Hal := Lib.hid hal; have KM := Lib.hid KM; have KO := Lib.hid KO; have Hcut := Lib.hid hcut
          clear hal hin hcut
          cases ho : okSpan (lo, hi)
          · have hr := Hno.out (by rw [Hcut.out, ho]; rfl)
            have Hr := Lib.hid hr
            refine KM.out.mono ?_
            rintro e W9 ⟨r9, hsp9, v9, rfl, hv9, hb9⟩
            have hr9 : r9 = ([], 1) := by
              unfold OpSpec at hsp9
              rwa [if_neg] at hsp9
              intro h2
              simp only [Bool.and_eq_true] at h2
              have h3 := ((validB_iff _).1 h2.2).2.1 _ (List.mem_singleton.2 rfl)
              rw [(okSpan_iff _).2 h3] at ho
              cases ho
            subst hr9
            have HbF := Lib.hid (FB.out _ (Hal.out.trans (hb9.mono Hal.out.size)))
            clear hr ho hsp9 hv9 hb9
            go_wp2_with fail
            go_ret2
            rw [Hr.out]
            exact ⟨rfl, HbF.out⟩
          refine (KO.out ho).mono ?_
          rintro e W9 ⟨r9, hsp9, v9, rfl, hv9, hb9⟩
          obtain rfl := cut_meet Hmm.out Hvv.out H16.out ho hsp9
          obtain ⟨cut, hcd⟩ : ∃ c, c = cutD sp lo hi := ⟨_, rfl⟩
          rw [← hcd] at hv9 ⊢
          simp only at hv9
          have hcc : cutC M ((p : Int), (q : Int), sp) = cut := by rw [Hcut.out, if_pos ho, hcd]
          have Hno2 : Hid (cut = [] → r = none) := Lib.hid (by rw [← hcc]; exact Hno.out)
          have Hsame2 : Hid (cut = sp → roundTo M cs (j + 1) = roundTo M cs j) := Lib.hid (by rw [← hcc]; exact Hsame.out)
          have Hr2 : Hid (roundTo M cs (j + 1) = setC (roundTo M cs j) j cut) := Lib.hid (by rw [← hcc]; exact Hr1.out)
          have Hch2 : Hid (chTo M cs (j + 1) = (chTo M cs j || !decide (cut = sp))) := Lib.hid (by rw [← hcc]; exact Hch1.out)
          have Hok2 : Hid (okTo M cs (j + 1) = (okTo M cs j && !decide (cut = []))) := Lib.hid (by rw [← hcc]; exact Hok1.out)
          have k9 := Hal.out.trans (hb9.mono Hal.out.size)
          have hsb := sblk_own hv9
          have hi9 := spans_of_own hv9
          obtain ⟨A9, c9, rfl, _, _⟩ := hi9.form
          have K9 := Lib.hid k9; have Hsb := Lib.hid hsb; have Hi9 := Lib.hid hi9
          have Hbase := Lib.hid (Hal.out.size)
          clear ho hsp9 hv9 hb9 hcc k9 hsb hi9 KM KO hcd Hcut Hno Hsame Hr1 Hch1 Hok1
          rcases Nat.eq_zero_or_pos cut.length with hz | hz
          · have hr := Hno2.out (List.length_eq_zero_iff.1 hz)
            have Hr := Lib.hid hr
            have HbF := Lib.hid (FB.out _ K9.out)
            have hzb : ((cut.length : Int) == 0) = true := by rw [beq_iff_eq]; omega
            clear hr hz
            go_wp2_with fail
            go_ret2
            rw [Hr.out]
            exact ⟨rfl, HbF.out⟩
          have hzb : ((cut.length : Int) == 0) = false := by rw [beq_eq_false_iff_ne]; omega
          have Hz := Lib.hid hz
          have f2 := (FC.out _ K9.out).2.2
          have KE : Hid (Calls Tryz.prog 26 #[.slice A9 cut.length c9, .slice A1 sp.length cp] W9 (Ret W9 (.bool (sameL cut sp)))) := Lib.hid (slEqualSpan_c _ _ cut sp W9 Hi9.out (FSp.out _ K9.out))
          clear hz
          cases hse : sameL cut sp
          · rw [hse] at KE
            have hne : cut ≠ sp := fun h => by rw [(sameL_iff _ _).2 h] at hse; cases hse
            have Hne := Lib.hid hne
            clear hse hne
            go_wp2_with fail
            refine KE.out.mono ?_
            rintro e Wq ⟨rfl, hbq⟩
            have kq := K9.out.trans (hbq.mono K9.out.size)
            have hcq := FO.out _ kq
            have hmq := FM.out _ kq
            have hbw := FB.out _ kq
            have hiq := Hi9.out.below hbq
            have hoff : sblk (.slice A9 cut.length c9) ≠ some g := fun h => by
              have h1 := Hsb.out g h
              have h2 := Hbase.out
              have h3 := HgS.out
              omega
            have hset := hcq.set j HjR.out cut (.slice A9 cut.length c9) hiq hoff
            have hbg : b ≠ g := fun h => by have := hmq.lob; have := Hg3.out; omega
            have hmS : MatAt (Wq.setCell ⟨g, j * 3 + 2, none⟩ (.slice A9 cut.length c9)) w3.heap.size b N N G C M := hmq.blocks (blk_oth hbg _ _) fun i hi => blk_oth (fun h => by have := hmq.log i hi; have := Hg3.out; omega) _ _
            have hbS : Below w.heap.size w (Wq.setCell ⟨g, j * 3 + 2, none⟩ (.slice A9 cut.length c9)) := hbw.setCell (p := ⟨g, j * 3 + 2, none⟩) Hgw.out _
            have hoS : OutAt (Wq.setCell ⟨g, j * 3 + 2, none⟩ (.slice A9 cut.length c9)) w.heap.size (.slice (some ⟨g, 0, none⟩) cs.length c) (roundTo M cs (j + 1)) (fun i => if i = j then .slice A9 cut.length c9 else S' i) := by
              refine .inr ⟨g, c, by rw [roundTo_len], by rw [roundTo_len]; exact Hc1.out, Hc2.out, Hgw.out, ?_⟩
              rw [Hr2.out]
              exact hset
            have y0 := hcq.soft (j * 3 + 2)
            have y1 := hcq.c2 j HjR.out
            have hck : okTo M cs (j + 1) = true := by
              rw [Hok2.out, HA.out, decide_eq_false (fun h => by have := Hz.out; rw [h] at this; cases this)]
              rfl
            have hcf : chTo M cs (j + 1) = true := by rw [Hch2.out, decide_eq_false Hne.out]; simp
            have HmS := Lib.hid hmS; have HbS := Lib.hid hbS; have HoS := Lib.hid hoS; have Hck := Lib.hid hck; have Hcf := Lib.hid hcf
            clear hbq kq hcq hmq hbw hiq hoff hset hbg hmS hbS hoS hck hcf f2
            go_wp2_with fail
            go_roundw
            case rel => exact ⟨j + 1, _, by go_num, Hjl.out, by rw [Hcf.out], Hck, HoS.out, HmS.out, HbS.out⟩
            case measure => have := Hjl.out; simp [intOf]; omega
          · rw [hse] at KE
            have hes := (sameL_iff _ _).1 hse
            have hck : okTo M cs (j + 1) = true := by
              rw [Hok2.out, HA.out, decide_eq_false (fun h => by have := Hz.out; rw [h] at this; cases this)]
              rfl
            have hcf : chTo M cs (j + 1) = chTo M cs j := by rw [Hch2.out, decide_eq_true hes]; simp
            have hrf := Hsame2.out hes
            have Hck := Lib.hid hck; have Hcf := Lib.hid hcf; have Hrf := Lib.hid hrf
            clear hse hes hck hcf hrf
            go_wp2_with fail
            refine KE.out.mono ?_
            rintro e Wq ⟨rfl, hbq⟩
            have kq := K9.out.trans (hbq.mono K9.out.size)
            have hoS : OutAt Wq w.heap.size (.slice (some ⟨g, 0, none⟩) cs.length c) (roundTo M cs (j + 1)) S' := by
              refine .inr ⟨g, c, by rw [roundTo_len], by rw [roundTo_len]; exact Hc1.out, Hc2.out, Hgw.out, ?_⟩
              rw [Hrf.out]
              exact FO.out _ kq
            have HmS := Lib.hid (FM.out _ kq); have HbS := Lib.hid (FB.out _ kq); have HoS := Lib.hid hoS
            clear hbq kq hoS f2
            go_wp2_with fail
            go_roundw
            case rel => exact ⟨j + 1, S', by go_num, Hjl.out, by rw [Hcf.out], Hck, HoS.out, HmS.out, HbS.out⟩
            case measure => have := Hjl.out; simp [intOf]; omega
        · have hJ : decide (M q p < 4398046511104) = false := hJ0
          have hI : decide (M p q < 4398046511104) = true := hI0
          clear hJ0 hI0
          have hlo : loD M (p, q, sp) = -4398046511104 := by
            unfold loD noneD
            simp only [Int.toNat_natCast]
            rw [if_neg (of_decide_eq_false hJ)]
          have hhi : hiD M (p, q, sp) = M p q + 1 := by
            unfold hiD noneD
            simp only [Int.toNat_natCast]
            rw [if_pos (of_decide_eq_true hI)]
          have Hlo := Lib.hid hlo; have Hhi := Lib.hid hhi
          clear hlo hhi
          skip
          have w2 := Hw2.out (of_decide_eq_true hI)
          go_still (by kernel_rfl)
          have hrec : ({ heap := W4.heap, tape := W4.tape, drawn := W4.drawn + 1, os := W4.os, output := W4.output } : World) = W4.drew := rfl
          rw [hrec]
          clear hrec r0 r1 r2 r3
          have kb := (Kb4.out).drew
          have T14 : W4.drew.heap[b14]? = some (.cells #[.int .i64 (-4398046511104), .int .i64 4398046511104] 48 (0, 0)) := HT14.out
          generalize W4.drew = W5 at kb T14 ⊢
          have Kb6 := Lib.hid kb; have HT6 := Lib.hid T14
          clear kb T14
          go_wp2_with fail
          obtain ⟨W6, hW6⟩ : ∃ y, y = W5 := ⟨_, rfl⟩
          rw [← hW6] at Kb6 HT6 ⊢
          have r0 := (FC.out _ Kb6.out.drew).1
          have r1 := (FC.out _ Kb6.out.drew).2.1
          have r2 := (FM.out _ Kb6.out.drew).head p Hp.out
          have r3 := (FM.out _ Kb6.out.drew).cell p q Hp.out Hq.out
          clear hW6
          go_still (by kernel_rfl)
          have hrec : ({ heap := W6.heap, tape := W6.tape, drawn := W6.drawn + 1, os := W6.os, output := W6.output } : World) = W6.drew := rfl
          rw [hrec]
          clear hrec r0 r1 r2 r3
          have kb := (Kb6.out).drew
          have T14 : W6.drew.heap[b14]? = some (.cells #[.int .i64 (-4398046511104), .int .i64 4398046511104] 48 (0, 0)) := by first | exact HT6.out | (have := HT6.out; simpa using this)
          generalize W6.drew = W7 at kb T14 ⊢
          have z1 := blk_soft T14 1
          have a1 := blk_get T14 1
          simp at a1
          have Kb8 := Lib.hid (kb.setCell (p := ⟨b14, 1, none⟩) (Nat.le_of_eq Hb14.out.symm) (.int .i64 (M p q + 1)))
          have hT8 := blk_set T14 1 (.int .i64 (M p q + 1))
          obtain ⟨W8, hW8⟩ : ∃ y, y = W7.setCell ⟨b14, 1, none⟩ (.int .i64 (M p q + 1)) := ⟨_, rfl⟩
          rw [← hW8] at Kb8 hT8
          have x0 := blk_get hT8 0
          have x1 := blk_get hT8 1
          simp at x0 x1
          have HW8 := Lib.hid hW8
          rw [hW8] at x0 x1
          clear kb T14 hT8 hW8
          go_wp2_with fail
          rw [← HW8.out]
          have hs78 : W7.heap.size = W8.heap.size := by rw [HW8.out]; simp [World.setCell]
          rw [hs78]
          clear z1 a1 x0 x1 hs78
          have hlo9 := Hlo.out
          have hhi9 := Hhi.out
          clear Hlo Hhi Hw1 Hw2 hJ hI
          try clear w1
          try clear w2
          generalize (((-4398046511104) : Int)) = lo at hlo9 ⊢
          generalize (((M p q + 1) : Int)) = hi at hhi9 ⊢
          have Hlo9 := Lib.hid hlo9; have Hhi9 := Lib.hid hhi9
          clear hlo9 hhi9
          have hal : Below W2.heap.size W2 (W8.alloc (.cells #[.int .i64 lo, .int .i64 hi] 48)) := Kb8.out.alloc Kb8.out.size _
          have hin := spans_one (w := W8) lo hi 48
          have KM := rMeet_c (.slice Am mm.length cm) (.slice (some ⟨W8.heap.size, 0, none⟩) 1 1) mm [(lo, hi)] _ (FVm.out _ hal) hin
          have KO : okSpan (lo, hi) = true → Calls Tryz.prog 43 #[.slice Am mm.length cm, .slice (some ⟨W8.heap.size, 0, none⟩) 1 1] (W8.alloc (.cells #[.int .i64 lo, .int .i64 hi] 48)) (fun e w' => ∃ r, OpSpec gMeet mm [(lo, hi)] r ∧ RetLEO (W8.alloc (.cells #[.int .i64 lo, .int .i64 hi] 48)) r e w') := fun h => rMeetO_c _ _ mm _ _ (FVm.out _ hal) hin Hvv.out (by
            rw [validB_iff]
            exact ⟨by simp, fun s hs => by rw [List.mem_singleton.1 hs]; exact (okSpan_iff _).1 h, List.pairwise_singleton _ _⟩)
          have hcut : cutC M ((p : Int), (q : Int), sp) = if okSpan (lo, hi) = true then cutD sp lo hi else [] := by
            unfold cutC
            rw [Hlo9.out, Hhi9.out]
          have Hal := Lib.hid hal; have KM := Lib.hid KM; have KO := Lib.hid KO; have Hcut := Lib.hid hcut
          clear hal hin hcut
          cases ho : okSpan (lo, hi)
          · have hr := Hno.out (by rw [Hcut.out, ho]; rfl)
            have Hr := Lib.hid hr
            refine KM.out.mono ?_
            rintro e W9 ⟨r9, hsp9, v9, rfl, hv9, hb9⟩
            have hr9 : r9 = ([], 1) := by
              unfold OpSpec at hsp9
              rwa [if_neg] at hsp9
              intro h2
              simp only [Bool.and_eq_true] at h2
              have h3 := ((validB_iff _).1 h2.2).2.1 _ (List.mem_singleton.2 rfl)
              rw [(okSpan_iff _).2 h3] at ho
              cases ho
            subst hr9
            have HbF := Lib.hid (FB.out _ (Hal.out.trans (hb9.mono Hal.out.size)))
            clear hr ho hsp9 hv9 hb9
            go_wp2_with fail
            go_ret2
            rw [Hr.out]
            exact ⟨rfl, HbF.out⟩
          refine (KO.out ho).mono ?_
          rintro e W9 ⟨r9, hsp9, v9, rfl, hv9, hb9⟩
          obtain rfl := cut_meet Hmm.out Hvv.out H16.out ho hsp9
          obtain ⟨cut, hcd⟩ : ∃ c, c = cutD sp lo hi := ⟨_, rfl⟩
          rw [← hcd] at hv9 ⊢
          simp only at hv9
          have hcc : cutC M ((p : Int), (q : Int), sp) = cut := by rw [Hcut.out, if_pos ho, hcd]
          have Hno2 : Hid (cut = [] → r = none) := Lib.hid (by rw [← hcc]; exact Hno.out)
          have Hsame2 : Hid (cut = sp → roundTo M cs (j + 1) = roundTo M cs j) := Lib.hid (by rw [← hcc]; exact Hsame.out)
          have Hr2 : Hid (roundTo M cs (j + 1) = setC (roundTo M cs j) j cut) := Lib.hid (by rw [← hcc]; exact Hr1.out)
          have Hch2 : Hid (chTo M cs (j + 1) = (chTo M cs j || !decide (cut = sp))) := Lib.hid (by rw [← hcc]; exact Hch1.out)
          have Hok2 : Hid (okTo M cs (j + 1) = (okTo M cs j && !decide (cut = []))) := Lib.hid (by rw [← hcc]; exact Hok1.out)
          have k9 := Hal.out.trans (hb9.mono Hal.out.size)
          have hsb := sblk_own hv9
          have hi9 := spans_of_own hv9
          obtain ⟨A9, c9, rfl, _, _⟩ := hi9.form
          have K9 := Lib.hid k9; have Hsb := Lib.hid hsb; have Hi9 := Lib.hid hi9
          have Hbase := Lib.hid (Hal.out.size)
          clear ho hsp9 hv9 hb9 hcc k9 hsb hi9 KM KO hcd Hcut Hno Hsame Hr1 Hch1 Hok1
          rcases Nat.eq_zero_or_pos cut.length with hz | hz
          · have hr := Hno2.out (List.length_eq_zero_iff.1 hz)
            have Hr := Lib.hid hr
            have HbF := Lib.hid (FB.out _ K9.out)
            have hzb : ((cut.length : Int) == 0) = true := by rw [beq_iff_eq]; omega
            clear hr hz
            go_wp2_with fail
            go_ret2
            rw [Hr.out]
            exact ⟨rfl, HbF.out⟩
          have hzb : ((cut.length : Int) == 0) = false := by rw [beq_eq_false_iff_ne]; omega
          have Hz := Lib.hid hz
          have f2 := (FC.out _ K9.out).2.2
          have KE : Hid (Calls Tryz.prog 26 #[.slice A9 cut.length c9, .slice A1 sp.length cp] W9 (Ret W9 (.bool (sameL cut sp)))) := Lib.hid (slEqualSpan_c _ _ cut sp W9 Hi9.out (FSp.out _ K9.out))
          clear hz
          cases hse : sameL cut sp
          · rw [hse] at KE
            have hne : cut ≠ sp := fun h => by rw [(sameL_iff _ _).2 h] at hse; cases hse
            have Hne := Lib.hid hne
            clear hse hne
            go_wp2_with fail
            refine KE.out.mono ?_
            rintro e Wq ⟨rfl, hbq⟩
            have kq := K9.out.trans (hbq.mono K9.out.size)
            have hcq := FO.out _ kq
            have hmq := FM.out _ kq
            have hbw := FB.out _ kq
            have hiq := Hi9.out.below hbq
            have hoff : sblk (.slice A9 cut.length c9) ≠ some g := fun h => by
              have h1 := Hsb.out g h
              have h2 := Hbase.out
              have h3 := HgS.out
              omega
            have hset := hcq.set j HjR.out cut (.slice A9 cut.length c9) hiq hoff
            have hbg : b ≠ g := fun h => by have := hmq.lob; have := Hg3.out; omega
            have hmS : MatAt (Wq.setCell ⟨g, j * 3 + 2, none⟩ (.slice A9 cut.length c9)) w3.heap.size b N N G C M := hmq.blocks (blk_oth hbg _ _) fun i hi => blk_oth (fun h => by have := hmq.log i hi; have := Hg3.out; omega) _ _
            have hbS : Below w.heap.size w (Wq.setCell ⟨g, j * 3 + 2, none⟩ (.slice A9 cut.length c9)) := hbw.setCell (p := ⟨g, j * 3 + 2, none⟩) Hgw.out _
            have hoS : OutAt (Wq.setCell ⟨g, j * 3 + 2, none⟩ (.slice A9 cut.length c9)) w.heap.size (.slice (some ⟨g, 0, none⟩) cs.length c) (roundTo M cs (j + 1)) (fun i => if i = j then .slice A9 cut.length c9 else S' i) := by
              refine .inr ⟨g, c, by rw [roundTo_len], by rw [roundTo_len]; exact Hc1.out, Hc2.out, Hgw.out, ?_⟩
              rw [Hr2.out]
              exact hset
            have y0 := hcq.soft (j * 3 + 2)
            have y1 := hcq.c2 j HjR.out
            have hck : okTo M cs (j + 1) = true := by
              rw [Hok2.out, HA.out, decide_eq_false (fun h => by have := Hz.out; rw [h] at this; cases this)]
              rfl
            have hcf : chTo M cs (j + 1) = true := by rw [Hch2.out, decide_eq_false Hne.out]; simp
            have HmS := Lib.hid hmS; have HbS := Lib.hid hbS; have HoS := Lib.hid hoS; have Hck := Lib.hid hck; have Hcf := Lib.hid hcf
            clear hbq kq hcq hmq hbw hiq hoff hset hbg hmS hbS hoS hck hcf f2
            go_wp2_with fail
            go_roundw
            case rel => exact ⟨j + 1, _, by go_num, Hjl.out, by rw [Hcf.out], Hck, HoS.out, HmS.out, HbS.out⟩
            case measure => have := Hjl.out; simp [intOf]; omega
          · rw [hse] at KE
            have hes := (sameL_iff _ _).1 hse
            have hck : okTo M cs (j + 1) = true := by
              rw [Hok2.out, HA.out, decide_eq_false (fun h => by have := Hz.out; rw [h] at this; cases this)]
              rfl
            have hcf : chTo M cs (j + 1) = chTo M cs j := by rw [Hch2.out, decide_eq_true hes]; simp
            have hrf := Hsame2.out hes
            have Hck := Lib.hid hck; have Hcf := Lib.hid hcf; have Hrf := Lib.hid hrf
            clear hse hes hck hcf hrf
            go_wp2_with fail
            refine KE.out.mono ?_
            rintro e Wq ⟨rfl, hbq⟩
            have kq := K9.out.trans (hbq.mono K9.out.size)
            have hoS : OutAt Wq w.heap.size (.slice (some ⟨g, 0, none⟩) cs.length c) (roundTo M cs (j + 1)) S' := by
              refine .inr ⟨g, c, by rw [roundTo_len], by rw [roundTo_len]; exact Hc1.out, Hc2.out, Hgw.out, ?_⟩
              rw [Hrf.out]
              exact FO.out _ kq
            have HmS := Lib.hid (FM.out _ kq); have HbS := Lib.hid (FB.out _ kq); have HoS := Lib.hid hoS
            clear hbq kq hoS f2
            go_wp2_with fail
            go_roundw
            case rel => exact ⟨j + 1, S', by go_num, Hjl.out, by rw [Hcf.out], Hck, HoS.out, HmS.out, HbS.out⟩
            case measure => have := Hjl.out; simp [intOf]; omega
        · have hJ : decide (M q p < 4398046511104) = true := hJ0
          have hI : decide (M p q < 4398046511104) = false := hI0
          clear hJ0 hI0
          have hlo : loD M (p, q, sp) = -(M q p) := by
            unfold loD noneD
            simp only [Int.toNat_natCast]
            rw [if_pos (of_decide_eq_true hJ)]
          have hhi : hiD M (p, q, sp) = 4398046511104 := by
            unfold hiD noneD
            simp only [Int.toNat_natCast]
            rw [if_neg (of_decide_eq_false hI)]
          have Hlo := Lib.hid hlo; have Hhi := Lib.hid hhi
          clear hlo hhi
          have w1 := Hw1.out (of_decide_eq_true hJ)
          skip
          go_still (by kernel_rfl)
          have hrec : ({ heap := W4.heap, tape := W4.tape, drawn := W4.drawn + 1, os := W4.os, output := W4.output } : World) = W4.drew := rfl
          rw [hrec]
          clear hrec r0 r1 r2 r3
          have kb := (Kb4.out).drew
          have T14 : W4.drew.heap[b14]? = some (.cells #[.int .i64 (-4398046511104), .int .i64 4398046511104] 48 (0, 0)) := HT14.out
          generalize W4.drew = W5 at kb T14 ⊢
          have z0 := blk_soft T14 0
          have a0 := blk_get T14 0
          simp at a0
          have Kb6 := Lib.hid (kb.setCell (p := ⟨b14, 0, none⟩) (Nat.le_of_eq Hb14.out.symm) (.int .i64 (-(M q p))))
          have HT6 := Lib.hid (blk_set T14 0 (.int .i64 (-(M q p))))
          clear kb T14
          go_wp2_with fail
          clear z0 a0
          obtain ⟨W6, hW6⟩ : ∃ y, y = (W5.setCell ⟨b14, 0, none⟩ (.int .i64 (-(M q p)))) := ⟨_, rfl⟩
          rw [← hW6] at Kb6 HT6 ⊢
          have r0 := (FC.out _ Kb6.out.drew).1
          have r1 := (FC.out _ Kb6.out.drew).2.1
          have r2 := (FM.out _ Kb6.out.drew).head p Hp.out
          have r3 := (FM.out _ Kb6.out.drew).cell p q Hp.out Hq.out
          clear hW6
          go_still (by kernel_rfl)
          have hrec : ({ heap := W6.heap, tape := W6.tape, drawn := W6.drawn + 1, os := W6.os, output := W6.output } : World) = W6.drew := rfl
          rw [hrec]
          clear hrec r0 r1 r2 r3
          have kb := (Kb6.out).drew
          have T14 : W6.drew.heap[b14]? = some (.cells #[.int .i64 (-(M q p)), .int .i64 4398046511104] 48 (0, 0)) := by first | exact HT6.out | (have := HT6.out; simpa using this)
          generalize W6.drew = W7 at kb T14 ⊢
          have x0 := blk_get T14 0
          have x1 := blk_get T14 1
          simp at x0 x1
          obtain ⟨W8, hW8⟩ : ∃ y, y = W7 := ⟨_, rfl⟩
          rw [← hW8] at kb x0 x1 ⊢
          have Kb8 := Lib.hid kb
          clear hW8 kb T14
          go_wp2_with fail
          clear x0 x1
          have hlo9 := Hlo.out
          have hhi9 := Hhi.out
          clear Hlo Hhi Hw1 Hw2 hJ hI
          try clear w1
          try clear w2
          generalize (((-(M q p)) : Int)) = lo at hlo9 ⊢
          generalize (((4398046511104) : Int)) = hi at hhi9 ⊢
          have Hlo9 := Lib.hid hlo9; have Hhi9 := Lib.hid hhi9
          clear hlo9 hhi9
          have hal : Below W2.heap.size W2 (W8.alloc (.cells #[.int .i64 lo, .int .i64 hi] 48)) := Kb8.out.alloc Kb8.out.size _
          have hin := spans_one (w := W8) lo hi 48
          have KM := rMeet_c (.slice Am mm.length cm) (.slice (some ⟨W8.heap.size, 0, none⟩) 1 1) mm [(lo, hi)] _ (FVm.out _ hal) hin
          have KO : okSpan (lo, hi) = true → Calls Tryz.prog 43 #[.slice Am mm.length cm, .slice (some ⟨W8.heap.size, 0, none⟩) 1 1] (W8.alloc (.cells #[.int .i64 lo, .int .i64 hi] 48)) (fun e w' => ∃ r, OpSpec gMeet mm [(lo, hi)] r ∧ RetLEO (W8.alloc (.cells #[.int .i64 lo, .int .i64 hi] 48)) r e w') := fun h => rMeetO_c _ _ mm _ _ (FVm.out _ hal) hin Hvv.out (by
            rw [validB_iff]
            exact ⟨by simp, fun s hs => by rw [List.mem_singleton.1 hs]; exact (okSpan_iff _).1 h, List.pairwise_singleton _ _⟩)
          have hcut : cutC M ((p : Int), (q : Int), sp) = if okSpan (lo, hi) = true then cutD sp lo hi else [] := by
            unfold cutC
            rw [Hlo9.out, Hhi9.out]
          have Hal := Lib.hid hal; have KM := Lib.hid KM; have KO := Lib.hid KO; have Hcut := Lib.hid hcut
          clear hal hin hcut
          cases ho : okSpan (lo, hi)
          · have hr := Hno.out (by rw [Hcut.out, ho]; rfl)
            have Hr := Lib.hid hr
            refine KM.out.mono ?_
            rintro e W9 ⟨r9, hsp9, v9, rfl, hv9, hb9⟩
            have hr9 : r9 = ([], 1) := by
              unfold OpSpec at hsp9
              rwa [if_neg] at hsp9
              intro h2
              simp only [Bool.and_eq_true] at h2
              have h3 := ((validB_iff _).1 h2.2).2.1 _ (List.mem_singleton.2 rfl)
              rw [(okSpan_iff _).2 h3] at ho
              cases ho
            subst hr9
            have HbF := Lib.hid (FB.out _ (Hal.out.trans (hb9.mono Hal.out.size)))
            clear hr ho hsp9 hv9 hb9
            go_wp2_with fail
            go_ret2
            rw [Hr.out]
            exact ⟨rfl, HbF.out⟩
          refine (KO.out ho).mono ?_
          rintro e W9 ⟨r9, hsp9, v9, rfl, hv9, hb9⟩
          obtain rfl := cut_meet Hmm.out Hvv.out H16.out ho hsp9
          obtain ⟨cut, hcd⟩ : ∃ c, c = cutD sp lo hi := ⟨_, rfl⟩
          rw [← hcd] at hv9 ⊢
          simp only at hv9
          have hcc : cutC M ((p : Int), (q : Int), sp) = cut := by rw [Hcut.out, if_pos ho, hcd]
          have Hno2 : Hid (cut = [] → r = none) := Lib.hid (by rw [← hcc]; exact Hno.out)
          have Hsame2 : Hid (cut = sp → roundTo M cs (j + 1) = roundTo M cs j) := Lib.hid (by rw [← hcc]; exact Hsame.out)
          have Hr2 : Hid (roundTo M cs (j + 1) = setC (roundTo M cs j) j cut) := Lib.hid (by rw [← hcc]; exact Hr1.out)
          have Hch2 : Hid (chTo M cs (j + 1) = (chTo M cs j || !decide (cut = sp))) := Lib.hid (by rw [← hcc]; exact Hch1.out)
          have Hok2 : Hid (okTo M cs (j + 1) = (okTo M cs j && !decide (cut = []))) := Lib.hid (by rw [← hcc]; exact Hok1.out)
          have k9 := Hal.out.trans (hb9.mono Hal.out.size)
          have hsb := sblk_own hv9
          have hi9 := spans_of_own hv9
          obtain ⟨A9, c9, rfl, _, _⟩ := hi9.form
          have K9 := Lib.hid k9; have Hsb := Lib.hid hsb; have Hi9 := Lib.hid hi9
          have Hbase := Lib.hid (Hal.out.size)
          clear ho hsp9 hv9 hb9 hcc k9 hsb hi9 KM KO hcd Hcut Hno Hsame Hr1 Hch1 Hok1
          rcases Nat.eq_zero_or_pos cut.length with hz | hz
          · have hr := Hno2.out (List.length_eq_zero_iff.1 hz)
            have Hr := Lib.hid hr
            have HbF := Lib.hid (FB.out _ K9.out)
            have hzb : ((cut.length : Int) == 0) = true := by rw [beq_iff_eq]; omega
            clear hr hz
            go_wp2_with fail
            go_ret2
            rw [Hr.out]
            exact ⟨rfl, HbF.out⟩
          have hzb : ((cut.length : Int) == 0) = false := by rw [beq_eq_false_iff_ne]; omega
          have Hz := Lib.hid hz
          have f2 := (FC.out _ K9.out).2.2
          have KE : Hid (Calls Tryz.prog 26 #[.slice A9 cut.length c9, .slice A1 sp.length cp] W9 (Ret W9 (.bool (sameL cut sp)))) := Lib.hid (slEqualSpan_c _ _ cut sp W9 Hi9.out (FSp.out _ K9.out))
          clear hz
          cases hse : sameL cut sp
          · rw [hse] at KE
            have hne : cut ≠ sp := fun h => by rw [(sameL_iff _ _).2 h] at hse; cases hse
            have Hne := Lib.hid hne
            clear hse hne
            go_wp2_with fail
            refine KE.out.mono ?_
            rintro e Wq ⟨rfl, hbq⟩
            have kq := K9.out.trans (hbq.mono K9.out.size)
            have hcq := FO.out _ kq
            have hmq := FM.out _ kq
            have hbw := FB.out _ kq
            have hiq := Hi9.out.below hbq
            have hoff : sblk (.slice A9 cut.length c9) ≠ some g := fun h => by
              have h1 := Hsb.out g h
              have h2 := Hbase.out
              have h3 := HgS.out
              omega
            have hset := hcq.set j HjR.out cut (.slice A9 cut.length c9) hiq hoff
            have hbg : b ≠ g := fun h => by have := hmq.lob; have := Hg3.out; omega
            have hmS : MatAt (Wq.setCell ⟨g, j * 3 + 2, none⟩ (.slice A9 cut.length c9)) w3.heap.size b N N G C M := hmq.blocks (blk_oth hbg _ _) fun i hi => blk_oth (fun h => by have := hmq.log i hi; have := Hg3.out; omega) _ _
            have hbS : Below w.heap.size w (Wq.setCell ⟨g, j * 3 + 2, none⟩ (.slice A9 cut.length c9)) := hbw.setCell (p := ⟨g, j * 3 + 2, none⟩) Hgw.out _
            have hoS : OutAt (Wq.setCell ⟨g, j * 3 + 2, none⟩ (.slice A9 cut.length c9)) w.heap.size (.slice (some ⟨g, 0, none⟩) cs.length c) (roundTo M cs (j + 1)) (fun i => if i = j then .slice A9 cut.length c9 else S' i) := by
              refine .inr ⟨g, c, by rw [roundTo_len], by rw [roundTo_len]; exact Hc1.out, Hc2.out, Hgw.out, ?_⟩
              rw [Hr2.out]
              exact hset
            have y0 := hcq.soft (j * 3 + 2)
            have y1 := hcq.c2 j HjR.out
            have hck : okTo M cs (j + 1) = true := by
              rw [Hok2.out, HA.out, decide_eq_false (fun h => by have := Hz.out; rw [h] at this; cases this)]
              rfl
            have hcf : chTo M cs (j + 1) = true := by rw [Hch2.out, decide_eq_false Hne.out]; simp
            have HmS := Lib.hid hmS; have HbS := Lib.hid hbS; have HoS := Lib.hid hoS; have Hck := Lib.hid hck; have Hcf := Lib.hid hcf
            clear hbq kq hcq hmq hbw hiq hoff hset hbg hmS hbS hoS hck hcf f2
            go_wp2_with fail
            go_roundw
            case rel => exact ⟨j + 1, _, by go_num, Hjl.out, by rw [Hcf.out], Hck, HoS.out, HmS.out, HbS.out⟩
            case measure => have := Hjl.out; simp [intOf]; omega
          · rw [hse] at KE
            have hes := (sameL_iff _ _).1 hse
            have hck : okTo M cs (j + 1) = true := by
              rw [Hok2.out, HA.out, decide_eq_false (fun h => by have := Hz.out; rw [h] at this; cases this)]
              rfl
            have hcf : chTo M cs (j + 1) = chTo M cs j := by rw [Hch2.out, decide_eq_true hes]; simp
            have hrf := Hsame2.out hes
            have Hck := Lib.hid hck; have Hcf := Lib.hid hcf; have Hrf := Lib.hid hrf
            clear hse hes hck hcf hrf
            go_wp2_with fail
            refine KE.out.mono ?_
            rintro e Wq ⟨rfl, hbq⟩
            have kq := K9.out.trans (hbq.mono K9.out.size)
            have hoS : OutAt Wq w.heap.size (.slice (some ⟨g, 0, none⟩) cs.length c) (roundTo M cs (j + 1)) S' := by
              refine .inr ⟨g, c, by rw [roundTo_len], by rw [roundTo_len]; exact Hc1.out, Hc2.out, Hgw.out, ?_⟩
              rw [Hrf.out]
              exact FO.out _ kq
            have HmS := Lib.hid (FM.out _ kq); have HbS := Lib.hid (FB.out _ kq); have HoS := Lib.hid hoS
            clear hbq kq hoS f2
            go_wp2_with fail
            go_roundw
            case rel => exact ⟨j + 1, S', by go_num, Hjl.out, by rw [Hcf.out], Hck, HoS.out, HmS.out, HbS.out⟩
            case measure => have := Hjl.out; simp [intOf]; omega
        · have hJ : decide (M q p < 4398046511104) = true := hJ0
          have hI : decide (M p q < 4398046511104) = true := hI0
          clear hJ0 hI0
          have hlo : loD M (p, q, sp) = -(M q p) := by
            unfold loD noneD
            simp only [Int.toNat_natCast]
            rw [if_pos (of_decide_eq_true hJ)]
          have hhi : hiD M (p, q, sp) = M p q + 1 := by
            unfold hiD noneD
            simp only [Int.toNat_natCast]
            rw [if_pos (of_decide_eq_true hI)]
          have Hlo := Lib.hid hlo; have Hhi := Lib.hid hhi
          clear hlo hhi
          have w1 := Hw1.out (of_decide_eq_true hJ)
          have w2 := Hw2.out (of_decide_eq_true hI)
          go_still (by kernel_rfl)
          have hrec : ({ heap := W4.heap, tape := W4.tape, drawn := W4.drawn + 1, os := W4.os, output := W4.output } : World) = W4.drew := rfl
          rw [hrec]
          clear hrec r0 r1 r2 r3
          have kb := (Kb4.out).drew
          have T14 : W4.drew.heap[b14]? = some (.cells #[.int .i64 (-4398046511104), .int .i64 4398046511104] 48 (0, 0)) := HT14.out
          generalize W4.drew = W5 at kb T14 ⊢
          have z0 := blk_soft T14 0
          have a0 := blk_get T14 0
          simp at a0
          have Kb6 := Lib.hid (kb.setCell (p := ⟨b14, 0, none⟩) (Nat.le_of_eq Hb14.out.symm) (.int .i64 (-(M q p))))
          have HT6 := Lib.hid (blk_set T14 0 (.int .i64 (-(M q p))))
          clear kb T14
          go_wp2_with fail
          clear z0 a0
          obtain ⟨W6, hW6⟩ : ∃ y, y = (W5.setCell ⟨b14, 0, none⟩ (.int .i64 (-(M q p)))) := ⟨_, rfl⟩
          rw [← hW6] at Kb6 HT6 ⊢
          have r0 := (FC.out _ Kb6.out.drew).1
          have r1 := (FC.out _ Kb6.out.drew).2.1
          have r2 := (FM.out _ Kb6.out.drew).head p Hp.out
          have r3 := (FM.out _ Kb6.out.drew).cell p q Hp.out Hq.out
          clear hW6
          go_still (by kernel_rfl)
          have hrec : ({ heap := W6.heap, tape := W6.tape, drawn := W6.drawn + 1, os := W6.os, output := W6.output } : World) = W6.drew := rfl
          rw [hrec]
          clear hrec r0 r1 r2 r3
          have kb := (Kb6.out).drew
          have T14 : W6.drew.heap[b14]? = some (.cells #[.int .i64 (-(M q p)), .int .i64 4398046511104] 48 (0, 0)) := by first | exact HT6.out | (have := HT6.out; simpa using this)
          generalize W6.drew = W7 at kb T14 ⊢
          have z1 := blk_soft T14 1
          have a1 := blk_get T14 1
          simp at a1
          have Kb8 := Lib.hid (kb.setCell (p := ⟨b14, 1, none⟩) (Nat.le_of_eq Hb14.out.symm) (.int .i64 (M p q + 1)))
          have hT8 := blk_set T14 1 (.int .i64 (M p q + 1))
          obtain ⟨W8, hW8⟩ : ∃ y, y = W7.setCell ⟨b14, 1, none⟩ (.int .i64 (M p q + 1)) := ⟨_, rfl⟩
          rw [← hW8] at Kb8 hT8
          have x0 := blk_get hT8 0
          have x1 := blk_get hT8 1
          simp at x0 x1
          have HW8 := Lib.hid hW8
          rw [hW8] at x0 x1
          clear kb T14 hT8 hW8
          go_wp2_with fail
          rw [← HW8.out]
          have hs78 : W7.heap.size = W8.heap.size := by rw [HW8.out]; simp [World.setCell]
          rw [hs78]
          clear z1 a1 x0 x1 hs78
          have hlo9 := Hlo.out
          have hhi9 := Hhi.out
          clear Hlo Hhi Hw1 Hw2 hJ hI
          try clear w1
          try clear w2
          generalize (((-(M q p)) : Int)) = lo at hlo9 ⊢
          generalize (((M p q + 1) : Int)) = hi at hhi9 ⊢
          have Hlo9 := Lib.hid hlo9; have Hhi9 := Lib.hid hhi9
          clear hlo9 hhi9
          have hal : Below W2.heap.size W2 (W8.alloc (.cells #[.int .i64 lo, .int .i64 hi] 48)) := Kb8.out.alloc Kb8.out.size _
          have hin := spans_one (w := W8) lo hi 48
          have KM := rMeet_c (.slice Am mm.length cm) (.slice (some ⟨W8.heap.size, 0, none⟩) 1 1) mm [(lo, hi)] _ (FVm.out _ hal) hin
          have KO : okSpan (lo, hi) = true → Calls Tryz.prog 43 #[.slice Am mm.length cm, .slice (some ⟨W8.heap.size, 0, none⟩) 1 1] (W8.alloc (.cells #[.int .i64 lo, .int .i64 hi] 48)) (fun e w' => ∃ r, OpSpec gMeet mm [(lo, hi)] r ∧ RetLEO (W8.alloc (.cells #[.int .i64 lo, .int .i64 hi] 48)) r e w') := fun h => rMeetO_c _ _ mm _ _ (FVm.out _ hal) hin Hvv.out (by
            rw [validB_iff]
            exact ⟨by simp, fun s hs => by rw [List.mem_singleton.1 hs]; exact (okSpan_iff _).1 h, List.pairwise_singleton _ _⟩)
          have hcut : cutC M ((p : Int), (q : Int), sp) = if okSpan (lo, hi) = true then cutD sp lo hi else [] := by
            unfold cutC
            rw [Hlo9.out, Hhi9.out]
          have Hal := Lib.hid hal; have KM := Lib.hid KM; have KO := Lib.hid KO; have Hcut := Lib.hid hcut
          clear hal hin hcut
          cases ho : okSpan (lo, hi)
          · have hr := Hno.out (by rw [Hcut.out, ho]; rfl)
            have Hr := Lib.hid hr
            refine KM.out.mono ?_
            rintro e W9 ⟨r9, hsp9, v9, rfl, hv9, hb9⟩
            have hr9 : r9 = ([], 1) := by
              unfold OpSpec at hsp9
              rwa [if_neg] at hsp9
              intro h2
              simp only [Bool.and_eq_true] at h2
              have h3 := ((validB_iff _).1 h2.2).2.1 _ (List.mem_singleton.2 rfl)
              rw [(okSpan_iff _).2 h3] at ho
              cases ho
            subst hr9
            have HbF := Lib.hid (FB.out _ (Hal.out.trans (hb9.mono Hal.out.size)))
            clear hr ho hsp9 hv9 hb9
            go_wp2_with fail
            go_ret2
            rw [Hr.out]
            exact ⟨rfl, HbF.out⟩
          refine (KO.out ho).mono ?_
          rintro e W9 ⟨r9, hsp9, v9, rfl, hv9, hb9⟩
          obtain rfl := cut_meet Hmm.out Hvv.out H16.out ho hsp9
          obtain ⟨cut, hcd⟩ : ∃ c, c = cutD sp lo hi := ⟨_, rfl⟩
          rw [← hcd] at hv9 ⊢
          simp only at hv9
          have hcc : cutC M ((p : Int), (q : Int), sp) = cut := by rw [Hcut.out, if_pos ho, hcd]
          have Hno2 : Hid (cut = [] → r = none) := Lib.hid (by rw [← hcc]; exact Hno.out)
          have Hsame2 : Hid (cut = sp → roundTo M cs (j + 1) = roundTo M cs j) := Lib.hid (by rw [← hcc]; exact Hsame.out)
          have Hr2 : Hid (roundTo M cs (j + 1) = setC (roundTo M cs j) j cut) := Lib.hid (by rw [← hcc]; exact Hr1.out)
          have Hch2 : Hid (chTo M cs (j + 1) = (chTo M cs j || !decide (cut = sp))) := Lib.hid (by rw [← hcc]; exact Hch1.out)
          have Hok2 : Hid (okTo M cs (j + 1) = (okTo M cs j && !decide (cut = []))) := Lib.hid (by rw [← hcc]; exact Hok1.out)
          have k9 := Hal.out.trans (hb9.mono Hal.out.size)
          have hsb := sblk_own hv9
          have hi9 := spans_of_own hv9
          obtain ⟨A9, c9, rfl, _, _⟩ := hi9.form
          have K9 := Lib.hid k9; have Hsb := Lib.hid hsb; have Hi9 := Lib.hid hi9
          have Hbase := Lib.hid (Hal.out.size)
          clear ho hsp9 hv9 hb9 hcc k9 hsb hi9 KM KO hcd Hcut Hno Hsame Hr1 Hch1 Hok1
          rcases Nat.eq_zero_or_pos cut.length with hz | hz
          · have hr := Hno2.out (List.length_eq_zero_iff.1 hz)
            have Hr := Lib.hid hr
            have HbF := Lib.hid (FB.out _ K9.out)
            have hzb : ((cut.length : Int) == 0) = true := by rw [beq_iff_eq]; omega
            clear hr hz
            go_wp2_with fail
            go_ret2
            rw [Hr.out]
            exact ⟨rfl, HbF.out⟩
          have hzb : ((cut.length : Int) == 0) = false := by rw [beq_eq_false_iff_ne]; omega
          have Hz := Lib.hid hz
          have f2 := (FC.out _ K9.out).2.2
          have KE : Hid (Calls Tryz.prog 26 #[.slice A9 cut.length c9, .slice A1 sp.length cp] W9 (Ret W9 (.bool (sameL cut sp)))) := Lib.hid (slEqualSpan_c _ _ cut sp W9 Hi9.out (FSp.out _ K9.out))
          clear hz
          cases hse : sameL cut sp
          · rw [hse] at KE
            have hne : cut ≠ sp := fun h => by rw [(sameL_iff _ _).2 h] at hse; cases hse
            have Hne := Lib.hid hne
            clear hse hne
            go_wp2_with fail
            refine KE.out.mono ?_
            rintro e Wq ⟨rfl, hbq⟩
            have kq := K9.out.trans (hbq.mono K9.out.size)
            have hcq := FO.out _ kq
            have hmq := FM.out _ kq
            have hbw := FB.out _ kq
            have hiq := Hi9.out.below hbq
            have hoff : sblk (.slice A9 cut.length c9) ≠ some g := fun h => by
              have h1 := Hsb.out g h
              have h2 := Hbase.out
              have h3 := HgS.out
              omega
            have hset := hcq.set j HjR.out cut (.slice A9 cut.length c9) hiq hoff
            have hbg : b ≠ g := fun h => by have := hmq.lob; have := Hg3.out; omega
            have hmS : MatAt (Wq.setCell ⟨g, j * 3 + 2, none⟩ (.slice A9 cut.length c9)) w3.heap.size b N N G C M := hmq.blocks (blk_oth hbg _ _) fun i hi => blk_oth (fun h => by have := hmq.log i hi; have := Hg3.out; omega) _ _
            have hbS : Below w.heap.size w (Wq.setCell ⟨g, j * 3 + 2, none⟩ (.slice A9 cut.length c9)) := hbw.setCell (p := ⟨g, j * 3 + 2, none⟩) Hgw.out _
            have hoS : OutAt (Wq.setCell ⟨g, j * 3 + 2, none⟩ (.slice A9 cut.length c9)) w.heap.size (.slice (some ⟨g, 0, none⟩) cs.length c) (roundTo M cs (j + 1)) (fun i => if i = j then .slice A9 cut.length c9 else S' i) := by
              refine .inr ⟨g, c, by rw [roundTo_len], by rw [roundTo_len]; exact Hc1.out, Hc2.out, Hgw.out, ?_⟩
              rw [Hr2.out]
              exact hset
            have y0 := hcq.soft (j * 3 + 2)
            have y1 := hcq.c2 j HjR.out
            have hck : okTo M cs (j + 1) = true := by
              rw [Hok2.out, HA.out, decide_eq_false (fun h => by have := Hz.out; rw [h] at this; cases this)]
              rfl
            have hcf : chTo M cs (j + 1) = true := by rw [Hch2.out, decide_eq_false Hne.out]; simp
            have HmS := Lib.hid hmS; have HbS := Lib.hid hbS; have HoS := Lib.hid hoS; have Hck := Lib.hid hck; have Hcf := Lib.hid hcf
            clear hbq kq hcq hmq hbw hiq hoff hset hbg hmS hbS hoS hck hcf f2
            go_wp2_with fail
            go_roundw
            case rel => exact ⟨j + 1, _, by go_num, Hjl.out, by rw [Hcf.out], Hck, HoS.out, HmS.out, HbS.out⟩
            case measure => have := Hjl.out; simp [intOf]; omega
          · rw [hse] at KE
            have hes := (sameL_iff _ _).1 hse
            have hck : okTo M cs (j + 1) = true := by
              rw [Hok2.out, HA.out, decide_eq_false (fun h => by have := Hz.out; rw [h] at this; cases this)]
              rfl
            have hcf : chTo M cs (j + 1) = chTo M cs j := by rw [Hch2.out, decide_eq_true hes]; simp
            have hrf := Hsame2.out hes
            have Hck := Lib.hid hck; have Hcf := Lib.hid hcf; have Hrf := Lib.hid hrf
            clear hse hes hck hcf hrf
            go_wp2_with fail
            refine KE.out.mono ?_
            rintro e Wq ⟨rfl, hbq⟩
            have kq := K9.out.trans (hbq.mono K9.out.size)
            have hoS : OutAt Wq w.heap.size (.slice (some ⟨g, 0, none⟩) cs.length c) (roundTo M cs (j + 1)) S' := by
              refine .inr ⟨g, c, by rw [roundTo_len], by rw [roundTo_len]; exact Hc1.out, Hc2.out, Hgw.out, ?_⟩
              rw [Hrf.out]
              exact FO.out _ kq
            have HmS := Lib.hid (FM.out _ kq); have HbS := Lib.hid (FB.out _ kq); have HoS := Lib.hid hoS
            clear hbq kq hoS f2
            go_wp2_with fail
            go_roundw
            case rel => exact ⟨j + 1, S', by go_num, Hjl.out, by rw [Hcf.out], Hck, HoS.out, HmS.out, HbS.out⟩
            case measure => have := Hjl.out; simp [intOf]; omega
end Go.Proofs.YtcppcfinnbeboaaGreat
