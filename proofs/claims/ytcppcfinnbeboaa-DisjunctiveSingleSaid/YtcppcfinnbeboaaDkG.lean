/- Law 47: the reference's Narrow. -/
import Derived.Test.YtcppcfinnbeboaaDkI
import Derived.Test.YtcppcfinnbeboaaDjY
namespace Go.Proofs.Ytcppcfinnbeboaa
open Go.RowKit Go.Shelf

def RNarRet (r : Option (List Cho)) (w : World) (e : Ending) (w' : World) : Prop :=
  match r with
  | none => e = .returned (.tuple #[.slice none 0 0, .int .i64 17]) ∧ Below w.heap.size w w'
  | some cs => ∃ v, e = .returned (.tuple #[v, .int .i64 0]) ∧ IsChos w' v cs ∧ Below w.heap.size w w'
def RNarSt (n : Nat) (r : Option (List Cho)) (w : World) (k : Nat) (o : Value) (W : World) : Prop := ∃ cs, Nar n k cs r ∧ IsChos W o cs ∧ Below w.heap.size w W
theorem r47Narrow_bad (n : Int) (v : Value) (l : List Cho) (w : World) (hs : IsChos w v l) (hv : netB n l = false) : Calls Try.prog 11 #[.int .i64 n, v] w (fun e w' => e = .returned (.tuple #[.slice none 0 0, .int .i64 1]) ∧ Below w.heap.size w w') := by
  have KV := Lib.hid (r47Valid_c n v l w hs)
  rw [hv] at KV
  clear hs hv
  go_enter Try.func11, Try.ntmps11
  go_wp2_with fail
  refine KV.out.mono ?_
  rintro e w1 ⟨rfl, hb⟩
  go_wp2_with fail
  go_ret2
  exact ⟨rfl, hb⟩
theorem djNarrow_bad (n : Int) (v : Value) (l : List Cho) (w : World) (hs : IsChos w v l) (hv : netB n l = false) : Calls Try.prog 10 #[.int .i64 n, v] w (fun e w' => e = .returned (.tuple #[.slice none 0 0, .int .i64 1]) ∧ Below w.heap.size w w') := by
  have KV := Lib.hid (djValid_c n v l w hs)
  rw [hv] at KV
  clear hs hv
  go_enter Try.func10, Try.ntmps10
  go_wp2_with fail
  refine KV.out.mono ?_
  rintro e w1 ⟨rfl, hb⟩
  go_wp2_with fail
  go_ret2
  exact ⟨rfl, hb⟩
set_option maxRecDepth 100000 in
set_option maxHeartbeats 16000000 in
theorem r47Narrow_c (n : Nat) (v : Value) (l : List Cho) (w : World) (hs : IsChos w v l) (hn : n < 24) (hv : netB ((n + 1 : Nat) : Int) l = true) {k : Nat} {r : Option (List Cho)} (h : Nar (n + 1) k l r) : Calls Try.prog 11 #[.int .i64 ((n + 1 : Nat) : Int), v] w (RNarRet r w) := by
  have KV := Lib.hid (r47Valid_c ((n + 1 : Nat) : Int) v l w hs)
  rw [hv] at KV
  obtain ⟨N, hN⟩ : ∃ N, N = n + 1 := ⟨_, rfl⟩
  rw [← hN] at KV h ⊢
  have HN24 := Lib.hid (show N ≤ 24 by omega)
  have HN1 := Lib.hid (show 1 ≤ N by omega)
  have Hst0 : Hid (∀ W, Below w.heap.size w W → RNarSt N r w k v W) := Lib.hid fun W hb => ⟨l, h, hs.below hb, hb⟩
  clear hN hs hn hv h
  go_enter Try.func11, Try.ntmps11
  go_wp2_with fail
  refine KV.out.mono ?_
  rintro e w1 ⟨rfl, hb⟩
  have Hst1 := Lib.hid (Hst0.out _ hb)
  clear hb Hst0
  go_wp2_with fail
  go_loopw [1] (fun o wr => ∃ k', RNarSt N r w k' o wr) (fun o wr => leastK fun k' => RNarSt N r w k' o wr)
  case atStart => exact ⟨_, Hst1.out⟩
  case round =>
    obtain ⟨k', hst⟩ := hrel
    obtain ⟨o, ho⟩ : ∃ y, y = u1 := ⟨_, rfl⟩
    rw [← ho] at hst
    subst ho
    have hst : RNarSt N r w (leastK fun k' => RNarSt N r w k' o wr) o wr := (leastK_spec (p := fun k' => RNarSt N r w k' o wr) hst).1
    obtain ⟨k0, hk0⟩ : ∃ y, y = leastK fun k' => RNarSt N r w k' o wr := ⟨_, rfl⟩
    rw [← hk0] at hst
    have Hk0 := Lib.hid hk0
    clear hk0 Hst1
    obtain ⟨cs, hN, hcs, hb⟩ := hst
    have Hsk := Lib.hid hN.st
    have HN := Lib.hid hN; have Hb := Lib.hid hb
    obtain ⟨S, hcs⟩ := hcs
    obtain ⟨A, c, rfl, hnc, hcc⟩ := hcs.form
    have Hcs := Lib.hid hcs
    have KM := Lib.hid (r47matrix_c N wr HN24.out)
    clear hN hb hcs
    go_wp2_with fail
    refine KM.out.mono ?_
    rintro e w3 ⟨b, G, C, rfl, hm, hb3⟩
    obtain ⟨w0, hw0⟩ : ∃ y, y = wr := ⟨_, rfl⟩
    rw [← hw0] at hm hb3 Hcs Hb
    have Hw0 := Lib.hid hw0
    have Hm3 := Lib.hid hm; have Hb3 := Lib.hid hb3
    clear hm hb3 hw0
    go_wp2_with fail
    go_loopw [7] (fun i wq => ∃ j : Nat, i = .int .i64 (j : Int) ∧ j ≤ cs.length ∧ MatAt wq w0.heap.size b N N G C (startF (hullsF cs j) (2 * j)) ∧ Below w0.heap.size w0 wq) (fun i _ => cs.length - (intOf i).toNat)
    case atStart => exact ⟨0, rfl, Nat.zero_le _, Hm3.out, Hb3.out⟩
    case round =>
      obtain ⟨j, rfl, hj, hm, hb⟩ := hrel
      rcases Nat.lt_or_ge j cs.length with hjl | hjl
      · have j0 : decide ((j : Int) < (cs.length : Int)) = true := decide_eq_true (by omega)
        have j1 : IntKind.i64.wrap ((j : Int) + 1) = (j : Int) + 1 := by rw [IntKind.wrap_i64]; have := Hsk.out.1; omega
        have j2 : (0 : Int) ≤ (j : Int) := by omega
        have j3 : (j : Int) < (cs.length : Int) := by omega
        have hst := fun p q sp h => hull_step cs j p q sp h
        obtain ⟨g, off, rfl, hbk⟩ := Hcs.out.addr (by omega)
        have hF : ∀ X, Below w0.heap.size w0 X → X.cell? ⟨g, off + j * 3, none⟩ = some (.int .i64 (cho cs j).1) ∧ X.cell? ⟨g, off + j * 3 + 1, none⟩ = some (.int .i64 (cho cs j).2.1) ∧ X.cell? ⟨g, off + j * 3 + 2, none⟩ = some (S j) ∧ IsSpans X (S j) (cho cs j).2.2 := fun X h => ⟨(Hcs.out.below h).c0 j hjl, (Hcs.out.below h).c1 j hjl, (Hcs.out.below h).c2 j hjl, (Hcs.out.below h).2 j hjl⟩
        have hcv := Hsk.out.2 j hjl
        generalize cho cs j = y at *
        generalize S j = sv at *
        obtain ⟨I0, J0, sp⟩ := y
        unfold ChoN at hcv
        simp only at hF hcv
        obtain ⟨v0, v1, v2, v3, v4, v5, v6⟩ := hcv
        obtain ⟨A1, cp, rfl, _, _⟩ := (hF _ (Below.refl _ _)).2.2.2.form
        obtain ⟨p, rfl⟩ : ∃ p : Nat, I0 = (p : Int) := ⟨I0.toNat, by omega⟩
        obtain ⟨q, rfl⟩ : ∃ q : Nat, J0 = (q : Int) := ⟨J0.toNat, by omega⟩
        have hst2 := hst p q sp rfl
        have Hp := Lib.hid (show p < N by omega); have Hq := Lib.hid (show q < N by omega)
        have HF := Lib.hid hF
        have H0 := Lib.hid (fun k hk => loH_near v6 (by omega) k hk)
        have H1 := Lib.hid (fun k hk => hiH_near v6 (by omega) k hk)
        have Hsp0 := Lib.hid (show 1 ≤ sp.length from v4)
        have Hst2 := Lib.hid hst2; have Hm := Lib.hid hm; have Hbq := Lib.hid hb; have Hjl := Lib.hid hjl; have H8 := Lib.hid v5
        obtain ⟨b1, ob1, rfl, _⟩ : ∃ b1 ob1, A1 = some ⟨b1, ob1, none⟩ ∧ True := by
          obtain ⟨b1, ob1, h, _⟩ := (hF _ (Below.refl _ _)).2.2.2.addr (show 0 < sp.length by omega)
          exact ⟨b1, ob1, h, trivial⟩
        obtain ⟨_, _, d2, hsd⟩ := hF _ hb.drew
        have r0 := hsd.c0 0 (by omega)
        have r1 := hsd.c1 0 (by omega)
        simp only [Nat.zero_mul, Nat.add_zero] at r0 r1
        have s0 : (0 : Int) < (sp.length : Int) := by omega
        have s1 : 0 < sp.length := v4
        clear hF hst hst2 v0 v1 v2 v3 v4 v5 v6 hm hb hbk hjl hj hsd
        go_wp2_with fail
        go_still (by kernel_rfl)
        have hrec : ({ heap := wr.heap, tape := wr.tape, drawn := wr.drawn + 1, os := wr.os, output := wr.output } : World) = wr.drew := rfl
        rw [hrec]
        clear hrec d2 r0 r1
        have Hbd := Lib.hid Hbq.out.drew
        have Hmd := Lib.hid Hm.out.drew
        generalize wr.drew = w5 at Hbd Hmd ⊢
        go_wp2_with fail
        clear s0 s1
        go_loopw [8, 9, 10] (fun x z i wq => ∃ m : Nat, 1 ≤ m ∧ m ≤ sp.length ∧ i = .int .i64 (m : Int) ∧ x = .int .i64 (loH sp m) ∧ z = .int .i64 (hiH sp m) ∧ MatAt wq w0.heap.size b N N G C (startF (hullsF cs j) (2 * j)) ∧ Below w0.heap.size w0 wq) (fun _ _ i _ => sp.length - (intOf i).toNat)
        case atStart => exact ⟨1, Nat.le_refl _, Hsp0.out, rfl, by show _ = Value.int .i64 (min (fr sp 0) (fr sp 0)); rw [show min (fr sp 0) (fr sp 0) = fr sp 0 from by omega], by show _ = Value.int .i64 (max (tt sp 0) (tt sp 0)); rw [show max (tt sp 0) (tt sp 0) = tt sp 0 from by omega], Hmd.out, Hbd.out⟩
        case round =>
          obtain ⟨m, hm1, hm, rfl, rfl, rfl, hmat, hbm⟩ := hrel
          obtain ⟨d0, d1, d2, hsm⟩ := HF.out _ hbm
          rcases Nat.lt_or_ge m sp.length with hml | hml
          · have m0 : decide ((m : Int) < (sp.length : Int)) = true := decide_eq_true (by omega)
            have m1 : IntKind.i64.wrap ((m : Int) + 1) = (m : Int) + 1 := by rw [IntKind.wrap_i64]; have := H8.out; omega
            have m2 : (0 : Int) ≤ (m : Int) := by omega
            have m3 : (m : Int) < (sp.length : Int) := by omega
            obtain ⟨_, _, e2, hsd⟩ := HF.out _ hbm.drew
            have r0 := hsd.c0 m hml
            have r1 := hsd.c1 m hml
            have N0 : Hid (min (loH sp m) (fr sp m) = loH sp (m + 1)) := Lib.hid rfl
            have N1 : Hid (max (hiH sp m) (tt sp m) = hiH sp (m + 1)) := Lib.hid rfl
            have Hml := Lib.hid hml; have Hm1 := Lib.hid hm1
            have Hbz := Lib.hid hbm.drew; have Hmz := Lib.hid hmat.drew
            clear hsm hsd hbm hmat hml hm hm1 d0 d1
            go_wp2_with fail
            clear d2
            go_still (by kernel_rfl)
            have hrec : ({ heap := wr.heap, tape := wr.tape, drawn := wr.drawn + 1, os := wr.os, output := wr.output } : World) = wr.drew := rfl
            rw [hrec]
            clear hrec e2 r0 r1
            generalize wr.drew = w6 at Hbz Hmz ⊢
            go_wp2_with fail
            go_roundw
            case rel => exact ⟨m + 1, by omega, Hml.out, by go_num, by first | rfl | (rw [N0.out]), by first | rfl | (rw [N1.out]), Hmz.out, Hbz.out⟩
            case measure => have := Hml.out; simp [intOf]; omega
          · obtain rfl : m = sp.length := by omega
            have m0 : decide ((sp.length : Int) < (sp.length : Int)) = false := decide_eq_false (by omega)
            have e0 := H0.out sp.length (Nat.le_refl _)
            have e1 := H1.out sp.length (Nat.le_refl _)
            have hst2 := Hst2.out
            generalize loH sp sp.length = lo at e0 hst2 ⊢
            generalize hiH sp sp.length = hi at e1 hst2 ⊢
            have z0 : IntKind.i64.wrap (hi - 1) = hi - 1 := by rw [IntKind.wrap_i64]; omega
            have KB : Hid (∀ X, MatAt X w0.heap.size b N N G C (startF (hullsF cs j) (2 * j)) → Calls Try.prog 35 #[.slice (some ⟨b, 0, none⟩) N N, .int .i64 (p : Int), .int .i64 (q : Int), .int .i64 lo, .int .i64 (hi - 1)] X (MatChg w0.heap.size b N G C (.tuple #[]) (startF (hullsF cs (j + 1)) (2 * (j + 1))) X)) := Lib.hid fun X h => by rw [hst2]; exact r47bind_c _ b N G C _ p q lo (hi - 1) X h Hp.out Hq.out HN24.out (by omega)
            have FCr : Hid (∀ X, Below w0.heap.size w0 X → X.cell? ⟨g, off + j * 3, none⟩ = some (.int .i64 (p : Int)) ∧ X.cell? ⟨g, off + j * 3 + 1, none⟩ = some (.int .i64 (q : Int))) := Lib.hid fun X h => ⟨(HF.out X h).1, (HF.out X h).2.1⟩
            have kb := hbm.drew
            have km := hmat.drew
            clear e0 e1 hst2 hsm hbm hmat hml hm hm1
            go_wp2_with fail
            clear d2
            go_region_held3 (fun X => X.cell? ⟨g, off + j * 3, none⟩ = some (.int .i64 (p : Int)) ∧ X.cell? ⟨g, off + j * 3 + 1, none⟩ = some (.int .i64 (q : Int))) ((first | exact FCr.out _ kb)) (first
              | (go_at_call 35; (with_reducible refine (KB.out _ km).mono ?_); rintro e Wa ⟨rfl, hma, hba⟩; have kb := kb.trans hba; clear hba km)
              | fail)
            have Kb := Lib.hid kb; have Hma := Lib.hid hma
            clear kb hma
            go_wp2_with fail
            go_roundw
            case rel => exact ⟨j + 1, by go_num, Hjl.out, Hma.out, Kb.out⟩
            case measure => have := Hjl.out; simp [intOf]; omega
      · obtain rfl : j = cs.length := by omega
        have j0 : decide ((cs.length : Int) < (cs.length : Int)) = false := decide_eq_false (by omega)
        have hok := hullsF_ok Hsk.out.2 _ (Nat.le_refl cs.length)
        obtain ⟨sm1, sm2⟩ := start_mod hok
        rw [hullsF_len] at sm1 sm2
        have htx : tightX N (hullsF cs cs.length) = fwX (startF (hullsF cs cs.length) (2 * cs.length)) N N := by unfold tightX; rw [hullsF_len]
        have htf := tight_hulls HN24.out Hsk.out
        have KT := Lib.hid (r47tight_c w0.heap.size b N G C _ wr hm HN24.out sm1 (fun i _ => sm2 i))
        rw [← htx, ← htf] at KT
        have Hb7 := Lib.hid hb
        clear hok sm1 sm2 htx htf hm hb hj hjl
        go_wp2_with fail
        refine KT.out.mono ?_
        rintro e w4 ⟨rfl, ⟨M, hm, hMe⟩, hb4⟩
        cases htf : tightF N (hullsF cs cs.length) with
        | none =>
          have hr : r = none := nar_none HN.out (by unfold nextD; rw [htf])
          have HbF := Lib.hid (Hb.out.trans ((Hb7.out.trans hb4).mono Hb.out.size))
          have Hr := Lib.hid hr
          clear hr hb4 htf hm hMe KT
          rw [Option.isSome_none]
          go_wp2_with fail
          go_ret2
          rw [Hr.out]
          exact ⟨rfl, HbF.out⟩
        | some M' =>
          obtain rfl := hMe M' htf
          have hnx : ∀ c, okTo M cs cs.length = c → nextD N cs = if c then some (roundTo M cs cs.length, chTo M cs cs.length) else none := fun c hc => by
            unfold nextD
            rw [htf]
            simp only [hc]
          have hnear := hulls_near HN1.out HN24.out Hsk.out htf
          have hb04 := Hb7.out.trans hb4
          have Hcs4 := Lib.hid (Hcs.out.below hb04)
          have hbw4 := Hb.out.trans (hb04.mono Hb.out.size)
          have hmL := hm.loosen (Nat.zero_le _)
          have Hnx := Lib.hid hnx; have Hnear := Lib.hid hnear; have Hb4 := Lib.hid hbw4; have Hm4 := Lib.hid hmL
          clear hnx hnear hbw4 hb04 hb4 hm hmL KT hMe htf Hcs Hb7 Hm3 Hb3
          rw [Option.isSome_some]
          go_wp2_with fail
          go_loopw [11, 12] (fun out i wq => ∃ (j : Nat) (S' : Nat → Value), i = .int .i64 (j : Int) ∧ j ≤ cs.length ∧ Hid (okTo M cs j = true) ∧ OwnC wq w4.heap.size out (outsC M cs j) S' ∧ Below w4.heap.size w4 wq) (fun _ i _ => cs.length - (intOf i).toNat)
          case atStart => exact ⟨0, S, rfl, Nat.zero_le _, Lib.hid rfl, OwnC.nil, Below.refl _ _⟩
          case round =>
            obtain ⟨j, S', rfl, hj, HA, hout, hb⟩ := hrel
            rcases Nat.lt_or_ge j cs.length with hjl | hjl
            rotate_left
            · obtain rfl : j = cs.length := by omega
              have j0 : decide ((cs.length : Int) < (cs.length : Int)) = false := decide_eq_false (by omega)
              have hnx := Hnx.out true HA.out
              rw [outsC_all] at hout
              have hch := hout.chos
              have KS := Lib.hid (r47Same_c (.slice A cs.length c) _ cs _ wr ⟨S, Hcs4.out.below hb⟩ hch (by have := Hsk.out.1; omega) (fun i hi => by have := (Hsk.out.2 i hi).2.2.2.2.2.1; omega))
              rw [same_ch] at KS
              have Hch := Lib.hid hch; have Hbb := Lib.hid (Hb4.out.trans (hb.mono Hb4.out.size))
              clear hout hb hj hjl hch
              cases hc : chTo M cs cs.length
              · rw [hc] at hnx KS
                have hr : r = some (roundTo M cs cs.length) := nar_fix HN.out (by rw [hnx]; rfl)
                have Hr := Lib.hid hr
                clear hnx hr hc
                go_wp2_with fail
                refine KS.out.mono ?_
                rintro e w8 ⟨rfl, hb8⟩
                have Hch8 := Lib.hid (Hch.out.below hb8); have Hb8 := Lib.hid (Hbb.out.trans (hb8.mono Hbb.out.size))
                clear hb8
                rw [Bool.not_false]
                go_wp2_with fail
                go_ret2
                rw [Hr.out]
                exact ⟨_, rfl, Hch8.out, Hb8.out⟩
              · rw [hc] at hnx KS
                obtain ⟨k1, hk1, hN2⟩ := nar_step HN.out (show nextD N cs = some (roundTo M cs cs.length, true) from by rw [hnx]; rfl)
                have HN2 := Lib.hid hN2; have Hk1 := Lib.hid hk1
                clear hnx hc hN2 hk1
                go_wp2_with fail
                refine KS.out.mono ?_
                rintro e w8 ⟨rfl, hb8⟩
                have Hst8 := Lib.hid (show RNarSt N r w k1 u11 w8 from ⟨_, HN2.out, Hch.out.below hb8, Hbb.out.trans (hb8.mono Hbb.out.size)⟩)
                clear hb8
                rw [Bool.not_true]
                go_wp2_with fail
                go_roundw
                case rel => exact ⟨k1, Hst8.out⟩
                case measure =>
                  have h1 := (leastK_spec (p := fun k' => RNarSt N r w k' u11 w8) Hst8.out).2
                  have h2 := Hk0.out
                  have h3 := Hk1.out
                  omega
            have j0 : decide ((j : Int) < (cs.length : Int)) = true := decide_eq_true (by omega)
            have j1 : IntKind.i64.wrap ((j : Int) + 1) = (j : Int) + 1 := by rw [IntKind.wrap_i64]; have := Hsk.out.1; omega
            have j2 : (0 : Int) ≤ (j : Int) := by omega
            have j3 : (j : Int) < (cs.length : Int) := by omega
            have hsr := Hcs4.out.below hb
            obtain ⟨g, off, rfl, hbk⟩ := hsr.addr (by omega)
            have d0 := hsr.c0 j hjl
            have d1 := hsr.c1 j hjl
            have d2 := hsr.c2 j hjl
            have hsp := hsr.2 j hjl
            have hcv := Hsk.out.2 j hjl
            obtain ⟨k1, k2⟩ := cutC_spec hcv Hnear.out
            have hos : ∀ (x : List Sp) (u : Value), outsC M cs (j + 1) = outsC M cs j ++ [((cho cs j).1, (cho cs j).2.1, cutC M (cho cs j))] := fun _ _ => outsC_succ M cs j
            have hok1 : cutC M (cho cs j) ≠ [] → okTo M cs (j + 1) = true := fun h => okTo_of fun i hi => by
              rcases Nat.lt_or_ge i j with h2 | h2
              · exact okTo_not HA.out h2
              · obtain rfl : i = j := by omega
                exact h
            have hok0 : cutC M (cho cs j) = [] → okTo M cs cs.length = false := fun h => by
              rw [Bool.eq_false_iff]
              intro h2
              exact okTo_not h2 hjl h
            have hos := hos [] (.bool true)
            generalize cho cs j = y at *
            generalize S j = sv at *
            obtain ⟨I0, J0, sp⟩ := y
            unfold ChoN at hcv
            simp only at d0 d1 hcv hsp k1 k2 hos
            obtain ⟨v0, v1, v2, v3, v4, v5, v6⟩ := hcv
            obtain ⟨A1, cp, rfl, _, _⟩ := hsp.form
            obtain ⟨p, rfl⟩ : ∃ p : Nat, I0 = (p : Int) := ⟨I0.toNat, by omega⟩
            obtain ⟨q, rfl⟩ : ∃ q : Nat, J0 = (q : Int) := ⟨J0.toNat, by omega⟩
            have Hp := Lib.hid (show p < N by omega); have Hq := Lib.hid (show q < N by omega)
            obtain ⟨W, hW⟩ : ∃ y, y = wr.alloc (.cells #[.int .i64 (p : Int), .int .i64 (q : Int), .slice A1 sp.length cp] 36) := ⟨_, rfl⟩
            obtain ⟨b6, hb6⟩ : ∃ y, y = wr.heap.size := ⟨_, rfl⟩
            have hbW : Below wr.heap.size wr W := by rw [hW]; exact (Below.refl _ _).alloc (Nat.le_refl _) _
            have hT : W.heap[b6]? = some (.cells #[.int .i64 (p : Int), .int .i64 (q : Int), .slice A1 sp.length cp] 36 (0, 0)) := by rw [hW, hb6]; exact heap_alloc_new wr _
            have FC : Hid (∀ X, Below W.heap.size W X → X.cell? ⟨b6, 0, none⟩ = some (.int .i64 (p : Int)) ∧ X.cell? ⟨b6, 1, none⟩ = some (.int .i64 (q : Int)) ∧ X.cell? ⟨b6, 2, none⟩ = some (.slice A1 sp.length cp)) := Lib.hid fun X h => by
              have f := (h.block _ (blk_lt hT)).trans hT
              exact ⟨blk_get f 0, blk_get f 1, blk_get f 2⟩
            have FS : Hid (∀ X, Below W.heap.size W X → IsSpans X (.slice A1 sp.length cp) sp) := Lib.hid fun X h => (hsp.below hbW).below h
            have FM : Hid (∀ X, Below W.heap.size W X → MatAt X 0 b N N G C M) := Lib.hid fun X h => ((Hm4.out.below hb).below hbW).below h
            have FT : Hid (∀ X, Below W.heap.size W X → X.heap[b6]? = some (.cells #[.int .i64 (p : Int), .int .i64 (q : Int), .slice A1 sp.length cp] 36 (0, 0))) := Lib.hid fun X h => (h.block _ (blk_lt hT)).trans hT
            have HzW := Lib.hid (show W.heap.size = b6 + 1 by rw [hW, hb6]; simp)
            have FW : Hid (∀ X, Below b6 W X → Below wr.heap.size wr X) := Lib.hid fun X h => hbW.trans (by rw [← hb6]; exact h)
            have p0 : (p : Int) < (N : Int) := by have := Hp.out; omega
            have p1 : (0 : Int) ≤ (p : Int) := by omega
            have q0 : (q : Int) < (N : Int) := by have := Hq.out; omega
            have q1 : (0 : Int) ≤ (q : Int) := by omega
            have hn1 := Hnear.out p q Hp.out Hq.out
            have hn2 := Hnear.out q p Hq.out Hp.out
            have Hn1 := Lib.hid hn1; have Hn2 := Lib.hid hn2
            have HW := Lib.hid hW; have Hb6 := Lib.hid hb6; have Hjl := Lib.hid hjl; have V6 := Lib.hid v6; have V5 := Lib.hid v5
            have K1 := Lib.hid k1; have K2 := Lib.hid k2; have Hos := Lib.hid hos; have Hok1 := Lib.hid hok1; have Hok0 := Lib.hid hok0; have Hout := Lib.hid hout; have Hbr := Lib.hid hb
            clear hW hb6 hbW hT hsr hsp hbk hjl hj v0 v1 v2 v3 v4 v5 v6 k1 k2 hos hok1 hok0 hout hb hn1 hn2
            go_wp2_with fail
            rw [← HW.out, ← Hb6.out]
            have kb : Below W.heap.size W W.drew := (Below.refl _ _).drew
            have r0 := (FC.out _ kb).1
            have r1 := (FC.out _ kb).2.1
            have r2 := (FM.out _ kb).head q Hq.out
            have r3 := (FM.out _ kb).cell q p Hq.out Hp.out
            have Kb := Lib.hid kb
            clear kb d0 d1 d2
            go_wp2_with fail
            cases hJ : decide (M q p < 4398046511104) <;> cases hI : decide (M p q < 4398046511104)
            · go_still (by kernel_rfl)
              have hrec : ({ heap := W.heap, tape := W.tape, drawn := W.drawn + 1, os := W.os, output := W.output } : World) = W.drew := rfl
              rw [hrec]
              clear hrec r0 r1 r2 r3
              generalize W.drew = X1 at Kb ⊢
              go_wp2_with fail
              have r0 := (FC.out _ Kb.out.drew).1
              have r1 := (FC.out _ Kb.out.drew).2.1
              have r2 := (FM.out _ Kb.out.drew).head p Hp.out
              have r3 := (FM.out _ Kb.out.drew).cell p q Hp.out Hq.out
              have Kb2 := Lib.hid Kb.out.drew
              go_still (by kernel_rfl)
              have hrec : ({ heap := X1.heap, tape := X1.tape, drawn := X1.drawn + 1, os := X1.os, output := X1.output } : World) = X1.drew := rfl
              rw [hrec]
              clear hrec r0 r1 r2 r3
              generalize X1.drew = X2 at Kb2 ⊢
              obtain ⟨W8, hW8⟩ : ∃ y, y = X2 := ⟨_, rfl⟩
              rw [← hW8] at Kb2 ⊢
              have Kb8 := Kb2
              clear hW8
              have KC := Lib.hid (r47cut_c (.slice A1 sp.length cp) sp (-4398046511104) 4398046511104 W8 (FS.out _ Kb8.out) V6.out V5.out (by omega))
              have f2 := (FC.out _ Kb8.out).2.2
              go_wp2_with fail
              refine KC.out.mono ?_
              rintro e W9 ⟨x, u, hx, rfl, hown, hx100, hb9⟩
              have hxe : x = cutC M ((p : Int), (q : Int), sp) := canon_ext hx.1 K1.out fun y => by
                rw [hx.2 y, K2.out y]
                cases hmy : mem sp y
                · rfl
                · have hny := mem_near V6.out hmy
                  rw [Bool.true_and, Bool.true_and, Bool.eq_iff_iff, inB_iff, inB_iff]
                  unfold loD hiD noneD
                  simp only [Int.toNat_natCast]
                  rw [if_neg (of_decide_eq_false hJ)]
                  rw [if_neg (of_decide_eq_false hI)]
                  all_goals omega
              have hb89 := Kb8.out.trans (hb9.mono Kb8.out.size)
              have T9 := FT.out _ hb89
              have z0 := blk_soft T9 2
              have z9 := (FC.out _ hb89).2.2
              have hb10 : Below b6 W (W9.setCell ⟨b6, 2, none⟩ u) := (show Below b6 W W9 from hb89.mono (by have := HzW.out; omega)).setCell (p := ⟨b6, 2, none⟩) (Nat.le_refl _) _
              have hW10 := FW.out _ hb10
              have T10 := blk_set T9 2 u
              obtain ⟨Au, cu, rfl, _, _⟩ := (spans_of_own hown).form
              have hub : ∀ gg, sblk (.slice Au x.length cu) = some gg → W8.heap.size ≤ gg ∧ gg < W9.heap.size := fun gg h => by
                rcases hown.2 with ⟨h1, _⟩ | ⟨g2, cap2, cur2, h1, h2, h3, _⟩
                · injection h1 with h1 _ _
                  rw [h1] at h
                  cases h
                · injection h1 with h1 _ _
                  rw [h1] at h
                  injection h with h
                  exact ⟨by rw [← h]; exact h2, by rw [← h]; exact blk_lt h3⟩
              have hz8 : b6 < W8.heap.size := by have := Kb8.out.size; rw [HzW.out] at this; omega
              have hu10 : IsSpans (W9.setCell ⟨b6, 2, none⟩ (.slice Au x.length cu)) (.slice Au x.length cu) x := (spans_of_own hown).blocks (by simp [World.setCell]) fun gg h => blk_oth (fun e => by have := (hub gg h).1; omega) _ _
              have g0 := blk_get T10 0
              have g1 := blk_get T10 1
              have g2 := blk_get T10 2
              simp at g0 g1 g2
              have Hxe := Lib.hid hxe; have HW10 := Lib.hid hW10; have Hu10 := Lib.hid hu10; have Hub := Lib.hid hub; have Hz8 := Lib.hid hz8; have Hx100 := Lib.hid hx100
              clear hx hown hb9 hxe hb89 T9 hb10 hW10 T10 hub hz8 hu10 hx100
              go_upto_region 26 with fail
              obtain ⟨W10, hW10⟩ : ∃ y, y = W9.setCell ⟨b6, 2, none⟩ (.slice Au x.length cu) := ⟨_, rfl⟩
              rw [← hW10] at g0 g1 g2 HW10 Hu10 ⊢
              clear hW10 f2 z0 z9
              rcases Nat.eq_zero_or_pos x.length with hx0 | hx0
              · have hx1 : x = [] := List.length_eq_zero_iff.1 hx0
                have hnx := Hnx.out false (Hok0.out (by rw [← Hxe.out]; exact hx1))
                have hr : r = none := nar_none HN.out (by rw [hnx]; rfl)
                have Hr := Lib.hid hr
                have HbF := Lib.hid (Hb4.out.trans ((Hbr.out.trans (HW10.out.mono Hbr.out.size)).mono Hb4.out.size))
                have y0 : ((x.length : Int) == 0) = true := by rw [beq_iff_eq]; omega
                clear hx1 hnx hr hx0
                go_wp2_with fail
                go_ret2
                rw [Hr.out]
                exact ⟨rfl, HbF.out⟩
              have hne : x ≠ [] := List.length_pos_iff.1 hx0
              have HA1 := Lib.hid (Hok1.out (by rw [← Hxe.out]; exact hne))
              have y0 : ((x.length : Int) == 0) = false := by rw [beq_eq_false_iff_ne]; omega
              have y1 : ¬ x = [] := hne
              have hout10 := Hout.out.below HW10.out
              obtain ⟨Ao, co, rfl⟩ := hout10.form
              have hlt10 : ∀ gg, (Value.slice Ao (outsC M cs j).length co).ownBlock = some gg → gg < b6 := fun gg h => by
                have := (Hout.out.own.lt gg h).2
                rw [Hb6.out]
                exact this
              have hbz := (Hbr.out.trans (HW10.out.mono Hbr.out.size)).size
              have hle := outsC_len M cs j
              have Hout10 := Lib.hid hout10; have Hlt10 := Lib.hid hlt10; have Hx0 := Lib.hid hx0; have Hbz := Lib.hid hbz; have Hle := Lib.hid hle
              clear hout10 hlt10 hx0 hne hbz hle
              go_wp2_with (at_builtin; refine append_choG rfl _ _ rfl w4.heap.size _ (outsC M cs j) S' (p : Int) (q : Int) _ x (by rfl) Hout10.out (by rfl) Hu10.out Hx0.out (fun gg h e => by have := Hlt10.out gg h; have := (Hub.out gg e).1; have := Hz8.out; omega) (by rw [Hle.out]; have := Hsk.out.1; have := Hjl.out; omega) Hbz.out ?_; intro v11 W11 hout11 hb11 _ _; have Hout11 := Lib.hid hout11; have Hb11 := Lib.hid ((Hbr.out.trans (HW10.out.mono Hbr.out.size)).trans hb11); clear hout11 hb11)
              go_roundw
              case rel => exact ⟨j + 1, _, by go_num, Hjl.out, HA1, by rw [Hos.out, ← Hxe.out]; exact Hout11.out, Hb11.out⟩
              case measure => have := Hjl.out; simp [intOf]; omega
            · go_still (by kernel_rfl)
              have hrec : ({ heap := W.heap, tape := W.tape, drawn := W.drawn + 1, os := W.os, output := W.output } : World) = W.drew := rfl
              rw [hrec]
              clear hrec r0 r1 r2 r3
              generalize W.drew = X1 at Kb ⊢
              go_wp2_with fail
              have r0 := (FC.out _ Kb.out.drew).1
              have r1 := (FC.out _ Kb.out.drew).2.1
              have r2 := (FM.out _ Kb.out.drew).head p Hp.out
              have r3 := (FM.out _ Kb.out.drew).cell p q Hp.out Hq.out
              have Kb2 := Lib.hid Kb.out.drew
              go_still (by kernel_rfl)
              have hrec : ({ heap := X1.heap, tape := X1.tape, drawn := X1.drawn + 1, os := X1.os, output := X1.output } : World) = X1.drew := rfl
              rw [hrec]
              clear hrec r0 r1 r2 r3
              generalize X1.drew = X2 at Kb2 ⊢
              go_wp2_with fail
              have r0 := (FC.out _ Kb2.out.drew).1
              have r1 := (FC.out _ Kb2.out.drew).2.1
              have r2 := (FM.out _ Kb2.out.drew).head p Hp.out
              have r3 := (FM.out _ Kb2.out.drew).cell p q Hp.out Hq.out
              have Kb3 := Lib.hid Kb2.out.drew
              go_still (by kernel_rfl)
              have hrec : ({ heap := X2.heap, tape := X2.tape, drawn := X2.drawn + 1, os := X2.os, output := X2.output } : World) = X2.drew := rfl
              rw [hrec]
              clear hrec r0 r1 r2 r3
              generalize X2.drew = X3 at Kb3 ⊢
              obtain ⟨W8, hW8⟩ : ∃ y, y = X3 := ⟨_, rfl⟩
              rw [← hW8] at Kb3 ⊢
              have Kb8 := Kb3
              clear hW8
              have KC := Lib.hid (r47cut_c (.slice A1 sp.length cp) sp (-4398046511104) (M p q) W8 (FS.out _ Kb8.out) V6.out V5.out (by have := Hn1.out.2 (of_decide_eq_true hI); omega))
              have f2 := (FC.out _ Kb8.out).2.2
              go_wp2_with fail
              refine KC.out.mono ?_
              rintro e W9 ⟨x, u, hx, rfl, hown, hx100, hb9⟩
              have hxe : x = cutC M ((p : Int), (q : Int), sp) := canon_ext hx.1 K1.out fun y => by
                rw [hx.2 y, K2.out y]
                cases hmy : mem sp y
                · rfl
                · have hny := mem_near V6.out hmy
                  rw [Bool.true_and, Bool.true_and, Bool.eq_iff_iff, inB_iff, inB_iff]
                  unfold loD hiD noneD
                  simp only [Int.toNat_natCast]
                  rw [if_neg (of_decide_eq_false hJ)]
                  rw [if_pos (of_decide_eq_true hI)]
                  all_goals omega
              have hb89 := Kb8.out.trans (hb9.mono Kb8.out.size)
              have T9 := FT.out _ hb89
              have z0 := blk_soft T9 2
              have z9 := (FC.out _ hb89).2.2
              have hb10 : Below b6 W (W9.setCell ⟨b6, 2, none⟩ u) := (show Below b6 W W9 from hb89.mono (by have := HzW.out; omega)).setCell (p := ⟨b6, 2, none⟩) (Nat.le_refl _) _
              have hW10 := FW.out _ hb10
              have T10 := blk_set T9 2 u
              obtain ⟨Au, cu, rfl, _, _⟩ := (spans_of_own hown).form
              have hub : ∀ gg, sblk (.slice Au x.length cu) = some gg → W8.heap.size ≤ gg ∧ gg < W9.heap.size := fun gg h => by
                rcases hown.2 with ⟨h1, _⟩ | ⟨g2, cap2, cur2, h1, h2, h3, _⟩
                · injection h1 with h1 _ _
                  rw [h1] at h
                  cases h
                · injection h1 with h1 _ _
                  rw [h1] at h
                  injection h with h
                  exact ⟨by rw [← h]; exact h2, by rw [← h]; exact blk_lt h3⟩
              have hz8 : b6 < W8.heap.size := by have := Kb8.out.size; rw [HzW.out] at this; omega
              have hu10 : IsSpans (W9.setCell ⟨b6, 2, none⟩ (.slice Au x.length cu)) (.slice Au x.length cu) x := (spans_of_own hown).blocks (by simp [World.setCell]) fun gg h => blk_oth (fun e => by have := (hub gg h).1; omega) _ _
              have g0 := blk_get T10 0
              have g1 := blk_get T10 1
              have g2 := blk_get T10 2
              simp at g0 g1 g2
              have Hxe := Lib.hid hxe; have HW10 := Lib.hid hW10; have Hu10 := Lib.hid hu10; have Hub := Lib.hid hub; have Hz8 := Lib.hid hz8; have Hx100 := Lib.hid hx100
              clear hx hown hb9 hxe hb89 T9 hb10 hW10 T10 hub hz8 hu10 hx100
              go_upto_region 26 with fail
              obtain ⟨W10, hW10⟩ : ∃ y, y = W9.setCell ⟨b6, 2, none⟩ (.slice Au x.length cu) := ⟨_, rfl⟩
              rw [← hW10] at g0 g1 g2 HW10 Hu10 ⊢
              clear hW10 f2 z0 z9
              rcases Nat.eq_zero_or_pos x.length with hx0 | hx0
              · have hx1 : x = [] := List.length_eq_zero_iff.1 hx0
                have hnx := Hnx.out false (Hok0.out (by rw [← Hxe.out]; exact hx1))
                have hr : r = none := nar_none HN.out (by rw [hnx]; rfl)
                have Hr := Lib.hid hr
                have HbF := Lib.hid (Hb4.out.trans ((Hbr.out.trans (HW10.out.mono Hbr.out.size)).mono Hb4.out.size))
                have y0 : ((x.length : Int) == 0) = true := by rw [beq_iff_eq]; omega
                clear hx1 hnx hr hx0
                go_wp2_with fail
                go_ret2
                rw [Hr.out]
                exact ⟨rfl, HbF.out⟩
              have hne : x ≠ [] := List.length_pos_iff.1 hx0
              have HA1 := Lib.hid (Hok1.out (by rw [← Hxe.out]; exact hne))
              have y0 : ((x.length : Int) == 0) = false := by rw [beq_eq_false_iff_ne]; omega
              have y1 : ¬ x = [] := hne
              have hout10 := Hout.out.below HW10.out
              obtain ⟨Ao, co, rfl⟩ := hout10.form
              have hlt10 : ∀ gg, (Value.slice Ao (outsC M cs j).length co).ownBlock = some gg → gg < b6 := fun gg h => by
                have := (Hout.out.own.lt gg h).2
                rw [Hb6.out]
                exact this
              have hbz := (Hbr.out.trans (HW10.out.mono Hbr.out.size)).size
              have hle := outsC_len M cs j
              have Hout10 := Lib.hid hout10; have Hlt10 := Lib.hid hlt10; have Hx0 := Lib.hid hx0; have Hbz := Lib.hid hbz; have Hle := Lib.hid hle
              clear hout10 hlt10 hx0 hne hbz hle
              go_wp2_with (at_builtin; refine append_choG rfl _ _ rfl w4.heap.size _ (outsC M cs j) S' (p : Int) (q : Int) _ x (by rfl) Hout10.out (by rfl) Hu10.out Hx0.out (fun gg h e => by have := Hlt10.out gg h; have := (Hub.out gg e).1; have := Hz8.out; omega) (by rw [Hle.out]; have := Hsk.out.1; have := Hjl.out; omega) Hbz.out ?_; intro v11 W11 hout11 hb11 _ _; have Hout11 := Lib.hid hout11; have Hb11 := Lib.hid ((Hbr.out.trans (HW10.out.mono Hbr.out.size)).trans hb11); clear hout11 hb11)
              go_roundw
              case rel => exact ⟨j + 1, _, by go_num, Hjl.out, HA1, by rw [Hos.out, ← Hxe.out]; exact Hout11.out, Hb11.out⟩
              case measure => have := Hjl.out; simp [intOf]; omega
            · go_still (by kernel_rfl)
              have hrec : ({ heap := W.heap, tape := W.tape, drawn := W.drawn + 1, os := W.os, output := W.output } : World) = W.drew := rfl
              rw [hrec]
              clear hrec r0 r1 r2 r3
              generalize W.drew = X1 at Kb ⊢
              go_wp2_with fail
              have w1 : IntKind.i64.wrap (-(M q p)) = -(M q p) := by rw [IntKind.wrap_i64]; have := Hn2.out.2 (of_decide_eq_true hJ); omega
              have r0 := (FC.out _ Kb.out.drew).1
              have r1 := (FC.out _ Kb.out.drew).2.1
              have r2 := (FM.out _ Kb.out.drew).head q Hq.out
              have r3 := (FM.out _ Kb.out.drew).cell q p Hq.out Hp.out
              have Kb2 := Lib.hid Kb.out.drew
              go_still (by kernel_rfl)
              have hrec : ({ heap := X1.heap, tape := X1.tape, drawn := X1.drawn + 1, os := X1.os, output := X1.output } : World) = X1.drew := rfl
              rw [hrec]
              clear hrec r0 r1 r2 r3
              generalize X1.drew = X2 at Kb2 ⊢
              go_wp2_with fail
              have r0 := (FC.out _ Kb2.out.drew).1
              have r1 := (FC.out _ Kb2.out.drew).2.1
              have r2 := (FM.out _ Kb2.out.drew).head p Hp.out
              have r3 := (FM.out _ Kb2.out.drew).cell p q Hp.out Hq.out
              have Kb3 := Lib.hid Kb2.out.drew
              go_still (by kernel_rfl)
              have hrec : ({ heap := X2.heap, tape := X2.tape, drawn := X2.drawn + 1, os := X2.os, output := X2.output } : World) = X2.drew := rfl
              rw [hrec]
              clear hrec r0 r1 r2 r3
              generalize X2.drew = X3 at Kb3 ⊢
              obtain ⟨W8, hW8⟩ : ∃ y, y = X3 := ⟨_, rfl⟩
              rw [← hW8] at Kb3 ⊢
              have Kb8 := Kb3
              clear hW8
              have KC := Lib.hid (r47cut_c (.slice A1 sp.length cp) sp (-(M q p)) 4398046511104 W8 (FS.out _ Kb8.out) V6.out V5.out (by omega))
              have f2 := (FC.out _ Kb8.out).2.2
              go_wp2_with fail
              refine KC.out.mono ?_
              rintro e W9 ⟨x, u, hx, rfl, hown, hx100, hb9⟩
              have hxe : x = cutC M ((p : Int), (q : Int), sp) := canon_ext hx.1 K1.out fun y => by
                rw [hx.2 y, K2.out y]
                cases hmy : mem sp y
                · rfl
                · have hny := mem_near V6.out hmy
                  rw [Bool.true_and, Bool.true_and, Bool.eq_iff_iff, inB_iff, inB_iff]
                  unfold loD hiD noneD
                  simp only [Int.toNat_natCast]
                  rw [if_pos (of_decide_eq_true hJ)]
                  rw [if_neg (of_decide_eq_false hI)]
                  all_goals omega
              have hb89 := Kb8.out.trans (hb9.mono Kb8.out.size)
              have T9 := FT.out _ hb89
              have z0 := blk_soft T9 2
              have z9 := (FC.out _ hb89).2.2
              have hb10 : Below b6 W (W9.setCell ⟨b6, 2, none⟩ u) := (show Below b6 W W9 from hb89.mono (by have := HzW.out; omega)).setCell (p := ⟨b6, 2, none⟩) (Nat.le_refl _) _
              have hW10 := FW.out _ hb10
              have T10 := blk_set T9 2 u
              obtain ⟨Au, cu, rfl, _, _⟩ := (spans_of_own hown).form
              have hub : ∀ gg, sblk (.slice Au x.length cu) = some gg → W8.heap.size ≤ gg ∧ gg < W9.heap.size := fun gg h => by
                rcases hown.2 with ⟨h1, _⟩ | ⟨g2, cap2, cur2, h1, h2, h3, _⟩
                · injection h1 with h1 _ _
                  rw [h1] at h
                  cases h
                · injection h1 with h1 _ _
                  rw [h1] at h
                  injection h with h
                  exact ⟨by rw [← h]; exact h2, by rw [← h]; exact blk_lt h3⟩
              have hz8 : b6 < W8.heap.size := by have := Kb8.out.size; rw [HzW.out] at this; omega
              have hu10 : IsSpans (W9.setCell ⟨b6, 2, none⟩ (.slice Au x.length cu)) (.slice Au x.length cu) x := (spans_of_own hown).blocks (by simp [World.setCell]) fun gg h => blk_oth (fun e => by have := (hub gg h).1; omega) _ _
              have g0 := blk_get T10 0
              have g1 := blk_get T10 1
              have g2 := blk_get T10 2
              simp at g0 g1 g2
              have Hxe := Lib.hid hxe; have HW10 := Lib.hid hW10; have Hu10 := Lib.hid hu10; have Hub := Lib.hid hub; have Hz8 := Lib.hid hz8; have Hx100 := Lib.hid hx100
              clear hx hown hb9 hxe hb89 T9 hb10 hW10 T10 hub hz8 hu10 hx100
              go_upto_region 26 with fail
              obtain ⟨W10, hW10⟩ : ∃ y, y = W9.setCell ⟨b6, 2, none⟩ (.slice Au x.length cu) := ⟨_, rfl⟩
              rw [← hW10] at g0 g1 g2 HW10 Hu10 ⊢
              clear hW10 f2 z0 z9
              rcases Nat.eq_zero_or_pos x.length with hx0 | hx0
              · have hx1 : x = [] := List.length_eq_zero_iff.1 hx0
                have hnx := Hnx.out false (Hok0.out (by rw [← Hxe.out]; exact hx1))
                have hr : r = none := nar_none HN.out (by rw [hnx]; rfl)
                have Hr := Lib.hid hr
                have HbF := Lib.hid (Hb4.out.trans ((Hbr.out.trans (HW10.out.mono Hbr.out.size)).mono Hb4.out.size))
                have y0 : ((x.length : Int) == 0) = true := by rw [beq_iff_eq]; omega
                clear hx1 hnx hr hx0
                go_wp2_with fail
                go_ret2
                rw [Hr.out]
                exact ⟨rfl, HbF.out⟩
              have hne : x ≠ [] := List.length_pos_iff.1 hx0
              have HA1 := Lib.hid (Hok1.out (by rw [← Hxe.out]; exact hne))
              have y0 : ((x.length : Int) == 0) = false := by rw [beq_eq_false_iff_ne]; omega
              have y1 : ¬ x = [] := hne
              have hout10 := Hout.out.below HW10.out
              obtain ⟨Ao, co, rfl⟩ := hout10.form
              have hlt10 : ∀ gg, (Value.slice Ao (outsC M cs j).length co).ownBlock = some gg → gg < b6 := fun gg h => by
                have := (Hout.out.own.lt gg h).2
                rw [Hb6.out]
                exact this
              have hbz := (Hbr.out.trans (HW10.out.mono Hbr.out.size)).size
              have hle := outsC_len M cs j
              have Hout10 := Lib.hid hout10; have Hlt10 := Lib.hid hlt10; have Hx0 := Lib.hid hx0; have Hbz := Lib.hid hbz; have Hle := Lib.hid hle
              clear hout10 hlt10 hx0 hne hbz hle
              go_wp2_with (at_builtin; refine append_choG rfl _ _ rfl w4.heap.size _ (outsC M cs j) S' (p : Int) (q : Int) _ x (by rfl) Hout10.out (by rfl) Hu10.out Hx0.out (fun gg h e => by have := Hlt10.out gg h; have := (Hub.out gg e).1; have := Hz8.out; omega) (by rw [Hle.out]; have := Hsk.out.1; have := Hjl.out; omega) Hbz.out ?_; intro v11 W11 hout11 hb11 _ _; have Hout11 := Lib.hid hout11; have Hb11 := Lib.hid ((Hbr.out.trans (HW10.out.mono Hbr.out.size)).trans hb11); clear hout11 hb11)
              go_roundw
              case rel => exact ⟨j + 1, _, by go_num, Hjl.out, HA1, by rw [Hos.out, ← Hxe.out]; exact Hout11.out, Hb11.out⟩
              case measure => have := Hjl.out; simp [intOf]; omega
            · go_still (by kernel_rfl)
              have hrec : ({ heap := W.heap, tape := W.tape, drawn := W.drawn + 1, os := W.os, output := W.output } : World) = W.drew := rfl
              rw [hrec]
              clear hrec r0 r1 r2 r3
              generalize W.drew = X1 at Kb ⊢
              go_wp2_with fail
              have w1 : IntKind.i64.wrap (-(M q p)) = -(M q p) := by rw [IntKind.wrap_i64]; have := Hn2.out.2 (of_decide_eq_true hJ); omega
              have r0 := (FC.out _ Kb.out.drew).1
              have r1 := (FC.out _ Kb.out.drew).2.1
              have r2 := (FM.out _ Kb.out.drew).head q Hq.out
              have r3 := (FM.out _ Kb.out.drew).cell q p Hq.out Hp.out
              have Kb2 := Lib.hid Kb.out.drew
              go_still (by kernel_rfl)
              have hrec : ({ heap := X1.heap, tape := X1.tape, drawn := X1.drawn + 1, os := X1.os, output := X1.output } : World) = X1.drew := rfl
              rw [hrec]
              clear hrec r0 r1 r2 r3
              generalize X1.drew = X2 at Kb2 ⊢
              go_wp2_with fail
              have r0 := (FC.out _ Kb2.out.drew).1
              have r1 := (FC.out _ Kb2.out.drew).2.1
              have r2 := (FM.out _ Kb2.out.drew).head p Hp.out
              have r3 := (FM.out _ Kb2.out.drew).cell p q Hp.out Hq.out
              have Kb3 := Lib.hid Kb2.out.drew
              go_still (by kernel_rfl)
              have hrec : ({ heap := X2.heap, tape := X2.tape, drawn := X2.drawn + 1, os := X2.os, output := X2.output } : World) = X2.drew := rfl
              rw [hrec]
              clear hrec r0 r1 r2 r3
              generalize X2.drew = X3 at Kb3 ⊢
              go_wp2_with fail
              have r0 := (FC.out _ Kb3.out.drew).1
              have r1 := (FC.out _ Kb3.out.drew).2.1
              have r2 := (FM.out _ Kb3.out.drew).head p Hp.out
              have r3 := (FM.out _ Kb3.out.drew).cell p q Hp.out Hq.out
              have Kb4 := Lib.hid Kb3.out.drew
              go_still (by kernel_rfl)
              have hrec : ({ heap := X3.heap, tape := X3.tape, drawn := X3.drawn + 1, os := X3.os, output := X3.output } : World) = X3.drew := rfl
              rw [hrec]
              clear hrec r0 r1 r2 r3
              generalize X3.drew = X4 at Kb4 ⊢
              obtain ⟨W8, hW8⟩ : ∃ y, y = X4 := ⟨_, rfl⟩
              rw [← hW8] at Kb4 ⊢
              have Kb8 := Kb4
              clear hW8
              have KC := Lib.hid (r47cut_c (.slice A1 sp.length cp) sp (-(M q p)) (M p q) W8 (FS.out _ Kb8.out) V6.out V5.out (by have := Hn1.out.2 (of_decide_eq_true hI); omega))
              have f2 := (FC.out _ Kb8.out).2.2
              go_wp2_with fail
              refine KC.out.mono ?_
              rintro e W9 ⟨x, u, hx, rfl, hown, hx100, hb9⟩
              have hxe : x = cutC M ((p : Int), (q : Int), sp) := canon_ext hx.1 K1.out fun y => by
                rw [hx.2 y, K2.out y]
                cases hmy : mem sp y
                · rfl
                · have hny := mem_near V6.out hmy
                  rw [Bool.true_and, Bool.true_and, Bool.eq_iff_iff, inB_iff, inB_iff]
                  unfold loD hiD noneD
                  simp only [Int.toNat_natCast]
                  rw [if_pos (of_decide_eq_true hJ)]
                  rw [if_pos (of_decide_eq_true hI)]
                  all_goals omega
              have hb89 := Kb8.out.trans (hb9.mono Kb8.out.size)
              have T9 := FT.out _ hb89
              have z0 := blk_soft T9 2
              have z9 := (FC.out _ hb89).2.2
              have hb10 : Below b6 W (W9.setCell ⟨b6, 2, none⟩ u) := (show Below b6 W W9 from hb89.mono (by have := HzW.out; omega)).setCell (p := ⟨b6, 2, none⟩) (Nat.le_refl _) _
              have hW10 := FW.out _ hb10
              have T10 := blk_set T9 2 u
              obtain ⟨Au, cu, rfl, _, _⟩ := (spans_of_own hown).form
              have hub : ∀ gg, sblk (.slice Au x.length cu) = some gg → W8.heap.size ≤ gg ∧ gg < W9.heap.size := fun gg h => by
                rcases hown.2 with ⟨h1, _⟩ | ⟨g2, cap2, cur2, h1, h2, h3, _⟩
                · injection h1 with h1 _ _
                  rw [h1] at h
                  cases h
                · injection h1 with h1 _ _
                  rw [h1] at h
                  injection h with h
                  exact ⟨by rw [← h]; exact h2, by rw [← h]; exact blk_lt h3⟩
              have hz8 : b6 < W8.heap.size := by have := Kb8.out.size; rw [HzW.out] at this; omega
              have hu10 : IsSpans (W9.setCell ⟨b6, 2, none⟩ (.slice Au x.length cu)) (.slice Au x.length cu) x := (spans_of_own hown).blocks (by simp [World.setCell]) fun gg h => blk_oth (fun e => by have := (hub gg h).1; omega) _ _
              have g0 := blk_get T10 0
              have g1 := blk_get T10 1
              have g2 := blk_get T10 2
              simp at g0 g1 g2
              have Hxe := Lib.hid hxe; have HW10 := Lib.hid hW10; have Hu10 := Lib.hid hu10; have Hub := Lib.hid hub; have Hz8 := Lib.hid hz8; have Hx100 := Lib.hid hx100
              clear hx hown hb9 hxe hb89 T9 hb10 hW10 T10 hub hz8 hu10 hx100
              go_upto_region 26 with fail
              obtain ⟨W10, hW10⟩ : ∃ y, y = W9.setCell ⟨b6, 2, none⟩ (.slice Au x.length cu) := ⟨_, rfl⟩
              rw [← hW10] at g0 g1 g2 HW10 Hu10 ⊢
              clear hW10 f2 z0 z9
              rcases Nat.eq_zero_or_pos x.length with hx0 | hx0
              · have hx1 : x = [] := List.length_eq_zero_iff.1 hx0
                have hnx := Hnx.out false (Hok0.out (by rw [← Hxe.out]; exact hx1))
                have hr : r = none := nar_none HN.out (by rw [hnx]; rfl)
                have Hr := Lib.hid hr
                have HbF := Lib.hid (Hb4.out.trans ((Hbr.out.trans (HW10.out.mono Hbr.out.size)).mono Hb4.out.size))
                have y0 : ((x.length : Int) == 0) = true := by rw [beq_iff_eq]; omega
                clear hx1 hnx hr hx0
                go_wp2_with fail
                go_ret2
                rw [Hr.out]
                exact ⟨rfl, HbF.out⟩
              have hne : x ≠ [] := List.length_pos_iff.1 hx0
              have HA1 := Lib.hid (Hok1.out (by rw [← Hxe.out]; exact hne))
              have y0 : ((x.length : Int) == 0) = false := by rw [beq_eq_false_iff_ne]; omega
              have y1 : ¬ x = [] := hne
              have hout10 := Hout.out.below HW10.out
              obtain ⟨Ao, co, rfl⟩ := hout10.form
              have hlt10 : ∀ gg, (Value.slice Ao (outsC M cs j).length co).ownBlock = some gg → gg < b6 := fun gg h => by
                have := (Hout.out.own.lt gg h).2
                rw [Hb6.out]
                exact this
              have hbz := (Hbr.out.trans (HW10.out.mono Hbr.out.size)).size
              have hle := outsC_len M cs j
              have Hout10 := Lib.hid hout10; have Hlt10 := Lib.hid hlt10; have Hx0 := Lib.hid hx0; have Hbz := Lib.hid hbz; have Hle := Lib.hid hle
              clear hout10 hlt10 hx0 hne hbz hle
              go_wp2_with (at_builtin; refine append_choG rfl _ _ rfl w4.heap.size _ (outsC M cs j) S' (p : Int) (q : Int) _ x (by rfl) Hout10.out (by rfl) Hu10.out Hx0.out (fun gg h e => by have := Hlt10.out gg h; have := (Hub.out gg e).1; have := Hz8.out; omega) (by rw [Hle.out]; have := Hsk.out.1; have := Hjl.out; omega) Hbz.out ?_; intro v11 W11 hout11 hb11 _ _; have Hout11 := Lib.hid hout11; have Hb11 := Lib.hid ((Hbr.out.trans (HW10.out.mono Hbr.out.size)).trans hb11); clear hout11 hb11)
              go_roundw
              case rel => exact ⟨j + 1, _, by go_num, Hjl.out, HA1, by rw [Hos.out, ← Hxe.out]; exact Hout11.out, Hb11.out⟩
              case measure => have := Hjl.out; simp [intOf]; omega
end Go.Proofs.Ytcppcfinnbeboaa
