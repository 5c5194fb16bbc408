/- The walk of civiltimeref44.Rooms. -/
import Derived.Test.YtahpcepnagpbdaaSwF
namespace Go.Proofs.Ytahpcepnagpbdaa
open Go.RowKit Go.Shelf

theorem takB_rooms {l : List Sp} {L : List Nat} {A : List (Nat × Nat)} (h : RoomsOf l L A) (hn : L.Nodup) (hlt : ∀ i ∈ L, i < l.length) (i r : Nat) : takB l (roomArr l.length A) (sp l i) r L = rTaken l A i r := by
  have hf := rooms_fst h
  unfold takB rTaken
  rw [← hf, List.any_map]
  rw [← hf] at hn hlt
  rw [Bool.eq_iff_iff, List.any_eq_true, List.any_eq_true]
  have key : ∀ p ∈ A, iv (roomArr l.length A) p.1 = (p.2 : Int) := roomArr_get hn (fun p hp => hlt _ (List.mem_map.2 ⟨p, hp, rfl⟩))
  constructor
  · rintro ⟨p, hp, hq⟩
    refine ⟨p, hp, ?_⟩
    simp only [Function.comp_apply, key p hp, Bool.and_eq_true, beq_iff_eq] at hq
    simp only [Bool.and_eq_true, beq_iff_eq]
    exact ⟨by omega, hq.2⟩
  · rintro ⟨p, hp, hq⟩
    refine ⟨p, hp, ?_⟩
    simp only [Bool.and_eq_true, beq_iff_eq] at hq
    simp only [Function.comp_apply, key p hp, Bool.and_eq_true, beq_iff_eq]
    exact ⟨by omega, hq.2⟩

/-- Two numbers handed back by the reference: a list, and its number. -/
def RoomsRefRet (l : List Sp) (w : World) (e : Ending) (w' : World) : Prop := ∃ R c v, RoomsRes l R c ∧ e = .returned (.tuple #[v, .int .i64 c]) ∧ IsInts w' v R ∧ Below w.heap.size w w'

set_option maxRecDepth 100000 in
set_option maxHeartbeats 4000000 in
theorem r44Rooms_c (v : Value) (l : List Sp) (w : World) (hs : IsSpans w v l) (hl : l.length ≤ 100000) : Calls Try.prog 17 #[v] w (RoomsRefRet l w) := by
  obtain ⟨A0, c, rfl, hnc, hc⟩ := hs.form
  obtain ⟨i0, hi, hz0, hz1, hz2⟩ := info_parts tIntInfo'
  go_enter Try.func17, Try.ntmps17
  go_wp2_with (at_make; refine wpList_make_full _ rfl _ _ 25 rfl w.heap.size 3 i0 (.int .i64 0) 1 Try.underlying25 hi hz0 hz1 .i64 .i64 _ _ l.length rfl rfl rfl rfl (by rw [hz2]; omega) (by unfold maxLen; omega) (Nat.le_refl _) ?_; intro w2 hown2 hgrow2)
  have hb2 : Below w.heap.size w w2 := ⟨hgrow2.os, hgrow2.tape, hgrow2.output, hgrow2.size, fun k hk => hgrow2.block k hk (by simp)⟩
  have hz12 : w.heap.size < w2.heap.size := World.ownsRow.lt hown2 _ rfl |>.2
  rw [made_zero] at hown2
  have hs2 := hs.below hb2
  refine (r44orderO_c _ l false _ hs2 hl).mono ?_
  rintro e w4 ⟨M, v5, hM, rfl, hv5, hb4⟩
  have hown4 := own_below hown2 hb4 (Nat.le_refl _)
  have hs4 := hs2.below hb4
  have hB4 := hb2.trans (hb4.mono hb2.size)
  have hz4 := hb4.size
  have hMl : M.length ≤ 100000 := by have := hM.perm.length_eq; simp at this; omega
  have hMm : ∀ i ∈ M, i < l.length := fun i hi => List.mem_range.1 (hM.perm.mem_iff.1 hi)
  have hMn : M.Nodup := hM.perm.symm.nodup List.nodup_range
  have HM := Lib.hid hM; have HMm := Lib.hid hMm; have HMn := Lib.hid hMn
  clear hM hMm hMn hgrow2 hown2 hb4 hb2
  obtain ⟨g1, hg1⟩ : ∃ g, g = w.heap.size := ⟨_, rfl⟩
  rw [← hg1] at hown4 hz12 ⊢
  have HG1 := Lib.hid hg1; clear hg1
  obtain ⟨B22, c22, rfl, hc22⟩ := own_formX hv5
  go_wp2_with fail
  go_loopw [6, 7] (fun cv i wr => ∃ (k : Nat) (A : List (Nat × Nat)), i = .int .i64 k ∧ k ≤ M.length ∧ cv = .int .i64 (cntR A) ∧ Hid (RoomsOf l (M.take k) A) ∧
      wr.ownsRow g1 3 1 (.slice (some ⟨g1, 0, none⟩) l.length l.length) l.length (flatI (roomArr l.length A)) ∧ Two g1 g1 w4 wr) (fun _ i _ => M.length - (intOf i).toNat)
  case atStart => exact ⟨0, [], rfl, Nat.zero_le _, rfl, .nil, hown4, Two.refl _ _ _⟩
  case round =>
    obtain ⟨k, A, rfl, hk, rfl, HA, hown, hT⟩ := hrel
    obtain ⟨wo, rfl⟩ : ∃ wo : World, wo = wr := ⟨_, rfl⟩
    have hAl : A.length = k := by have := (rooms_lt HA.out).1; simp at this; omega
    have hcb := cntR_bd A k (fun p hp => by have := (rooms_lt HA.out).2 p hp; simp at this; omega)
    have HAl := Lib.hid hAl; clear hAl
    by_cases hlt : k < M.length
    · obtain ⟨g22, cap22, he, hgb22, hg22, _, _⟩ := OwnsIx.form hv5 (by omega)
      injection he with e1 _ e3
      subst e1 e3
      have hgw : w4.grownBy wo (some g1) := ⟨hT.os, hT.tape, hT.output, hT.size, fun i hi h => hT.block i hi (fun e => h (by rw [e])) (fun e => h (by rw [e]))⟩
      have hv5o : OwnsIx wo w2.heap.size (.slice (some ⟨g22, 0, none⟩) M.length c22) M := World.ownsRow.kept hv5 hgw (.inr (by intro e; have := Option.some.inj e; simp only at this; omega))
      have hfin : Below w.heap.size w wo := hB4.trans (hT.below (by rw [HG1.out]; exact Nat.le_refl _) (by rw [HG1.out]; exact Nat.le_refl _) hB4.size)
      have hso := hs.below hfin
      have hg22o : g22 < wo.heap.size := Nat.lt_of_lt_of_le hg22 hT.size
      have hro : IsInts wo (.slice (some ⟨g1, 0, none⟩) l.length l.length) (roomArr l.length A) := by
        have := ints_of_own (base := g1) (e := 3) (w := wo) (v := .slice (some ⟨g1, 0, none⟩) l.length l.length) (l := roomArr l.length A) (by rw [roomArr_len]; exact hown)
        exact this
      have hsome : IsInts wo (.slice (some ⟨g22, 0, none⟩) k c22) (idx (M.take k)) := by
        have := ints_take (hi_rows (rows_idx hv5o.ints) k hk) (by rw [idx_len]; exact hk)
        rw [show (idx M).take k = idx (M.take k) from by simp [idx]] at this
        exact this
      have hj : ix M k < l.length := HMm.out _ (ix_mem hlt)
      have htk := take_ix hlt
      have hsub : ∀ i ∈ M.take k, i < l.length := fun i hi => HMm.out i (List.mem_of_mem_take hi)
      have hA2 : ∀ q, q < (M.take k).length → ix (M.take k) q < l.length ∧ ix (M.take k) q < (roomArr l.length A).length := fun q hq => by
        rw [roomArr_len]; exact ⟨hsub _ (ix_mem hq), hsub _ (ix_mem hq)⟩
      have hRel := fun i r => takB_rooms HA.out (HMn.out.sublist (List.take_sublist _ _)) hsub i r
      have c22 := hv5o.cell k hlt
      obtain ⟨j, hjx⟩ : ∃ j, j = ix M k := ⟨_, rfl⟩
      rw [← hjx] at hj htk c22
      clear hjx
      have Htk := Lib.hid htk; have HA2 := Lib.hid hA2; have HRel := Lib.hid hRel
      have hAl2 : A.length ≤ k := by rw [HAl.out]; exact Nat.le_refl _
      have hkl : (M.take k).length ≤ 100000 := by simp; omega
      clear htk hA2 hRel hsub hgw
      obtain ⟨b2, off2, rfl, hb2⟩ := hs.addr (by omega)
      have d0 := hso.c0 j hj
      have d1 := hso.c1 j hj
      have hb2o : b2 < wo.heap.size := Nat.lt_of_lt_of_le hb2 hfin.size
      go_wp2_with fail
      go_loopw [8] (fun s wr => ∃ r : Nat, s = .int .i64 r ∧ r ≤ A.length ∧ Hid (∀ q, q < r → rTaken l A j q = true) ∧ Below wo.heap.size wo wr) (fun s _ => A.length - (intOf s).toNat)
      case atStart => exact ⟨0, rfl, Nat.zero_le _, fun q hq => absurd hq (by omega), Below.refl _ _⟩
      case round =>
        obtain ⟨r, rfl, hrA, Hq, hb5⟩ := hrel
        have kT := fun x : BW wr => r44taken_c _ _ _ l (M.take k) (roomArr l.length A) (fr l j) (tt l j) r x.1 ((hso.below hb5).bw x) ((hsome.below hb5).bw x) ((hro.below hb5).bw x) hkl HA2.out
        rw [show takB l (roomArr l.length A) (fr l j, tt l j) r (M.take k) = rTaken l A j r from HRel.out j r] at kT
        have e0 := fun x : BW wr => bw_cell x ((hb5.cell (p := ⟨g22, k, none⟩) hg22o).trans c22) (Nat.lt_of_lt_of_le hg22o hb5.size)
        have e1 := fun x : BW wr => bw_cell x ((hb5.cell (p := ⟨b2, off2 + j * 2, none⟩) hb2o).trans d0) (Nat.lt_of_lt_of_le hb2o hb5.size)
        have e2 := fun x : BW wr => bw_cell x ((hb5.cell (p := ⟨b2, off2 + j * 2 + 1, none⟩) hb2o).trans d1) (Nat.lt_of_lt_of_le hb2o hb5.size)
        cases ht : rTaken l A j r
        · rw [ht] at kT
          have hA3 : RoomsOf l (M.take (k + 1)) (A ++ [(j, r)]) := by rw [Htk.out]; exact .snoc HA.out ⟨ht, Hq.out⟩
          have HA3 := Lib.hid hA3; have KT := Lib.hid kT
          clear hA3 kT ht
          go_wp2_with fail
          refine wp_region_below (by kernel_rfl) (by kernel_rfl) ?_
          repeat (go_big_quiet_step ((go_at_call 50; exact calls_bw _ (KT.out _))))
          refine wpQuiet_nil ?_
          rintro w6 ⟨⟨_, hb6⟩, rfl⟩
          clear e0 e1 e2
          have hb7 := hb5.trans (hb6.mono hb5.size)
          have hown6 := own_below hown hb7 (Nat.le_refl _)
          have f12 := World.ownsRow.frozenAt hown6 j
          have c12 := (World.ownsRow.cellAt hown6 j (by omega)).trans (flatI_get _ j (by rw [roomArr_len]; exact hj))
          have c22 := (hb7.cell (p := ⟨g22, k, none⟩) hg22o).trans c22
          have hT6 := hT.trans (Two.of_below hb7)
          have hAl := HAl.out
          have hrA' := hrA
          rw [hAl] at hrA'
          have hown7 := Lib.hid hown6; clear hT hown hown6 hb6 hb7 HAl
          by_cases hcm : cntR A < (r : Int) + 1
          all_goals
            go_wp2
            go_roundw
            case rel =>
              have hst := hown7.out.stored j (.int .i64 r)
              refine ⟨k + 1, A ++ [(j, r)], by go_num, hlt, by rw [cntR_snoc]; go_num, HA3, ?_, hT6.trans (Two.set g1 g1 w6 j _)⟩
              rw [roomArr_snoc, show flatI ((roomArr l.length A).set j (r : Int)) = (flatI (roomArr l.length A)).set j (.int .i64 r) from by simp [flatI]]
              exact hst.1
            case measure => simp [intOf]; omega
        · rw [ht] at kT
          have hq2 : ∀ q, q < r + 1 → rTaken l A j q = true := fun q hq => by
            rcases Nat.eq_or_lt_of_le (show q ≤ r by omega) with h | h
            · rw [h]; exact ht
            · exact Hq.out q h
          have hrb := room_bound hq2
          have Hq2 := Lib.hid hq2; have KT := Lib.hid kT
          clear hq2 kT ht
          go_wp2_with fail
          refine wp_region_below (by kernel_rfl) (by kernel_rfl) ?_
          repeat (go_big_quiet_step ((go_at_call 50; exact calls_bw _ (KT.out _))))
          refine wpQuiet_nil ?_
          rintro w6 ⟨⟨_, hb6⟩, rfl⟩
          clear e0 e1 e2
          have hb7 := hb5.trans (hb6.mono hb5.size)
          go_wp2
          go_roundw
          case rel => exact ⟨r + 1, by go_num, hrb, Hq2.out, hb7⟩
          case measure => simp [intOf]; omega
    · obtain rfl : k = M.length := by omega
      have hA := HA.out
      rw [List.take_length] at hA
      have HA2 := Lib.hid hA; clear hA HA
      have hfin : Below w.heap.size w wo := hB4.trans (hT.below (by rw [HG1.out]; exact Nat.le_refl _) (by rw [HG1.out]; exact Nat.le_refl _) hB4.size)
      have Hfin := Lib.hid hfin; clear hfin
      go_wp2
      go_ret2
      refine ⟨roomArr l.length A, cntR A, .slice (some ⟨g1, 0, none⟩) l.length l.length, ⟨M, A, HM.out, HA2.out, rfl, rfl⟩, rfl, ?_, Hfin.out⟩
      refine ints_of_own (base := g1) (e := 3) ?_
      rw [roomArr_len]; exact hown
end Go.Proofs.Ytahpcepnagpbdaa
