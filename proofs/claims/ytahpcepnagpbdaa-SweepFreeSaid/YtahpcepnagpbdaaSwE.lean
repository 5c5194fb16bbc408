/- The walks of sweep.taken and sweep.Rooms. -/
import Derived.Test.YtahpcepnagpbdaaRoomP
import Derived.Test.YtahpcepnagpbdaaSwB
import Derived.Test.YtahpcepnagpbdaaMapE
import Derived.Test.YtahpcepnagpbdaaRunsR
import Derived.Maps.OwnSet
import Derived.Maps.RangeWalk
namespace Go.Proofs.Ytahpcepnagpbdaa
open Go.RowKit Go.Shelf
open Go.Maps (Keyed int_keyed keyOf_int_mk strike_twice)

theorem kInt : Keyed Try.prog 3 := int_keyed Try.underlying3
theorem zInt (w : World) : (zeroValue 3).run Try.prog w = .ok (.int .i64 0) w := by kernel_rfl
theorem wf_of {x : Int} (h0 : -9223372036854775808 ≤ x) (h1 : x ≤ 9223372036854775807) : (Lit.int .i64 x).wf = true := by
  simp [Lit.wf, IntKind.min, IntKind.max, IntKind.signed, IntKind.bits]
  omega
/-- Block b is a map of numbers that holds these entries. -/
def OwnsM (w : World) (b n : Nat) (es : Ents) : Prop := w.ownsMap Try.prog 3 (plainElem Try.prog 3) b n (.map es)
theorem OwnsM.below {w w' : World} {b n : Nat} {es : Ents} (h : OwnsM w b n es) (hb : Below w.heap.size w w') : OwnsM w' b n es :=
  World.ownsMap.kept (row := none) h ⟨hb.os, hb.tape, hb.output, hb.size, fun i hi _ => hb.block i hi⟩ (by simp)
theorem OwnsM.lt {w : World} {b n : Nat} {es : Ents} (h : OwnsM w b n es) : b < w.heap.size := World.ownsMap.lt h

set_option maxRecDepth 100000 in
theorem staken_c (b n : Nat) (es : Ents) (r : Nat) (w : World) (hown : OwnsM w b n es) (hr : r ≤ 1000000) : Calls Try.prog 48 #[.map (some b), .int .i64 r] w fun e w' => e = .returned (.bool (Maps.has (.map es) (rKey r))) ∧ w = w' := by
  have hkey : keyOf Try.prog 3 (.int .i64 (r : Int)) = some (rKey r) := keyOf_int_mk Try.underlying3 (wf_of (by omega) (by omega))
  go_enter Try.func48, Try.ntmps48
  go_wp2_with (at_lookup; refine wpList_lookup_own_ok_int _ rfl _ _ 75 rfl 3 3 .i64 kInt Try.underlying75 Try.underlying3 (zInt _) b n _ rfl hown _ _ rfl hkey ?_; intro c hat hwc)
  go_ret
  exact ⟨rfl, rfl⟩

/-- Of what was there only two blocks may have changed. -/
structure Two (g m : Nat) (w w' : World) : Prop where
  os : w'.os = w.os
  tape : w'.tape = w.tape
  output : w'.output = w.output
  size : w.heap.size ≤ w'.heap.size
  block : ∀ k, k < w.heap.size → k ≠ g → k ≠ m → w'.heap[k]? = w.heap[k]?
theorem Two.refl (g m : Nat) (w : World) : Two g m w w := ⟨rfl, rfl, rfl, Nat.le_refl _, fun _ _ _ _ => rfl⟩
theorem Two.trans {g m : Nat} {a b c : World} (h : Two g m a b) (k : Two g m b c) : Two g m a c :=
  ⟨k.os.trans h.os, k.tape.trans h.tape, k.output.trans h.output, Nat.le_trans h.size k.size, fun i hi h1 h2 => (k.block i (Nat.lt_of_lt_of_le hi h.size) h1 h2).trans (h.block i hi h1 h2)⟩
theorem Two.of_below {g m : Nat} {w w' : World} (h : Below w.heap.size w w') : Two g m w w' := ⟨h.os, h.tape, h.output, h.size, fun k hk _ _ => h.block k hk⟩
theorem Two.of_grown {g m : Nat} {w w' : World} (h : w.grownBy w' (some m)) : Two g m w w' := ⟨h.os, h.tape, h.output, h.size, fun k hk _ h2 => h.block k hk (fun e => h2 (Option.some.inj e))⟩
theorem Two.set (g m : Nat) (w : World) (j : Nat) (v : Value) : Two g m w (w.setCell ⟨g, j, none⟩ v) := ⟨rfl, rfl, rfl, by simp [World.setCell], fun k _ h1 _ => Below.heap_setCell _ _ _ _ h1⟩
theorem Two.cell {g m : Nat} {w w' : World} (h : Two g m w w') {b o : Nat} (hb : b < w.heap.size) (h1 : b ≠ g) (h2 : b ≠ m) : w'.cell? ⟨b, o, none⟩ = w.cell? ⟨b, o, none⟩ := World.cell?_of_block (h.block b hb h1 h2)
theorem Two.below {g m B : Nat} {w w' : World} (h : Two g m w w') (h1 : B ≤ g) (h2 : B ≤ m) (h3 : B ≤ w.heap.size) : Below B w w' := ⟨h.os, h.tape, h.output, h.size, fun k hk => h.block k (by omega) (by omega) (by omega)⟩
/-- Two numbers handed back: a list, and its number. -/
def RoomsRet (l : List Sp) (w : World) (e : Ending) (w' : World) : Prop := ∃ R c v, (if rightB l = true then RoomsRes l R c else R = [] ∧ c = 0) ∧ e = .returned (.tuple #[v, .int .i64 c]) ∧ IsInts w' v R ∧ Below w.heap.size w w'
theorem tIntInfo' : (Try.prog.info? 3).map (fun i => (i.zero, i.size, i.bytes)) = some (some (.int .i64 0), 1, 8) := by kernel_rfl
theorem pickL_all (l : List Sp) (n : Nat) : pickL l (fun _ => true) n = List.range n := by simp [pickL]
theorem made_zero (n : Nat) : (madeCells (Value.cells (.int .i64 0)) (n * 1)).toList = flatI (List.replicate n 0) := by
  show (madeCells #[Value.int .i64 0] (n * 1)).toList = _
  rw [toList_madeCells_one, Nat.mul_one]; simp [flatI]

set_option maxRecDepth 100000 in
set_option maxHeartbeats 16000000 in
theorem sRooms_c (v : Value) (l : List Sp) (w : World) (hs : IsSpans w v l) : Calls Try.prog 15 #[v] w (RoomsRet l w) := by
  obtain ⟨A0, c, rfl, hnc, hc⟩ := hs.form
  cases hr : rightB l
  · go_enter Try.func15, Try.ntmps15
    go_wp2_with fail
    refine (sright_c _ l _ hs).mono ?_
    rw [hr]
    rintro e w1 ⟨rfl, hb⟩
    go_wp2
    go_ret2
    exact ⟨[], 0, _, by rw [if_neg (by rw [hr]; exact Bool.false_ne_true)]; exact ⟨rfl, rfl⟩, rfl, IsInts.nil, hb⟩
  · have hl := rightB_len hr
    have hok := okS_all (rightB_ok hr)
    have Hok := Lib.hid (fun i (hi : i < l.length) => hok _ (idx_mem hi)); clear hok
    have hmm := @run_makeMap Try.prog
    obtain ⟨i0, hi, hz0, hz1, hz2⟩ := info_parts tIntInfo'
    go_enter Try.func15, Try.ntmps15
    go_wp2_with fail
    refine (sright_c _ l _ hs).mono ?_
    rw [hr]
    rintro e w1 ⟨rfl, hb⟩
    have hs1 := hs.below hb
    have hb0 := hb.size
    go_wp2_with (at_make; refine wpList_make_full _ rfl _ _ 25 rfl w1.heap.size 3 i0 (.int .i64 0) 1 Try.underlying25 hi hz0 hz1 .i64 .i64 _ _ l.length rfl rfl rfl rfl (by rw [hz2]; omega) (by unfold maxLen; omega) (Nat.le_refl _) ?_; intro w2 hown2 hgrow2)
    have hb2 : Below w1.heap.size w1 w2 := ⟨hgrow2.os, hgrow2.tape, hgrow2.output, hgrow2.size, fun k hk => hgrow2.block k hk (by simp)⟩
    have hz12 : w1.heap.size < w2.heap.size := World.ownsRow.lt hown2 _ rfl |>.2
    rw [made_zero] at hown2
    have hm3 : OwnsM (w2.alloc (.map #[] 0)) w2.heap.size 0 [] := World.ownsMap_made w2 _ _ _
    have hown3 := hown2.alloc (.map #[] 0)
    have hb3 := hb2.alloc hb2.size (.map #[] 0)
    have hz3 : (w2.alloc (.map #[] 0)).heap.size = w2.heap.size + 1 := by simp
    generalize w2.alloc (.map #[] 0) = w3 at *
    have hs3 := hs1.below hb3
    refine (ssorted_c 45 #[] (fun _ => true) 47 (·.1) key_from _ l w3 hs3 (pred_all w3) (by omega)).mono ?_
    rintro e w4 ⟨M, v22, hM, rfl, hv22, hb4⟩
    rw [pickL_all] at hM
    have hown4 := own_below hown3 hb4 (Nat.le_refl _)
    have hm4 := hm3.below hb4
    have hs4 := hs3.below hb4
    have hB4 := hb.trans ((hb3.trans (hb4.mono hb3.size)).mono hb.size)
    have hz4 := hb4.size
    have hMl : M.length ≤ 1000 := by have := hM.perm.length_eq; simp at this; omega
    have hMlt : ∀ k, k < M.length → ix M k < l.length := fun k hk => List.mem_range.1 (hM.perm.mem_iff.1 (ix_mem hk))
    have hMle : ∀ j k, j < k → k < M.length → fr l (ix M j) ≤ fr l (ix M k) := fun j k hjk hk => by
      have := (List.pairwise_iff_getElem.1 hM.asc) j k (by omega) hk hjk
      rw [ix_at, ix_at] at this
      exact lex_le this
    have HM := Lib.hid hM; have HMlt := Lib.hid hMlt; have HMle := Lib.hid hMle
    clear hM hMlt hMle hgrow2 hown2 hown3 hm3 hs3 hs hb hb2 hb3 hb4
    obtain ⟨g1, hg1⟩ : ∃ g, g = w1.heap.size := ⟨_, rfl⟩
    obtain ⟨m1, hm1⟩ : ∃ g, g = w2.heap.size := ⟨_, rfl⟩
    obtain ⟨n3, hn3⟩ : ∃ g, g = w3.heap.size := ⟨_, rfl⟩
    rw [← hg1] at hown4 hz12 ⊢
    rw [← hm1] at hm4 hz12 hz3 ⊢
    rw [← hn3] at hv22 hz3 hz4
    have hz5 : m1 < n3 := by omega
    have hB4' : w.heap.size ≤ g1 := by rw [hg1]; exact hb0
    have HG1 := Lib.hid hg1
    clear hg1 hm1 hn3 hz3
    obtain ⟨B22, c22, rfl, hc22⟩ := own_formX hv22
    go_wp2_with fail
    go_loopw [6, 24] (fun cv i wr => ∃ (k : Nat) (A : List (Nat × Nat)) (x : Int) (es : Ents) (nE : Nat), i = .int .i64 k ∧ k ≤ M.length ∧ cv = .int .i64 (cntR A) ∧ Hid (RoomsOf l (M.take k) A) ∧ Hid (OpenInv l A x es) ∧ Hid (∀ j, k ≤ j → j < M.length → x ≤ fr l (ix M j)) ∧ nE ≤ k ∧
      wr.ownsRow g1 3 1 (.slice (some ⟨g1, 0, none⟩) l.length l.length) l.length (flatI (roomArr l.length A)) ∧ OwnsM wr m1 nE es ∧ Two g1 m1 w4 wr) (fun _ i _ => M.length - (intOf i).toNat)
    case atStart =>
      refine ⟨0, [], -4398046511104, [], 0, rfl, Nat.zero_le _, rfl, .nil, open_nil _ _, fun j _ hj => ?_, Nat.le_refl _, hown4, hm4, Two.refl _ _ _⟩
      have := Hok.out _ (HMlt.out j hj)
      unfold OkSp at this
      exact this.1
    case round =>
      obtain ⟨k, A, x, es, nE, rfl, hk, rfl, HA, HO, HX, hnE, hown, hmo, hT⟩ := hrel
      obtain ⟨wo, rfl⟩ : ∃ wo : World, wo = wr := ⟨_, rfl⟩
      have hAl : A.length = k := by have := (rooms_lt HA.out).1; simp at this; omega
      have hcb := cntR_bd A k (fun p hp => by have := (rooms_lt HA.out).2 p hp; simp at this; omega)
      have HAl := Lib.hid hAl; clear hAl
      by_cases hlt : k < M.length
      · obtain ⟨g22, cap22, he, hgb22, hg22, _, _⟩ := hv22.form (by omega)
        injection he with e1 _ e3
        subst e1 e3
        have hj := HMlt.out k hlt
        have c22 := (hT.cell (b := g22) (o := k) hg22 (by omega) (by omega)).trans (hv22.cell k hlt)
        obtain ⟨b2, off2, rfl, hb2⟩ := hs1.addr (by omega)
        have hbg : b2 < g1 := by rw [HG1.out]; exact hb2
        have hb24 : b2 < w4.heap.size := by omega
        have hb2o : b2 < wo.heap.size := Nat.lt_of_lt_of_le hb24 hT.size
        have d0 := (hT.cell (b := b2) (o := off2 + ix M k * 2) hb24 (by omega) (by omega)).trans (hs4.c0 (ix M k) hj)
        have d1 := (hT.cell (b := b2) (o := off2 + ix M k * 2 + 1) hb24 (by omega) (by omega)).trans (hs4.c1 (ix M k) hj)
        have hx := HX.out k (Nat.le_refl _) hlt
        have hsp := Hok.out _ hj
        unfold OkSp at hsp
        obtain ⟨hsp1, hsp2, hsp3⟩ := hsp
        have hA1 : ∀ p ∈ A, fr l p.1 ≤ fr l (ix M k) := fun p hp => by
          have hm : p.1 ∈ M.take k := by rw [← rooms_fst HA.out]; exact List.mem_map.2 ⟨p, hp, rfl⟩
          obtain ⟨j, hjl, he⟩ := List.mem_iff_getElem.1 hm
          rw [List.length_take] at hjl
          rw [List.getElem_take, ix_at (by omega)] at he
          rw [← he]
          exact HMle.out j k (by omega) hlt
        have HTk := Lib.hid (fun r => taken_swept HO.out hx hA1 hsp2 r)
        have HPut := Lib.hid (fun r es' => open_put (r := r) (es' := es') HO.out hx hA1 hsp2)
        have hxk : ∀ j, k + 1 ≤ j → j < M.length → fr l (ix M k) ≤ fr l (ix M j) := fun j h1 h2 => HMle.out k j (by omega) h2
        have HXk := Lib.hid hxk; clear hxk
        obtain ⟨es2, he2, hap, hkeys⟩ := World.ownsMap.entries hmo kInt
        injection he2 with he2
        subst he2
        have Hap := Lib.hid hap; have Hkeys := Lib.hid hkeys
        have htk := take_ix hlt
        have Htk := Lib.hid htk
        clear hap hkeys hA1 htk HX hmm
        obtain ⟨j, hjx⟩ : ∃ j, j = ix M k := ⟨_, rfl⟩
        rw [← hjx] at c22 d0 d1 hj hx hsp1 hsp2 hsp3 HTk HPut HXk Htk
        clear hjx
        obtain ⟨F, hF⟩ : ∃ F, F = fr l j := ⟨_, rfl⟩
        obtain ⟨T, hTT⟩ : ∃ T, T = tt l j := ⟨_, rfl⟩
        rw [← hF] at d0 hx hsp1 hsp2 HTk HPut HXk
        rw [← hTT] at d1 hsp2 hsp3 HPut
        have HF := Lib.hid hF; have HT := Lib.hid hTT; clear hF hTT
        go_wp2_with (at_range; refine wpList_range_own _ rfl _ 75 rfl 3 3 kInt Try.underlying75 _ m1 nE (.map es) rfl hmo ?_; intro w5 hrg0 hg0 hs0)
        try go_frame
        go_loopw [10] (fun _ wr => ∃ (left : Lit → Bool) (cnt : Nat), wr.ranges Try.prog 3 (plainElem Try.prog 3) m1 wo.heap.size nE (Maps.Fk (endLe F) es left) left cnt ∧ wo.grownBy wr (some m1)) (fun _ wr => wr.rangeLeft m1 wo.heap.size)
        case atStart => exact ⟨_, _, by rw [Maps.Fk_start Hkeys.out]; exact hrg0, hg0.but _⟩
        case round =>
          obtain ⟨left, cnt, hrg, hgw⟩ := hrel
          go_wp2_with (at_next; refine wpList_next_ranges_ii _ rfl _ rfl 3 3 .i64 .i64 kInt Try.underlying3 Try.underlying3 m1 wo.heap.size nE _ _ _ rfl hrg ?_ ?_)
          · intro _ hl0
            have hmo2 : OwnsM wr m1 nE (swept F es) := by
              have h := hrg.owns
              rw [Maps.Fk_end hl0] at h
              exact h
            have hT2 : Two g1 m1 w4 wr := hT.trans (Two.of_grown hgw)
            have hown2 := World.ownsRow.kept hown hgw (.inr (by intro e; have := Option.some.inj e; simp only at this; omega))
            have d2 : wr.cell? ⟨b2, off2 + j * 2 + 1, none⟩ = some (.int .i64 T) := (World.cell?_of_block (a := ⟨b2, off2 + j * 2 + 1, none⟩) (hgw.block b2 hb2o (by intro e; have := Option.some.inj e; omega))).trans d1
            have hb2r : b2 < wr.heap.size := Nat.lt_of_lt_of_le hb2o hgw.size
            clear hrg hgw hl0 hrg0 hg0 hs0 d0 d1 c22
            obtain ⟨w8, rfl⟩ : ∃ x : World, x = wr := ⟨_, rfl⟩
            have hAl2 : A.length ≤ k := by rw [HAl.out]; exact Nat.le_refl _
            go_wp2_with fail
            go_loop [12] (fun s => ∃ r : Nat, s = .int .i64 r ∧ r ≤ A.length ∧ Hid (∀ q, q < r → rTaken l A j q = true)) (fun s => A.length - (intOf s).toNat)
            case atStart => exact ⟨0, rfl, Nat.zero_le _, fun q hq => absurd hq (by omega)⟩
            case round =>
              obtain ⟨r, rfl, hrA, Hq⟩ := hrel
              have kT := staken_c m1 nE (swept F es) r w8 hmo2 (by omega)
              rw [HTk.out r] at kT
              cases ht : rTaken l A j r
              · rw [ht] at kT
                have hA2 : RoomsOf l (M.take (k + 1)) (A ++ [(j, r)]) := by rw [Htk.out]; exact .snoc HA.out ⟨ht, Hq.out⟩
                obtain ⟨es', hes'⟩ : ∃ es', (DataW.map (swept F es)).put (rKey r) (rEnd T) = .map es' := ⟨_, rfl⟩
                have hO2 := HPut.out r es' ht hes'
                have hkey : keyOf Try.prog 3 (.int .i64 (r : Int)) = some (rKey r) := keyOf_int_mk Try.underlying3 (wf_of (by omega) (by omega))
                have hwT : (Lit.int .i64 T).wf = true := wf_of (by omega) (by omega)
                have HA2 := Lib.hid hA2; have HO2 := Lib.hid hO2; have KT := Lib.hid kT; have Hes := Lib.hid hes'; have Hkey := Lib.hid hkey; have HwT := Lib.hid hwT
                clear hA2 hO2 kT hes' hkey hwT ht
                go_wp2_with fail
                refine KT.out.mono ?_
                rintro e w9 ⟨rfl, rfl⟩
                have e0 := fun x : BW w8 => bw_cell x d2 hb2r
                go_wp2_with fail
                obtain ⟨wz, hwz⟩ : ∃ x : World, x = w8.drew := ⟨_, rfl⟩
                have hbz : Below w8.heap.size w8 wz := by rw [hwz]; exact (Below.refl _ _).drew
                refine wp_region_any (by kernel_rfl) ?_
                change wpAny _ _ _ _ _ _ _ (World.drew _)
                rw [← hwz]
                clear hwz
                have hmo3 := hmo2.below hbz
                have hown3 := own_below hown2 hbz (Nat.le_refl _)
                have hT3 := hT2.trans (Two.of_below hbz)
                have d3 : wz.cell? ⟨b2, off2 + j * 2 + 1, none⟩ = some (.int .i64 T) := (hbz.cell (by exact hb2r)).trans d2
                (refine wpAny_take (i := 0) (v := ?_) rfl (by kernel_rfl) (by kernel_rfl) (by kernel_rfl) (fun _ _ _ h => h) (Or.inl ⟨by rfl, ?_⟩) ?_; rotate_left; · (intro w; go_simp; try with_reducible rfl))
                change wpAny _ _ _ _ _ _ (Act.put _ (some 49) _) _
                (refine wpAny_take (i := 1) (v := ?_) rfl (by kernel_rfl) (by kernel_rfl) (by kernel_rfl) (fun _ _ _ h => h) (Or.inl ⟨by rfl, ?_⟩) ?_; rotate_left; · (intro w; go_simp; try with_reducible rfl))
                change wpAny _ _ _ _ _ _ (Act.put _ (some 50) _) _
                (refine wpAny_take (i := 2) (v := ?_) rfl (by kernel_rfl) (by kernel_rfl) (by kernel_rfl) (fun _ _ _ h => h) (Or.inl ⟨by rfl, ?_⟩) ?_; rotate_left; · (intro w; go_simp; try with_reducible rfl))
                change wpAny _ _ _ _ _ _ (Act.put _ (some 51) _) _
                (refine wpAny_take (i := 3) (v := ?_) rfl (by kernel_rfl) (by kernel_rfl) (by kernel_rfl) (fun _ _ _ h => h) (Or.inl ⟨by rfl, ?_⟩) ?_; rotate_left; · (intro w; go_simp; try with_reducible rfl))
                change wpAny _ _ _ _ _ _ (Act.put _ (some 52) _) _
                (refine wpAny_take (i := 4) (v := ?_) rfl (by kernel_rfl) (by kernel_rfl) (by kernel_rfl) (fun _ _ _ h => h) (Or.inl ⟨by rfl, ?_⟩) ?_; rotate_left; · (intro w; go_simp; try with_reducible rfl))
                change wpAny _ _ _ _ _ _ (Act.put _ (some 53) _) _
                (refine wpAny_take (i := 5) (v := ?_) rfl (by kernel_rfl) (by kernel_rfl) (by kernel_rfl) (fun _ _ _ h => h) (Or.inl ⟨by rfl, ?_⟩) ?_; rotate_left; · (intro w; go_simp; try with_reducible rfl))
                change wpAny _ _ _ _ _ _ (Act.put _ (some 54) _) _
                (refine wpAny_take (i := 6) (v := ?_) rfl (by kernel_rfl) (by kernel_rfl) (by kernel_rfl) (fun _ _ _ h => h) (Or.inl ⟨by rfl, ?_⟩) ?_; rotate_left; · (intro w; go_simp; try with_reducible rfl))
                change wpAny _ _ _ _ _ _ (Act.put _ (some 55) _) _
                (refine wpAny_take (i := 7) (v := ?_) rfl (by kernel_rfl) (by kernel_rfl) (by kernel_rfl) (fun _ _ _ h => h) (Or.inl ⟨by rfl, ?_⟩) ?_; rotate_left; · (intro w; go_simp; try with_reducible rfl))
                change wpAny _ _ _ _ _ _ (Act.put _ (some 56) _) _
                (refine wpAny_take (i := 9) (v := ?_) rfl (by kernel_rfl) (by kernel_rfl) (by kernel_rfl) (fun _ _ _ h => h) (Or.inl ⟨by rfl, ?_⟩) ?_; rotate_left; · (intro w; go_simp; try with_reducible rfl))
                change wpAny _ _ _ _ _ _ (Act.put _ (some 58) _) _
                go_simp
                refine wpAny_ready (rs := [8, 10]) (by kernel_rfl) (by simp) ?_
                refine AllReady.cons (o := ⟨some 57, .load 3 (.tmp 56), 3, _, _, none⟩) rfl (fun K hK => ?_) (AllReady.cons (o := ⟨some 59, .mapEntry 75 (.tmp 49) (.tmp 50), _, _, _, none⟩) rfl (fun K hK => ?_) AllReady.nil)
                · go_simp
                  refine hK _ _ ?_
                  clear hK K
                  refine wpAny_ready (rs := [10]) (by kernel_rfl) (by simp) (AllReady.cons (o := ⟨some 59, .mapEntry 75 (.tmp 49) (.tmp 50), _, _, _, none⟩) rfl (fun K hK => ?_) AllReady.nil)
                  rw [if_pos (by rfl)]
                  refine mapEntry_wp (.tmp 49) (.tmp 50) (by rfl) kInt Try.underlying75 (by rfl) hmo3 (by rfl) Hkey.out (zInt _) (fun v0 born w11 hpend hkeep => hK _ _ ?_)
                  clear hK K
                  (refine wpAny_take (i := 11) (v := ?_) rfl (by kernel_rfl) (by kernel_rfl) (by kernel_rfl) (fun _ _ _ h => h) (Or.inl ⟨by rfl, ?_⟩) ?_; rotate_left; · (intro w; go_simp; try with_reducible rfl))
                  change wpAny _ _ _ _ _ _ (Act.put _ (some 60) _) _
                  go_simp
                  refine wpAny_ready (rs := [12]) (by kernel_rfl) (by simp) (AllReady.cons (o := ⟨none, .entryStore 75 (.tmp 49) (.tmp 60) (.tmp 57), _, _, _, none⟩) rfl (fun K hK => ?_) AllReady.nil)
                  rw [if_pos (by rfl)]
                  refine entryStore_wp (.tmp 49) (.tmp 60) (.tmp 57) (by rfl) kInt Try.underlying75 hmo3 (by unfold maxLen; omega) Hkey.out hpend (by rfl) (by rfl) (by rfl) (plainElem_int Try.underlying3 HwT.out) (fun w12 hm12 hg12 => hK _ _ ?_)
                  clear hK K
                  have hown12 := World.ownsRow.kept hown3 hg12 (.inr (by intro e; have := Option.some.inj e; simp only at this; omega))
                  have f12 := World.ownsRow.frozenAt hown12 j
                  have c12 := (World.ownsRow.cellAt hown12 j (by omega)).trans (flatI_get _ j (by rw [roomArr_len]; exact hj))
                  have hT4 := hT3.trans (Two.of_grown hg12)
                  (refine wpAny_take (i := 13) (v := ?_) rfl (by kernel_rfl) (by kernel_rfl) (by kernel_rfl) (fun _ _ _ h => h) (Or.inl ⟨by rfl, ?_⟩) ?_; rotate_left; · (intro w; go_simp; try with_reducible rfl))
                  change wpAny _ _ _ _ _ _ (Act.put _ (some 61) _) _
                  go_simp
                  refine wpAny_ready (rs := [14]) (by kernel_rfl) (by simp) (AllReady.cons (o := ⟨none, .store 3 (.tmp 61) (.tmp 58), _, _, _, none⟩) rfl (fun K hK => ?_) AllReady.nil)
                  go_simp
                  refine hK _ _ ?_
                  clear hK K
                  refine wpAny_done (by kernel_rfl) ?_ _
                  go_wp2
                  go_roundw
                  case rel =>
                    have hst := hown12.stored j (.int .i64 r)
                    have hm12' : OwnsM w12 m1 (nE + 1) es' := by rw [OwnsM, ← Hes.out]; exact hm12
                    refine ⟨k + 1, A ++ [(j, r)], F, es', nE + 1, by simp, by omega, by rw [cntR_snoc], HA2, HO2, HXk, by omega, ?_, World.ownsMap.kept hm12' hst.2 (by intro e; have := Option.some.inj e; omega), hT4.trans (Two.set g1 m1 w12 j _)⟩
                    rw [roomArr_snoc, show flatI ((roomArr l.length A).set j (r : Int)) = (flatI (roomArr l.length A)).set j (.int .i64 r) from by simp [flatI]]
                    exact hst.1
                  case measure => simp [intOf]; omega
                · rw [if_pos (by rfl)]
                  refine mapEntry_wp (.tmp 49) (.tmp 50) (by rfl) kInt Try.underlying75 (by rfl) hmo3 (by rfl) Hkey.out (zInt _) (fun v0 born w11 hpend hkeep => hK _ _ ?_)
                  clear hK K
                  have d4 : w11.cell? ⟨b2, off2 + j * 2 + 1, none⟩ = some (.int .i64 T) := (hkeep _ (by intro e; simp only at e; omega)).trans d3
                  (refine wpAny_take (i := 11) (v := ?_) rfl (by kernel_rfl) (by kernel_rfl) (by kernel_rfl) (fun _ _ _ h => h) (Or.inl ⟨by rfl, ?_⟩) ?_; rotate_left; · (intro w; go_simp; try with_reducible rfl))
                  change wpAny _ _ _ _ _ _ (Act.put _ (some 60) _) _
                  go_simp
                  refine wpAny_ready (rs := [8]) (by kernel_rfl) (by simp) (AllReady.cons (o := ⟨some 57, .load 3 (.tmp 56), 3, _, _, none⟩) rfl (fun K hK => ?_) AllReady.nil)
                  go_simp
                  refine hK _ _ ?_
                  clear hK K
                  go_simp
                  refine wpAny_ready (rs := [12]) (by kernel_rfl) (by simp) (AllReady.cons (o := ⟨none, .entryStore 75 (.tmp 49) (.tmp 60) (.tmp 57), _, _, _, none⟩) rfl (fun K hK => ?_) AllReady.nil)
                  rw [if_pos (by rfl)]
                  refine entryStore_wp (.tmp 49) (.tmp 60) (.tmp 57) (by rfl) kInt Try.underlying75 hmo3 (by unfold maxLen; omega) Hkey.out hpend (by rfl) (by rfl) (by rfl) (plainElem_int Try.underlying3 HwT.out) (fun w12 hm12 hg12 => hK _ _ ?_)
                  clear hK K
                  have hown12 := World.ownsRow.kept hown3 hg12 (.inr (by intro e; have := Option.some.inj e; simp only at this; omega))
                  have f12 := World.ownsRow.frozenAt hown12 j
                  have c12 := (World.ownsRow.cellAt hown12 j (by omega)).trans (flatI_get _ j (by rw [roomArr_len]; exact hj))
                  have hT4 := hT3.trans (Two.of_grown hg12)
                  (refine wpAny_take (i := 13) (v := ?_) rfl (by kernel_rfl) (by kernel_rfl) (by kernel_rfl) (fun _ _ _ h => h) (Or.inl ⟨by rfl, ?_⟩) ?_; rotate_left; · (intro w; go_simp; try with_reducible rfl))
                  change wpAny _ _ _ _ _ _ (Act.put _ (some 61) _) _
                  go_simp
                  refine wpAny_ready (rs := [14]) (by kernel_rfl) (by simp) (AllReady.cons (o := ⟨none, .store 3 (.tmp 61) (.tmp 58), _, _, _, none⟩) rfl (fun K hK => ?_) AllReady.nil)
                  go_simp
                  refine hK _ _ ?_
                  clear hK K
                  refine wpAny_done (by kernel_rfl) ?_ _
                  go_wp2
                  go_roundw
                  case rel =>
                    have hst := hown12.stored j (.int .i64 r)
                    have hm12' : OwnsM w12 m1 (nE + 1) es' := by rw [OwnsM, ← Hes.out]; exact hm12
                    refine ⟨k + 1, A ++ [(j, r)], F, es', nE + 1, by simp, by omega, by rw [cntR_snoc], HA2, HO2, HXk, by omega, ?_, World.ownsMap.kept hm12' hst.2 (by intro e; have := Option.some.inj e; omega), hT4.trans (Two.set g1 m1 w12 j _)⟩
                    rw [roomArr_snoc, show flatI ((roomArr l.length A).set j (r : Int)) = (flatI (roomArr l.length A)).set j (.int .i64 r) from by simp [flatI]]
                    exact hst.1
                  case measure => simp [intOf]; omega
              · rw [ht] at kT
                have hq2 : ∀ q, q < r + 1 → rTaken l A j q = true := fun q hq => by
                  rcases Nat.eq_or_lt_of_le (show q ≤ r by omega) with h | h
                  · rw [h]; exact ht
                  · exact Hq.out q h
                have hrb := room_bound hq2
                have Hq2 := Lib.hid hq2; have KT := Lib.hid kT
                clear hq2 kT ht
                go_wp2_with fail
                refine KT.out.mono ?_
                rintro e w9 ⟨rfl, rfl⟩
                go_wp2
                go_round
                case rel => exact ⟨r + 1, by go_num, hrb, Hq2.out⟩
                case measure => simp [intOf]; omega
          · intro x' c' w6 cnt1 hwx hwc hlx hat hrg1 hlt1 hg6 hs6 hen
            have hgw1 := hgw.andThen hg6 (fun j hj => by cases hj; exact Or.inl (Nat.le_refl _))
            have d6 : w6.cell? ⟨b2, off2 + j * 2, none⟩ = some (.int .i64 F) := (World.cell?_of_block (a := ⟨b2, off2 + j * 2, none⟩) (hgw1.block b2 hb2o (by intro e; have := Option.some.inj e; omega))).trans d0
            have hpd : endLe F (.int .i64 x') (.lit (.int .i64 c')) = decide (c' ≤ F) := rfl
            by_cases hce : c' ≤ F
            · rw [decide_eq_true hce] at hpd
              have Hpd := Lib.hid hpd; clear hpd
              have Hat := Lib.hid hat; clear hat
              go_wp2_with (at_delete; refine wpList_delete_ranges _ rfl _ _ 75 3 rfl 3 kInt Try.underlying75 _ m1 wo.heap.size nE _ _ _ rfl hrg1 _ _ rfl (keyOf_int_mk Try.underlying3 hwx) ?_; intro w7 cnt2 hrg2 hle hturn; go_frame)
              rw [strike_twice] at hrg2
              go_roundw
              case rel => exact ⟨_, cnt2, by rw [← Maps.Fk_struck Hap.out (kl := .int .i64 x') trivial hlx Hpd.out Hat.out]; exact hrg2, hgw1.andThen hturn.grown (fun j hj => by cases hj; exact Or.inr rfl)⟩
              case measure => rw [hrg2.left_eq, hrg.left_eq]; omega
            · rw [decide_eq_false hce] at hpd
              have Hpd := Lib.hid hpd; clear hpd
              have Hat := Lib.hid hat; clear hat
              have hce2 : F < c' := by omega
              clear hce
              go_wp2
              try go_frame
              go_roundw
              case rel => exact ⟨_, cnt1, by rw [← Maps.Fk_stays Hap.out (kl := .int .i64 x') trivial hlx Hpd.out Hat.out]; exact hrg1, hgw1⟩
              case measure => rw [hrg1.left_eq, hrg.left_eq]; exact hlt1
      · obtain rfl : k = M.length := by omega
        have hA := HA.out
        rw [List.take_length] at hA
        have HA2 := Lib.hid hA; clear hA HA
        have hfin : Below w.heap.size w wo := hB4.trans (hT.below hB4' (by omega) hB4.size)
        have Hfin := Lib.hid hfin; clear hfin
        go_wp2
        go_ret2
        refine ⟨roomArr l.length A, cntR A, .slice (some ⟨g1, 0, none⟩) l.length l.length, by rw [if_pos hr]; exact ⟨M, A, HM.out, HA2.out, rfl, rfl⟩, rfl, ?_, Hfin.out⟩
        refine ints_of_own (base := g1) (e := 3) ?_
        rw [roomArr_len]; exact hown
end Go.Proofs.Ytahpcepnagpbdaa
