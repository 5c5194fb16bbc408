/- SweepFewest: no assignment has fewer rooms: spans with a point in common have different rooms, and the number of rooms is the greatest depth; whatever the list. No condition. -/
import Derived.Test.YtahpcepnagpbdaaAwake44
import Derived.Test.YtahpcepnagpbdaaSwJ
import Derived.Test.YtahpcepnagpbdaaSwC
import Derived.Test.YtahpcepnagpbdaaFewP
import Derived.Test.YtahpcepnagpbdaaOpen
namespace Go.Proofs.Ytahpcepnagpbdaa
open Go.RowKit Go.ChangeShapes Go.WideShapes Go.ChangeAt

def mxF (F : List Dep) (k : Nat) : Int := (F.take k).foldl (fun m f => max m f.1) 0
theorem mxF_step {F : List Dep} {k : Nat} (h : k < F.length) : mxF F (k + 1) = max (mxF F k) (dn F k) := by
  unfold mxF; rw [dep_take h]; simp
set_option maxRecDepth 100000 in
set_option maxHeartbeats 4000000 in
theorem lawFewest_c (v : Value) (l : List Sp) (w : World) (h1 : IsSpans w v l) :
    Calls Try.prog 4 #[v] w (Ret w (.bool true)) := by
  obtain ⟨A, c, rfl, hnc, hc⟩ := h1.form
  have hla : l.length ≤ 9223372036854775807 := by omega
  go_enter Try.func4, Try.ntmps4
  go_wp2_with fail
  refine (awake44_c _).mono ?_
  rintro e w1 ⟨rfl, hB⟩
  have h1 := h1.below hB
  go_wp2_with fail
  refine (great44_c _ [l.length] _ (by exact slices_one w1.heap.size rfl hla)).mono ?_
  rintro e w2 ⟨rfl, rfl⟩
  have hB := hB.alloc hB.size (.cells #[.slice A l.length c] 22)
  have h1 := h1.alloc (.cells #[.slice A l.length c] 22)
  cases hg : anyLong60 [l.length]
  · have hl : l.length ≤ 60 := by simpa [anyLong60, longAt60] using hg
    clear hg
    generalize w1.alloc (.cells #[.slice A l.length c] 22) = w2 at *
    have hval := r44Valid_c _ l _ h1
    cases hr : rightB l
    · rw [hr] at hval
      have Hv := Lib.hid hval; clear hval hr
      go_wp2_with fail
      refine Hv.out.mono ?_
      rintro e w4 ⟨rfl, hb⟩
      have hB := hB.trans (hb.mono hB.size)
      go_wp2
      go_ret
      exact ⟨rfl, hB⟩
    · rw [hr] at hval
      have Hv := Lib.hid hval
      have Hr := Lib.hid hr
      clear hval hr
      go_wp2_with fail
      refine Hv.out.mono ?_
      rintro e w3 ⟨rfl, hb⟩
      have h1 := h1.below hb
      have hB := hB.trans (hb.mono hB.size)
      clear hb
      go_wp2_with fail
      refine (sRooms_c _ l _ h1).mono ?_
      rintro e w4 ⟨R, n, v2, hR, rfl, h2, hb⟩
      rw [if_pos Hr.out] at hR
      have h1 := h1.below hb
      have hB := hB.trans (hb.mono hB.size)
      have hoks : ∀ s ∈ l, s.1 < s.2 := fun s hs => by
        have := (okSpan_iff s).1 (List.all_eq_true.1 (rightB_ok Hr.out) s hs); unfold OkSp at this; omega
      have hok : ∀ j, j < l.length → fr l j < tt l j := fun j hj => hoks _ (idx_mem hj)
      have HFew := Lib.hid (fun (F : List Dep) (hF : DepRes l F) => few_res hok hoks hR hF)
      have hDex : ∃ F, DepRes l F := dep_ex l
      obtain ⟨F0, hF0⟩ := hDex
      have hf0 := HFew.out F0 hF0
      have hRl := hf0.len
      have HRoom := Lib.hid hf0.room; have HApart := Lib.hid hf0.apart
      clear hR hb hok hoks hf0 hF0
      have h2 := rows_ints h2 hRl
      obtain ⟨A2, c2, rfl, hn2, hc2⟩ := h2.form
      go_wp2
      go_loopw [32] (fun i wr => ∃ k : Nat, i = .int .i64 k ∧ k ≤ l.length ∧ Below w4.heap.size w4 wr) (fun i _ => l.length - (intOf i).toNat)
      case atStart => exact ⟨0, rfl, Nat.zero_le _, Below.refl _ _⟩
      case round =>
        obtain ⟨i, rfl, hi, hbw⟩ := hrel
        obtain ⟨wo, rfl⟩ : ∃ wo : World, wo = wr := ⟨_, rfl⟩
        by_cases hlt : i < l.length
        · obtain ⟨g1, o1, rfl, hg1⟩ := h1.addr (by omega)
          obtain ⟨g2, o2, rfl, hg2⟩ := h2.addr (by omega)
          have d0 := (h1.below hbw).c0 i hlt
          have d1 := (h1.below hbw).c1 i hlt
          have r0 := (h2.below hbw).i0 i hlt
          obtain ⟨q1, q2⟩ := HRoom.out i hlt
          have hap : ∀ k, k < i → iv R i = iv R k → comSp (fr l i, tt l i) (fr l k, tt l k) = false := fun k hk => HApart.out i k hlt hk
          have Hap := Lib.hid hap; clear hap
          generalize iv R i = x at *
          generalize fr l i = s0 at *
          generalize tt l i = t0 at *
          have z1 : g1 < wo.heap.size := Nat.lt_of_lt_of_le hg1 hbw.size
          have z2 : g2 < wo.heap.size := Nat.lt_of_lt_of_le hg2 hbw.size
          go_wp2
          go_loopw [49] (fun k wr => ∃ j : Nat, k = .int .i64 j ∧ j ≤ i ∧ Below wo.heap.size wo wr) (fun k _ => i - (intOf k).toNat)
          case atStart => exact ⟨0, rfl, Nat.zero_le _, Below.refl _ _⟩
          case round =>
            obtain ⟨k, rfl, hk, hbk⟩ := hrel
            by_cases hlk : k < i
            · have hkl : k < l.length := by omega
              have hbx := hbw.trans (hbk.mono hbw.size)
              have e0 := (h1.below hbx).c0 k hkl
              have e1 := (h1.below hbx).c1 k hkl
              have e2 := (h2.below hbx).i0 k hkl
              have e3 := (hbk.cell (p := ⟨g2, o2 + i, none⟩) z2).trans r0
              have e4 := (hbk.cell (p := ⟨g1, o1 + i * 2, none⟩) z1).trans d0
              have e5 := (hbk.cell (p := ⟨g1, o1 + i * 2 + 1, none⟩) z1).trans d1
              have hap := Hap.out k hlk
              generalize iv R k = y at *
              generalize fr l k = s1 at *
              generalize tt l k = t1 at *
              have zz1 : g1 < wr.heap.size := Nat.lt_of_lt_of_le z1 hbk.size
              have zz2 : g2 < wr.heap.size := Nat.lt_of_lt_of_le z2 hbk.size
              have f0 := fun X : BW wr => bw_cell X e0 zz1
              have f1 := fun X : BW wr => bw_cell X e1 zz1
              have f2 := fun X : BW wr => bw_cell X e2 zz2
              have f3 := fun X : BW wr => bw_cell X e3 zz2
              have f4 := fun X : BW wr => bw_cell X e4 zz1
              have f5 := fun X : BW wr => bw_cell X e5 zz1
              clear e0 e1 e2 e3 e4 e5
              have hgo : (x == y) = false ∨ ((x == y) = true ∧ decide (s0 < t1) = false) ∨ ((x == y) = true ∧ decide (s0 < t1) = true ∧ decide (s1 < t0) = false) := by
                cases hxy : x == y
                · exact .inl rfl
                · by_cases h3 : s0 < t1
                  · by_cases h4 : s1 < t0
                    · have := hap (beq_iff_eq.1 hxy)
                      simp [comSp, h3, h4] at this
                    · exact .inr (.inr ⟨rfl, decide_eq_true h3, decide_eq_false h4⟩)
                  · exact .inr (.inl ⟨rfl, decide_eq_false h3⟩)
              clear hap
              rcases hgo with hq | ⟨hq, h3⟩ | ⟨hq, h3, h4⟩
              all_goals
                go_wp2_with fail
                refine wp_region_below (by kernel_rfl) (by kernel_rfl) ?_
                repeat (go_big_quiet_step (fail))
                refine wpQuiet_nil ?_
                rintro w5 ⟨⟨_, hb5⟩, rfl⟩
                have hb6 := hbk.trans (hb5.mono hbk.size)
                clear f0 f1 f2 f3 f4 f5
                go_wp2
                go_roundw
                case rel => exact ⟨k + 1, by go_num, by omega, hb6⟩
                case measure => simp [intOf]; omega
            · obtain rfl : k = i := by omega
              have hbx := hbw.trans (hbk.mono hbw.size)
              go_wp2
              go_roundw
              case rel => exact ⟨k + 1, by go_num, by omega, hbx⟩
              case measure => simp [intOf]; omega
        · obtain rfl : i = l.length := by omega
          have hB := hB.trans (hbw.mono hB.size)
          have h1 := h1.below hbw
          clear hbw h2
          go_wp2_with fail
          refine (sDepth_c _ l _ h1).mono ?_
          rintro e w5 ⟨F, v5, hF, rfl, h5, hb⟩
          rw [if_pos Hr.out] at hF
          have HM := Lib.hid (HFew.out F hF).most
          have hB := hB.trans (hb.mono hB.size)
          obtain ⟨A5, c5, rfl, hn5, hc5⟩ := h5.form
          clear hb hF
          go_wp2
          go_loopw [7, 92] (fun m i wr => ∃ k : Nat, i = .int .i64 k ∧ k ≤ F.length ∧ m = .int .i64 (mxF F k) ∧ Below w5.heap.size w5 wr) (fun _ i _ => F.length - (intOf i).toNat)
          case atStart => exact ⟨0, rfl, Nat.zero_le _, rfl, Below.refl _ _⟩
          case round =>
            obtain ⟨k, rfl, hk, rfl, hbw⟩ := hrel
            by_cases hlt : k < F.length
            · obtain ⟨g1, o1, rfl, hg1⟩ := h5.addr (by omega)
              obtain ⟨vb, vo, vc, f0, f1, f2, f3, f4, f5, f6, f7, f8⟩ := (h5.below hbw).row k hlt
              have hst := mxF_step hlt
              have hb6 := hbw.alloc hbw.size (.cells #[.slice (some ⟨vb, vo, none⟩) 1 vc, .int .i64 (df F k), .int .i64 (dt F k)] 36)
              have Hst := Lib.hid hst; clear hst
              generalize mxF F k = m at *
              generalize dn F k = q at *
              generalize df F k = q1 at *
              generalize dt F k = q2 at *
              go_wp2
              go_roundw
              case rel => exact ⟨k + 1, by go_num, by omega, by rw [Hst.out], hb6⟩
              case measure => simp [intOf]; omega
            · obtain rfl : k = F.length := by omega
              have hm : mxF F F.length = n := by rw [← HM.out, mxF, List.take_length]
              rw [hm]
              have hB := hB.trans (hbw.mono hB.size)
              go_wp2
              go_ret
              exact ⟨rfl, hB⟩
  · go_wp2
    go_ret
    exact ⟨rfl, hB⟩

set_option maxRecDepth 100000 in
theorem lawFewest_lifted (os : Os) (started : os.Started) (H : Type) (enc : TypeId × Value → H) :
    ReturnsInHanded {} Try.checked os 4 .any (Rows.sweepFewestSpec.pre6 enc Try.prog Try.f4 Rows.sweepFewestRow.domain false) (Rows.sweepFewestSpec.post enc Try.prog Try.f4 false true false false) := by
  refine returnsInHanded_of_change (C := Try.checked) Try.own started (by kernel_rfl) Try.func4
    (ChangeSpec.witness6 (enc := enc) (C := Try.checked) false ⟨#[], #[.slice none 0 0], []⟩ 8 (by kernel_rfl) (by kernel_rfl) (by kernel_rfl) (by kernel_rfl)) ?_
  intro W base args ds gs before hval0 hW hcnd _
  have hval : ∀ (j : Nat) t v, Try.f4.params[j]? = some t → args[j]? = some v → Value.okWide Try.prog W .any base t v := hval0
  have hW' := hW
  obtain ⟨p, q, hA0, hV, rfl, hfz, hnd⟩ := hW
  have hA : DataW.TrodAll enc Try.prog W 0 (fun _ => true) true Try.f4.params.toList args.toList ds p := hA0
  have hA1 := hA0
  rw [Try.params4] at hA hval
  obtain ⟨v0, d0, rfl, rfl, h0⟩ := trodAll_one hA
  obtain ⟨rfl, rfl⟩ := trodVars_none hV
  obtain ⟨l, g0, r0⟩ := open_spans (hval 0 22 v0 rfl rfl) h0
  clear hA0 hval0
  have hlt : ∀ x ∈ p, x.block < W.heap.size := fun x hx => hW'.lt x (by simp [hx])
  refine (lawFewest_c v0 l W g0).mono fun e W' ⟨he, hg⟩ => ?_
  subst he
  exact ⟨_, rfl, post_of_below (pa := p) (pv := []) hW' (fun _ _ _ => trodAll_mk1 (shut_bool Try.underlying4 _))
    (fun sp hsp => trodAll_keep Try.laidOut hg (by kernel_rfl) hA1 hlt (fun x hx => hsp x (by simp [hx])))
    (fun _ _ => rfl) rfl hg (ok_one (by kernel_rfl) rfl (okWide_bool_mk Try.underlying4 _))⟩

theorem lawFewest_holds : Rows.SweepFewestSaid :=
  OpenClaim.holds_of_wide 4 Try.f4 rfl rfl rfl rfl rfl rfl rfl ⟨rfl, rfl, rfl, rfl, rfl⟩ rfl rfl rfl rfl rfl (by kernel_rfl) Try.func4 (by kernel_rfl)
    (of_decide_eq_true (by kernel_rfl)) (by unfold Func.isWrapper; first | (rw [if_pos (by decide +kernel)]; kernel_rfl) | (rw [if_neg (by decide +kernel)]; exact ⟨rfl, rfl⟩))
    (fun os started H enc _ => lawFewest_lifted os started H enc)
#print axioms lawFewest_holds
end Go.Proofs.Ytahpcepnagpbdaa
