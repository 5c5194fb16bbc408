/- SweepSets: the pairs of a set of relations and of the other relations are together all pairs, and the overlaps are the join with the nine relations whose spans have a point in common; whatever the lists and the set. No condition. -/
import Derived.Test.YtahpcepnagpbdaaAwake44
import Derived.Test.YtahpcepnagpbdaaSwQ
import Derived.Test.YtahpcepnagpbdaaSwR
import Derived.Test.YtahpcepnagpbdaaOpen
namespace Go.Proofs.Ytahpcepnagpbdaa
open Go.RowKit Go.ChangeShapes Go.WideShapes Go.ChangeAt

theorem joinP_le (f : Rel2) (a b : List Sp) : ∀ n, (joinP f a b n).length ≤ n * b.length
  | 0 => by simp [joinP]
  | n + 1 => by
    have h1 := joinP_le f a b n
    have h2 : (rowP f a b n b.length).length ≤ b.length := by
      unfold rowP
      rw [List.length_map]
      exact Nat.le_trans (List.length_filter_le _ _) (by simp)
    rw [joinP_succ, List.length_append, Nat.add_mul]
    omega
theorem pairs_small {f : Rel2} {a b r : List Sp} {k : Int} (ha : a.length ≤ 100) (hb : b.length ≤ 100) (h : PairsSpec f a b r k) : r = joinP f a b a.length ∧ k = 0 := by
  rw [PairsSpec, if_pos] at h
  · exact h
  · have := joinP_le f a b a.length
    have h2 : a.length * b.length ≤ 100 * 100 := Nat.mul_le_mul ha hb
    omega
theorem row_at {l : List Sp} {i : Nat} (hi : i < l.length) : (fr l i, tt l i) ∈ l := idx_mem hi

set_option maxRecDepth 100000 in
set_option maxHeartbeats 4000000 in
theorem lawSets_c (v1 v2 : Value) (a b : List Sp) (set : Int) (w : World) (h1 : IsSpans w v1 a) (h2 : IsSpans w v2 b) :
    Calls Try.prog 10 #[v1, v2, .int .i64 set] w (Ret w (.bool true)) := by
  obtain ⟨A, c, rfl, hnc, hc⟩ := h1.form
  obtain ⟨B, d, rfl, hnd, hd⟩ := h2.form
  go_enter Try.func10, Try.ntmps10
  go_wp2_with fail
  refine (awake44_c _).mono ?_
  rintro e w2 ⟨rfl, hB⟩
  have h1 := h1.below hB
  have h2 := h2.below hB
  by_cases hl1 : a.length ≤ 40
  · by_cases hl2 : b.length ≤ 40
    · by_cases hs0 : 0 ≤ set
      · by_cases hs1 : set ≤ 8191
        · go_wp2_with fail
          refine (sJoin_c _ _ a b set _ h1 h2).mono ?_
          rintro e w3 ⟨x, kx, v3, hJ, rfl, h3, hb⟩
          have HJ := Lib.hid hJ
          clear hJ
          have h1 := h1.below hb
          have h2 := h2.below hb
          have hB := hB.trans (hb.mono hB.size)
          clear hb
          go_wp2_with fail
          refine (sJoin_c _ _ a b (8191 - set) _ h1 h2).mono ?_
          rintro e w4 ⟨y, ky, v4, hJ2, rfl, h4, hb⟩
          have HJ2 := Lib.hid hJ2
          clear hJ2
          have h1 := h1.below hb
          have h2 := h2.below hb
          have h3 := h3.below hb
          have hB := hB.trans (hb.mono hB.size)
          clear hb
          go_wp2_with fail
          refine (sOverlaps_c _ _ a b _ h1 h2).mono ?_
          rintro e w5 ⟨z, kz, v5, hO, rfl, h5, hb⟩
          have HO := Lib.hid hO
          clear hO
          have h1 := h1.below hb
          have h2 := h2.below hb
          have h3 := h3.below hb
          have h4 := h4.below hb
          have hB := hB.trans (hb.mono hB.size)
          clear hb
          have hJ := HJ.out
          have hJ2 := HJ2.out
          have hO := HO.out
          by_cases hr : (rightB a && rightB b) = true
          · rw [JoinSpec, if_pos ⟨hr, hs0, hs1⟩] at hJ
            rw [JoinSpec, if_pos ⟨hr, by omega, by omega⟩] at hJ2
            rw [OverSpec, if_pos hr] at hO
            obtain ⟨rfl, rfl⟩ := pairs_small (by omega) (by omega) hJ
            obtain ⟨rfl, rfl⟩ := pairs_small (by omega) (by omega) hJ2
            obtain ⟨rfl, rfl⟩ := pairs_small (by omega) (by omega) hO
            have hlen := joinP_split (f := jf set) (g := jf (8191 - set)) (a := a) (b := b) (jf_not hs0 hs1) a.length
            have hra : rightB a = true := by revert hr; cases rightB a <;> simp
            have hrb : rightB b = true := by revert hr; cases rightB b <;> simp
            have Hoa := Lib.hid (rightB_ok hra); have Hob := Lib.hid (rightB_ok hrb)
            have Hr := Lib.hid hr
            clear hJ hJ2 hO HJ HJ2 HO hr hra hrb
            obtain ⟨X, hX⟩ : ∃ X, X = joinP (jf set) a b a.length := ⟨_, rfl⟩
            rw [← hX] at h3 hlen
            have hXm : ∀ s ∈ X, ∃ i j, i < a.length ∧ j < b.length ∧ s = ((i : Int), (j : Int)) ∧ jf set (sp a i) (sp b j) = true := fun s hs => joinP_mem (by rw [← hX]; exact hs)
            have HX := Lib.hid hX; have HXm := Lib.hid hXm
            obtain ⟨Y, hY⟩ : ∃ Y, Y = joinP (jf (8191 - set)) a b a.length := ⟨_, rfl⟩
            rw [← hY] at h4 hlen
            obtain ⟨A3, c3, rfl, hn3, hc3⟩ := h3.form
            obtain ⟨A4, c4, rfl, hn4, hc4⟩ := h4.form
            have hab : a.length * b.length ≤ 40 * 40 := Nat.mul_le_mul hl1 hl2
            have hi1 : (X.length : Int) + (Y.length : Int) = (a.length : Int) * (b.length : Int) := by rw [← Int.natCast_add, hlen, Int.natCast_mul]
            have hi2 : (a.length : Int) * (b.length : Int) ≤ 1600 := by rw [← Int.natCast_mul]; omega
            have hi3 : 0 ≤ (a.length : Int) * (b.length : Int) := by rw [← Int.natCast_mul]; omega
            have hi4 : ((X.length : Int) + (Y.length : Int) != (a.length : Int) * (b.length : Int)) = false := by rw [hi1]; simp
            have hi5 : ((X.length : Int) + (Y.length : Int) == (a.length : Int) * (b.length : Int)) = true := by rw [hi1]; simp
            clear hX hXm hY hlen hab
            have hB5 := hB
            go_wp2
            go_loopw [87] (fun i wr => ∃ k : Nat, i = .int .i64 k ∧ k ≤ X.length ∧ Below w5.heap.size w5 wr) (fun i _ => X.length - (intOf i).toNat)
            case atStart => exact ⟨0, rfl, Nat.zero_le _, Below.refl _ _⟩
            case round =>
              obtain ⟨k, rfl, hk, hbw⟩ := hrel
              by_cases hlt : k < X.length
              · obtain ⟨g3, o3, rfl, hg3⟩ := h3.addr (by omega)
                have d0 := (h3.below hbw).c0 k hlt
                have d1 := (h3.below hbw).c1 k hlt
                obtain ⟨i, j, hia, hjb, he, hbit⟩ := HXm.out _ (row_at hlt)
                have he1 : fr X k = (i : Int) := congrArg Prod.fst he
                have he2 : tt X k = (j : Int) := congrArg Prod.snd he
                rw [he1] at d0
                rw [he2] at d1
                clear he he1 he2
                obtain ⟨g1, o1, rfl, hg1⟩ := h1.addr (by omega)
                obtain ⟨g2, o2, rfl, hg2⟩ := h2.addr (by omega)
                have hal := hbw.alloc hbw.size (.cells #[.int .i64 i, .int .i64 j] 59)
                have b0 : (wr.alloc (.cells #[.int .i64 i, .int .i64 j] 59)).cell? ⟨wr.heap.size, 0, none⟩ = some (.int .i64 i) := by simp
                have b1 : (wr.alloc (.cells #[.int .i64 i, .int .i64 j] 59)).cell? ⟨wr.heap.size, 1, none⟩ = some (.int .i64 j) := by simp
                have hxs : wr.heap.size < (wr.alloc (.cells #[.int .i64 i, .int .i64 j] 59)).heap.size := by simp
                have hok1 := ok_at Hoa.out hia
                have hok2 := ok_at Hob.out hjb
                have e0 := (h1.below hal).c0 i hia
                have e1 := (h1.below hal).c1 i hia
                have e2 := (h2.below hal).c0 j hjb
                have e3 := (h2.below hal).c1 j hjb
                have hK := fun W => ivOf_c (fr a i) (tt a i) (fr b j) (tt b j) W hok1 hok2
                obtain ⟨q0, q1⟩ := ofI_bd (fr a i, tt a i) (fr b j, tt b j)
                rw [jf, show sp a i = (fr a i, tt a i) from rfl, show sp b j = (fr b j, tt b j) from rfl] at hbit
                generalize ofI (fr a i, tt a i) (fr b j, tt b j) = q at *
                generalize fr a i = s0 at *
                generalize tt a i = s1 at *
                generalize fr b j = t0 at *
                generalize tt b j = t1 at *
                have KK := Lib.hid hK
                have hbit' : (bits BinOp.and IntKind.i64 (set / 2 ^ q.toNat) 1 == 0) = false := by
                  unfold bitB at hbit
                  rw [beq_iff_eq] at hbit
                  rw [hbit]; rfl
                clear hK hok1 hok2 hbit
                go_wp2
                generalize wr.alloc (.cells #[.int .i64 i, .int .i64 j] 59) = w6 at *
                have z1 : g1 < w6.heap.size := Nat.lt_of_lt_of_le hg1 hal.size
                have z2 : g2 < w6.heap.size := Nat.lt_of_lt_of_le hg2 hal.size
                have f0 := fun x : BW w6 => bw_cell x b0 hxs
                have f1 := fun x : BW w6 => bw_cell x b1 hxs
                have f2 := fun x : BW w6 => bw_cell x e0 z1
                have f3 := fun x : BW w6 => bw_cell x e1 z1
                have f4 := fun x : BW w6 => bw_cell x e2 z2
                have f5 := fun x : BW w6 => bw_cell x e3 z2
                have n1 : decide ((i : Int) < 0) = false := decide_eq_false (by omega)
                have n2 : decide ((a.length : Int) ≤ (i : Int)) = false := decide_eq_false (by omega)
                have n3 : decide (a.length ≤ i) = false := decide_eq_false (by omega)
                have n4 : decide ((j : Int) < 0) = false := decide_eq_false (by omega)
                have n5 : decide ((b.length : Int) ≤ (j : Int)) = false := decide_eq_false (by omega)
                have n6 : decide (b.length ≤ j) = false := decide_eq_false (by omega)
                refine wp_region_below (by kernel_rfl) (by kernel_rfl) ?_
                repeat (go_big_quiet_step ((go_at_call 32; exact calls_bw _ (KK.out _))))
                refine wpQuiet_nil ?_
                rintro w7 ⟨⟨_, hb7⟩, rfl⟩
                have hbw7 := hal.trans (hb7.mono hal.size)
                clear f0 f1 f2 f3 f4 f5 e0 e1 e2 e3 b0 b1 d0 d1
                go_wp2
                go_roundw
                case rel => exact ⟨k + 1, by go_num, hlt, hbw7⟩
                case measure => simp [intOf]; omega
              · have hB := hB5.trans (hbw.mono hB5.size)
                have h1 := h1.below hbw
                have h2 := h2.below hbw
                have h5 := h5.below hbw
                clear hbw
                go_wp2_with fail
                refine (sJoin_c _ _ a b 2044 _ h1 h2).mono ?_
                rintro e w8 ⟨u, ku, v8, hJ, rfl, h8, hb⟩
                rw [JoinSpec, if_pos ⟨Hr.out, by omega, by omega⟩] at hJ
                obtain ⟨rfl, rfl⟩ := pairs_small (by omega) (by omega) hJ
                have heq : joinP (jf 2044) a b a.length = joinP comSp a b a.length := joinP_congr fun i hi j hj => inner_com (by
                  have := (okSpan_iff _).1 (ok_at Hoa.out hi); unfold OkSp at this; exact this.2.1) (by
                  have := (okSpan_iff _).1 (ok_at Hob.out hj); unfold OkSp at this; exact this.2.1)
                rw [heq] at h8
                have h5 := h5.below hb
                have hB := hB.trans (hb.mono hB.size)
                clear hb hJ heq
                go_wp2_with fail
                refine (slEqualPair_c _ _ _ _ _ h8 h5).mono ?_
                rintro e w9 ⟨rfl, hb⟩
                rw [show sameP (joinP comSp a b a.length) (joinP comSp a b a.length) = true from decide_eq_true rfl]
                have hB := hB.trans (hb.mono hB.size)
                clear hb
                go_wp2
                go_ret
                exact ⟨rfl, hB⟩
          · rw [JoinSpec, if_neg (fun h => hr h.1)] at hJ
            rw [JoinSpec, if_neg (fun h => hr h.1)] at hJ2
            rw [OverSpec, if_neg hr] at hO
            obtain ⟨rfl, rfl⟩ := hJ
            obtain ⟨rfl, rfl⟩ := hJ2
            obtain ⟨rfl, rfl⟩ := hO
            clear HJ HJ2 HO hr
            go_wp2
            go_ret
            exact ⟨rfl, hB⟩
        · go_wp2
          go_ret
          exact ⟨rfl, hB⟩
      · go_wp2
        go_ret
        exact ⟨rfl, hB⟩
    · go_wp2
      go_ret
      exact ⟨rfl, hB⟩
  · go_wp2
    go_ret
    exact ⟨rfl, hB⟩

set_option maxRecDepth 100000 in
theorem lawSets_lifted (os : Os) (started : os.Started) (H : Type) (enc : TypeId × Value → H) :
    ReturnsInHanded {} Try.checked os 10 .any (Rows.sweepSetsSpec.pre6 enc Try.prog Try.f10 Rows.sweepSetsRow.domain false) (Rows.sweepSetsSpec.post enc Try.prog Try.f10 false true false false) := by
  refine returnsInHanded_of_change (C := Try.checked) Try.own started (by kernel_rfl) Try.func10
    (ChangeSpec.witness6 (enc := enc) (C := Try.checked) false ⟨#[], #[.slice none 0 0, .slice none 0 0, .int .i64 0], []⟩ 8 (by kernel_rfl) (by kernel_rfl) (by kernel_rfl) (by kernel_rfl)) ?_
  intro W base args ds gs before hval0 hW hcnd _
  have hval : ∀ (j : Nat) t v, Try.f10.params[j]? = some t → args[j]? = some v → Value.okWide Try.prog W .any base t v := hval0
  have hW' := hW
  obtain ⟨p, q, hA0, hV, rfl, hfz, hnd⟩ := hW
  have hA : DataW.TrodAll enc Try.prog W 0 (fun _ => true) true Try.f10.params.toList args.toList ds p := hA0
  have hA1 := hA0
  rw [Try.params10] at hA hval
  obtain ⟨v0, v1, v2, d0, d1, d2, p0, p1, p2, rfl, rfl, hp, h0, h1, h2⟩ := trodAll_three hA
  obtain ⟨rfl, rfl⟩ := trodVars_none hV
  obtain ⟨a, g0, r0⟩ := open_spans (hval 0 22 v0 rfl rfl) h0
  obtain ⟨b, g1, r1⟩ := open_spans (hval 1 22 v1 rfl rfl) h1
  obtain ⟨set, rfl, rfl, rfl, g2⟩ := open_int Try.underlying3 (hval 2 3 v2 rfl rfl) h2
  clear hA0 hval0
  have hlt : ∀ x ∈ p, x.block < W.heap.size := fun x hx => hW'.lt x (by simp [hx])
  refine (lawSets_c v0 v1 a b set W g0 g1).mono fun e W' ⟨he, hg⟩ => ?_
  subst he
  exact ⟨_, rfl, post_of_below (pa := p) (pv := []) hW' (fun _ _ _ => trodAll_mk1 (shut_bool Try.underlying4 _))
    (fun sp hsp => trodAll_keep Try.laidOut hg (by kernel_rfl) hA1 hlt (fun x hx => hsp x (by simp [hx])))
    (fun _ _ => rfl) rfl hg (ok_one (by kernel_rfl) rfl (okWide_bool_mk Try.underlying4 _))⟩

theorem lawSets_holds : Rows.SweepSetsSaid :=
  OpenClaim.holds_of_wide 10 Try.f10 rfl rfl rfl rfl rfl rfl rfl ⟨rfl, rfl, rfl, rfl, rfl⟩ rfl rfl rfl rfl rfl (by kernel_rfl) Try.func10 (by kernel_rfl)
    (of_decide_eq_true (by kernel_rfl)) (by unfold Func.isWrapper; first | (rw [if_pos (by decide +kernel)]; kernel_rfl) | (rw [if_neg (by decide +kernel)]; exact ⟨rfl, rfl⟩))
    (fun os started H enc _ => lawSets_lifted os started H enc)
#print axioms lawSets_holds
end Go.Proofs.Ytahpcepnagpbdaa
