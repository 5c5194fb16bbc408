/- SweepJoins: Join and Overlaps return the specified pairs, as the reference does, or the specified errors; whatever the lists and the set. No condition. -/
import Derived.Test.YtahpcepnagpbdaaAwake44
import Derived.Test.YtahpcepnagpbdaaSwQ
import Derived.Test.YtahpcepnagpbdaaOpen
namespace Go.Proofs.Ytahpcepnagpbdaa
open Go.RowKit Go.ChangeShapes Go.WideShapes Go.ChangeAt

theorem joinP_le (f : Rel2) (a b : List Sp) : ∀ n, (joinP f a b n).length ≤ n * b.length
  | 0 => by simp [joinP]
  | n + 1 => by
    have h1 := joinP_le f a b n
    have h2 : (rowP f a b n b.length).length ≤ b.length := by
      unfold rowP
      rw [List.length_map]
      exact Nat.le_trans (List.length_filter_le _ _) (by simp)
    rw [joinP_succ, List.length_append, Nat.add_mul]
    omega
theorem pairs_small {f : Rel2} {a b r : List Sp} {k : Int} (ha : a.length ≤ 100) (hb : b.length ≤ 100) (h : PairsSpec f a b r k) : r = joinP f a b a.length ∧ k = 0 := by
  rw [PairsSpec, if_pos] at h
  · exact h
  · have := joinP_le f a b a.length
    have h2 : a.length * b.length ≤ 100 * 100 := Nat.mul_le_mul ha hb
    omega
set_option maxRecDepth 100000 in
set_option maxHeartbeats 1600000 in
theorem lawJoins_c (v1 v2 : Value) (a b : List Sp) (set : Int) (w : World) (h1 : IsSpans w v1 a) (h2 : IsSpans w v2 b) :
    Calls Try.prog 9 #[v1, v2, .int .i64 set] w (Ret w (.bool true)) := by
  obtain ⟨A, c, rfl, hnc, hc⟩ := h1.form
  obtain ⟨B, d, rfl, hnd, hd⟩ := h2.form
  have hla : a.length ≤ 9223372036854775807 := by omega
  have hlb : b.length ≤ 9223372036854775807 := by omega
  go_enter Try.func9, Try.ntmps9
  go_wp2_with fail
  refine (awake44_c _).mono ?_
  rintro e w1 ⟨rfl, hB⟩
  have h1 := h1.below hB
  have h2 := h2.below hB
  go_wp2_with fail
  refine (great44_c _ [a.length, b.length] _ (by exact slices_two w1.heap.size rfl hla hlb)).mono ?_
  rintro e w2 ⟨rfl, rfl⟩
  have hB := hB.alloc hB.size (.cells #[.slice A a.length c, .slice B b.length d] 22)
  have h1 := h1.alloc (.cells #[.slice A a.length c, .slice B b.length d] 22)
  have h2 := h2.alloc (.cells #[.slice A a.length c, .slice B b.length d] 22)
  cases hg : anyLong60 [a.length, b.length]
  · have hl : a.length ≤ 60 ∧ b.length ≤ 60 := by
      have : (List.range 2).any (longAt60 [a.length, b.length]) = false := hg
      simp [List.range_succ, longAt60] at this
      omega
    obtain ⟨hl1, hl2⟩ := hl
    clear hg
    generalize w1.alloc (.cells #[.slice A a.length c, .slice B b.length d] 22) = w2 at *
    go_wp2_with fail
    refine (sJoin_c _ _ a b set _ h1 h2).mono ?_
    rintro e w3 ⟨x, k, v3, hJ, rfl, h3, hb⟩
    have h1 := h1.below hb
    have h2 := h2.below hb
    have hB := hB.trans (hb.mono hB.size)
    have HJ := Lib.hid hJ
    clear hb hJ
    go_wp2_with fail
    refine (sOverlaps_c _ _ a b _ h1 h2).mono ?_
    rintro e w4 ⟨y, m, v4, hO, rfl, h4, hb⟩
    have h1 := h1.below hb
    have h2 := h2.below hb
    have h3 := h3.below hb
    have hB := hB.trans (hb.mono hB.size)
    have HO := Lib.hid hO
    clear hb hO
    have k1 := r44Valid_c _ a _ h1
    have k2 := fun W (h : Below w4.heap.size w4 W) => r44Valid_c _ b W (h2.below h)
    by_cases hr : (rightB a && rightB b) = true
    · have hra : rightB a = true := by revert hr; cases rightB a <;> simp
      have hrb : rightB b = true := by revert hr; cases rightB b <;> simp
      have hO := HO.out
      rw [OverSpec, if_pos hr] at hO
      obtain ⟨rfl, rfl⟩ := pairs_small (by omega) (by omega) hO
      rw [hra] at k1
      rw [hrb] at k2
      have K1 := Lib.hid k1; have K2 := Lib.hid k2
      have Hoa := Lib.hid (rightB_ok hra); have Hob := Lib.hid (rightB_ok hrb)
      have Hr := Lib.hid hr
      clear hra hrb k1 k2 hr hO HO
      go_wp2_with fail
      refine K1.out.mono ?_
      rintro e w5 ⟨rfl, hb⟩
      have h1 := h1.below hb
      have h2 := h2.below hb
      have h3 := h3.below hb
      have h4 := h4.below hb
      have hB := hB.trans (hb.mono hB.size)
      go_wp2_with fail
      refine (K2.out w5 hb).mono ?_
      rintro e w6 ⟨rfl, hb⟩
      have h1 := h1.below hb
      have h2 := h2.below hb
      have h3 := h3.below hb
      have h4 := h4.below hb
      have hB := hB.trans (hb.mono hB.size)
      clear hb
      go_wp2_with fail
      refine (r44Overlaps_c _ _ a b _ h1 h2 Hoa.out Hob.out (by omega) (by omega)).mono ?_
      rintro e w7 ⟨v5, rfl, h5, hb⟩
      have h1 := h1.below hb
      have h2 := h2.below hb
      have h3 := h3.below hb
      have h4 := h4.below hb
      have hB := hB.trans (hb.mono hB.size)
      clear hb
      go_wp2_with fail
      refine (slEqualPair_c _ _ _ _ _ h4 h5).mono ?_
      rintro e w8 ⟨rfl, hb⟩
      rw [show sameP (joinP comSp a b a.length) (joinP comSp a b a.length) = true from decide_eq_true rfl]
      have h1 := h1.below hb
      have h2 := h2.below hb
      have h3 := h3.below hb
      have hB := hB.trans (hb.mono hB.size)
      clear hb
      have hst : (decide (set < 0) = true ∧ ¬ (0 ≤ set ∧ set ≤ 8191)) ∨ (decide (set < 0) = false ∧ decide (8191 < set) = true ∧ ¬ (0 ≤ set ∧ set ≤ 8191)) ∨ (decide (set < 0) = false ∧ decide (8191 < set) = false ∧ 0 ≤ set ∧ set ≤ 8191) := by
        by_cases h1 : set < 0
        · exact .inl ⟨decide_eq_true h1, by omega⟩
        · by_cases h2 : 8191 < set
          · exact .inr (.inl ⟨decide_eq_false h1, decide_eq_true h2, by omega⟩)
          · exact .inr (.inr ⟨decide_eq_false h1, decide_eq_false h2, by omega, by omega⟩)
      have hJ := HJ.out
      rcases hst with ⟨t1, hn⟩ | ⟨t1, t2, hn⟩ | ⟨t1, t2, hy⟩
      rotate_right
      · rw [JoinSpec, if_pos ⟨Hr.out, hy⟩] at hJ
        obtain ⟨rfl, rfl⟩ := pairs_small (by omega) (by omega) hJ
        clear hJ HJ hy
        go_wp2_with fail
        refine (r44Join_c _ _ a b set _ h1 h2 Hoa.out Hob.out (by omega) (by omega)).mono ?_
        rintro e w9 ⟨v6, rfl, h6, hb⟩
        have h3 := h3.below hb
        have hB := hB.trans (hb.mono hB.size)
        clear hb
        go_wp2_with fail
        refine (slEqualPair_c _ _ _ _ _ h3 h6).mono ?_
        rintro e w10 ⟨rfl, hb⟩
        rw [show sameP (joinP (jf set) a b a.length) (joinP (jf set) a b a.length) = true from decide_eq_true rfl]
        have hB := hB.trans (hb.mono hB.size)
        clear hb
        go_wp2
        go_ret
        exact ⟨rfl, hB⟩
      all_goals
        rw [JoinSpec, if_neg (fun h => hn h.2)] at hJ
        obtain ⟨rfl, rfl⟩ := hJ
        obtain ⟨A3, c3, rfl, _, _⟩ := h3.form
        clear HJ hn
        go_wp2
        go_ret
        exact ⟨rfl, hB⟩
    · have hJ := HJ.out
      have hO := HO.out
      rw [JoinSpec, if_neg (fun h => hr h.1)] at hJ
      rw [OverSpec, if_neg hr] at hO
      obtain ⟨rfl, rfl⟩ := hJ
      obtain ⟨rfl, rfl⟩ := hO
      obtain ⟨A3, c3, rfl, _, _⟩ := h3.form
      obtain ⟨A4, c4, rfl, _, _⟩ := h4.form
      clear HJ HO
      cases hra : rightB a
      · rw [hra] at k1
        have K1 := Lib.hid k1
        clear hra hr k1 k2
        go_wp2_with fail
        refine K1.out.mono ?_
        rintro e w5 ⟨rfl, hb⟩
        have hB := hB.trans (hb.mono hB.size)
        go_wp2
        go_ret
        exact ⟨rfl, hB⟩
      · have hrb : rightB b = false := by
          rw [hra] at hr; simpa using hr
        rw [hra] at k1
        rw [hrb] at k2
        have K1 := Lib.hid k1; have K2 := Lib.hid k2
        clear hra hrb hr k1 k2
        go_wp2_with fail
        refine K1.out.mono ?_
        rintro e w5 ⟨rfl, hb⟩
        have hB := hB.trans (hb.mono hB.size)
        go_wp2_with fail
        refine (K2.out w5 hb).mono ?_
        rintro e w6 ⟨rfl, hb⟩
        have hB := hB.trans (hb.mono hB.size)
        go_wp2
        go_ret
        exact ⟨rfl, hB⟩
  · go_wp2
    go_ret
    exact ⟨rfl, hB⟩

set_option maxRecDepth 100000 in
theorem lawJoins_lifted (os : Os) (started : os.Started) (H : Type) (enc : TypeId × Value → H) :
    ReturnsInHanded {} Try.checked os 9 .any (Rows.sweepJoinsSpec.pre6 enc Try.prog Try.f9 Rows.sweepJoinsRow.domain false) (Rows.sweepJoinsSpec.post enc Try.prog Try.f9 false true false false) := by
  refine returnsInHanded_of_change (C := Try.checked) Try.own started (by kernel_rfl) Try.func9
    (ChangeSpec.witness6 (enc := enc) (C := Try.checked) false ⟨#[], #[.slice none 0 0, .slice none 0 0, .int .i64 0], []⟩ 8 (by kernel_rfl) (by kernel_rfl) (by kernel_rfl) (by kernel_rfl)) ?_
  intro W base args ds gs before hval0 hW hcnd _
  have hval : ∀ (j : Nat) t v, Try.f9.params[j]? = some t → args[j]? = some v → Value.okWide Try.prog W .any base t v := hval0
  have hW' := hW
  obtain ⟨p, q, hA0, hV, rfl, hfz, hnd⟩ := hW
  have hA : DataW.TrodAll enc Try.prog W 0 (fun _ => true) true Try.f9.params.toList args.toList ds p := hA0
  have hA1 := hA0
  rw [Try.params9] at hA hval
  obtain ⟨v0, v1, v2, d0, d1, d2, p0, p1, p2, rfl, rfl, hp, h0, h1, h2⟩ := trodAll_three hA
  obtain ⟨rfl, rfl⟩ := trodVars_none hV
  obtain ⟨a, g0, r0⟩ := open_spans (hval 0 22 v0 rfl rfl) h0
  obtain ⟨b, g1, r1⟩ := open_spans (hval 1 22 v1 rfl rfl) h1
  obtain ⟨set, rfl, rfl, rfl, g2⟩ := open_int Try.underlying3 (hval 2 3 v2 rfl rfl) h2
  clear hA0 hval0
  have hlt : ∀ x ∈ p, x.block < W.heap.size := fun x hx => hW'.lt x (by simp [hx])
  refine (lawJoins_c v0 v1 a b set W g0 g1).mono fun e W' ⟨he, hg⟩ => ?_
  subst he
  exact ⟨_, rfl, post_of_below (pa := p) (pv := []) hW' (fun _ _ _ => trodAll_mk1 (shut_bool Try.underlying4 _))
    (fun sp hsp => trodAll_keep Try.laidOut hg (by kernel_rfl) hA1 hlt (fun x hx => hsp x (by simp [hx])))
    (fun _ _ => rfl) rfl hg (ok_one (by kernel_rfl) rfl (okWide_bool_mk Try.underlying4 _))⟩

theorem lawJoins_holds : Rows.SweepJoinsSaid :=
  OpenClaim.holds_of_wide 9 Try.f9 rfl rfl rfl rfl rfl rfl rfl ⟨rfl, rfl, rfl, rfl, rfl⟩ rfl rfl rfl rfl rfl (by kernel_rfl) Try.func9 (by kernel_rfl)
    (of_decide_eq_true (by kernel_rfl)) (by unfold Func.isWrapper; first | (rw [if_pos (by decide +kernel)]; kernel_rfl) | (rw [if_neg (by decide +kernel)]; exact ⟨rfl, rfl⟩))
    (fun os started H enc _ => lawJoins_lifted os started H enc)
#print axioms lawJoins_holds
end Go.Proofs.Ytahpcepnagpbdaa
