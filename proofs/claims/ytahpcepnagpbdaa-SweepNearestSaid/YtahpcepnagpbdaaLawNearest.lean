/- SweepNearest: Nearest returns the indices of the nearest spans, as the reference does, or the specified error; whatever the lists. No condition. -/
import Derived.Test.YtahpcepnagpbdaaAwake44
import Derived.Test.YtahpcepnagpbdaaSwL
import Derived.Test.YtahpcepnagpbdaaOpen
namespace Go.Proofs.Ytahpcepnagpbdaa
open Go.RowKit Go.ChangeShapes Go.WideShapes Go.ChangeAt

set_option maxRecDepth 100000 in
set_option maxHeartbeats 1600000 in
theorem lawNearest_c (v1 v2 : Value) (a b : List Sp) (w : World) (h1 : IsSpans w v1 a) (h2 : IsSpans w v2 b) :
    Calls Try.prog 7 #[v1, v2] w (Ret w (.bool true)) := by
  obtain ⟨A, c, rfl, hnc, hc⟩ := h1.form
  obtain ⟨B, d, rfl, hnd, hd⟩ := h2.form
  have hla : a.length ≤ 9223372036854775807 := by omega
  have hlb : b.length ≤ 9223372036854775807 := by omega
  go_enter Try.func7, Try.ntmps7
  go_wp2_with fail
  refine (awake44_c _).mono ?_
  rintro e w1 ⟨rfl, hB⟩
  have h1 := h1.below hB
  have h2 := h2.below hB
  go_wp2_with fail
  refine (great44_c _ [a.length, b.length] _ (by exact slices_two w1.heap.size rfl hla hlb)).mono ?_
  rintro e w2 ⟨rfl, rfl⟩
  have hB := hB.alloc hB.size (.cells #[.slice A a.length c, .slice B b.length d] 22)
  have h1 := h1.alloc (.cells #[.slice A a.length c, .slice B b.length d] 22)
  have h2 := h2.alloc (.cells #[.slice A a.length c, .slice B b.length d] 22)
  cases hg : anyLong60 [a.length, b.length]
  · have hl : a.length ≤ 60 ∧ b.length ≤ 60 := by
      have : (List.range 2).any (longAt60 [a.length, b.length]) = false := hg
      simp [List.range_succ, longAt60] at this
      omega
    obtain ⟨hl1, hl2⟩ := hl
    clear hg
    generalize w1.alloc (.cells #[.slice A a.length c, .slice B b.length d] 22) = w2 at *
    go_wp2_with fail
    refine (sNearest_c _ _ a b _ h1 h2).mono ?_
    rintro e w3 ⟨r, k, v3, hP, rfl, h3, hb⟩
    have h1 := h1.below hb
    have h2 := h2.below hb
    have hB := hB.trans (hb.mono hB.size)
    clear hb
    have k1 := r44Valid_c _ a _ h1
    have k2 := fun W (h : Below w3.heap.size w3 W) => r44Valid_c _ b W (h2.below h)
    cases hra : rightB a
    · rw [NearSpec, if_neg (by rw [hra]; exact Bool.false_ne_true)] at hP
      obtain ⟨rfl, rfl⟩ := hP
      obtain ⟨A2, c2, rfl, _, _⟩ := h3.form
      rw [hra] at k1
      have K1 := Lib.hid k1
      clear hra k1 k2
      go_wp2_with fail
      refine K1.out.mono ?_
      rintro e w4 ⟨rfl, hb⟩
      have hB := hB.trans (hb.mono hB.size)
      go_wp2
      go_ret
      exact ⟨rfl, hB⟩
    · rw [hra] at k1
      have K1 := Lib.hid k1
      cases hrb : rightB b
      · rw [NearSpec, if_neg (by rw [hra, hrb]; exact Bool.false_ne_true)] at hP
        obtain ⟨rfl, rfl⟩ := hP
        obtain ⟨A2, c2, rfl, _, _⟩ := h3.form
        rw [hrb] at k2
        have K2 := Lib.hid k2
        clear hra hrb k1 k2
        go_wp2_with fail
        refine K1.out.mono ?_
        rintro e w4 ⟨rfl, hb⟩
        have hB := hB.trans (hb.mono hB.size)
        go_wp2_with fail
        refine (K2.out w4 hb).mono ?_
        rintro e w5 ⟨rfl, hb⟩
        have hB := hB.trans (hb.mono hB.size)
        go_wp2
        go_ret
        exact ⟨rfl, hB⟩
      · rw [NearSpec, if_pos (by rw [hra, hrb]; rfl)] at hP
        rw [hrb] at k2
        have K2 := Lib.hid k2
        have Hoa := Lib.hid (rightB_ok hra); have Hob := Lib.hid (rightB_ok hrb)
        have HP := Lib.hid hP
        clear hra hrb k1 k2 hP
        go_wp2_with fail
        refine K1.out.mono ?_
        rintro e w4 ⟨rfl, hb⟩
        have h1 := h1.below hb
        have h2 := h2.below hb
        have h3 := h3.below hb
        have hB := hB.trans (hb.mono hB.size)
        go_wp2_with fail
        refine (K2.out w4 hb).mono ?_
        rintro e w5 ⟨rfl, hb⟩
        have h1 := h1.below hb
        have h2 := h2.below hb
        have h3 := h3.below hb
        have hB := hB.trans (hb.mono hB.size)
        clear hb
        by_cases hz : b.length = 0 ∧ 0 < a.length
        · have hP := HP.out
          rw [if_pos hz] at hP
          obtain ⟨rfl, rfl⟩ := hP
          obtain ⟨A2, c2, rfl, _, _⟩ := h3.form
          obtain ⟨hz1, hz2⟩ := hz
          clear HP
          go_wp2
          go_ret
          exact ⟨rfl, hB⟩
        · have hP := HP.out
          rw [if_neg hz] at hP
          obtain ⟨hN, rfl⟩ := hP
          have HN := Lib.hid hN
          clear hN HP
          by_cases ha0 : a.length = 0
          · have hr0 : r = [] := List.length_eq_zero_iff.1 (by rw [HN.out.len]; exact ha0)
            subst hr0
            obtain ⟨A2, c2, rfl, _, _⟩ := h3.form
            have hz2 : a = [] := List.length_eq_zero_iff.1 ha0
            clear HN hz
            subst hz2
            go_wp2
            go_ret
            exact ⟨rfl, hB⟩
          · have hz1 : 0 < b.length := by omega
            have hz2 : ¬ a = [] := fun e => ha0 (by rw [e]; rfl)
            have hz3 : ¬ b = [] := fun e => by rw [e] at hz1; simp at hz1
            have hz4 : 0 < a.length := by omega
            have hz5 : ((b.length : Int) == 0) = false := by rw [beq_eq_false_iff_ne]; omega
            have hz6 : ((a.length : Int) == 0) = false := by rw [beq_eq_false_iff_ne]; omega
            clear hz ha0
            go_wp2_with fail
            refine (r44Nearest_c _ _ a b _ h1 h2 Hoa.out Hob.out (by omega) (by omega) hz1).mono ?_
            rintro e w6 ⟨r', v4, hN', rfl, h4, hb⟩
            obtain rfl := nearL_one HN.out hN'
            have h3 := h3.below hb
            have hB := hB.trans (hb.mono hB.size)
            clear hb hN' HN
            go_wp2_with fail
            refine (slEqualInt_c _ _ (idx r) (idx r) _ h3 h4).mono ?_
            rintro e w7 ⟨rfl, hb⟩
            rw [show sameI (idx r) (idx r) = true from decide_eq_true rfl]
            have hB := hB.trans (hb.mono hB.size)
            clear hb
            go_wp2
            go_ret
            exact ⟨rfl, hB⟩
  · go_wp2
    go_ret
    exact ⟨rfl, hB⟩

set_option maxRecDepth 100000 in
theorem lawNearest_lifted (os : Os) (started : os.Started) (H : Type) (enc : TypeId × Value → H) :
    ReturnsInHanded {} Try.checked os 7 .any (Rows.sweepNearestSpec.pre6 enc Try.prog Try.f7 Rows.sweepNearestRow.domain false) (Rows.sweepNearestSpec.post enc Try.prog Try.f7 false true false false) := by
  refine returnsInHanded_of_change (C := Try.checked) Try.own started (by kernel_rfl) Try.func7
    (ChangeSpec.witness6 (enc := enc) (C := Try.checked) false ⟨#[], #[.slice none 0 0, .slice none 0 0], []⟩ 8 (by kernel_rfl) (by kernel_rfl) (by kernel_rfl) (by kernel_rfl)) ?_
  intro W base args ds gs before hval0 hW hcnd _
  have hval : ∀ (j : Nat) t v, Try.f7.params[j]? = some t → args[j]? = some v → Value.okWide Try.prog W .any base t v := hval0
  have hW' := hW
  obtain ⟨p, q, hA0, hV, rfl, hfz, hnd⟩ := hW
  have hA : DataW.TrodAll enc Try.prog W 0 (fun _ => true) true Try.f7.params.toList args.toList ds p := hA0
  have hA1 := hA0
  rw [Try.params7] at hA hval
  obtain ⟨v0, v1, d0, d1, p0, p1, rfl, rfl, hp, h0, h1⟩ := trodAll_two hA
  obtain ⟨rfl, rfl⟩ := trodVars_none hV
  obtain ⟨a, g0, r0⟩ := open_spans (hval 0 22 v0 rfl rfl) h0
  obtain ⟨b, g1, r1⟩ := open_spans (hval 1 22 v1 rfl rfl) h1
  clear hA0 hval0
  have hlt : ∀ x ∈ p, x.block < W.heap.size := fun x hx => hW'.lt x (by simp [hx])
  refine (lawNearest_c v0 v1 a b W g0 g1).mono fun e W' ⟨he, hg⟩ => ?_
  subst he
  exact ⟨_, rfl, post_of_below (pa := p) (pv := []) hW' (fun _ _ _ => trodAll_mk1 (shut_bool Try.underlying4 _))
    (fun sp hsp => trodAll_keep Try.laidOut hg (by kernel_rfl) hA1 hlt (fun x hx => hsp x (by simp [hx])))
    (fun _ _ => rfl) rfl hg (ok_one (by kernel_rfl) rfl (okWide_bool_mk Try.underlying4 _))⟩

theorem lawNearest_holds : Rows.SweepNearestSaid :=
  OpenClaim.holds_of_wide 7 Try.f7 rfl rfl rfl rfl rfl rfl rfl ⟨rfl, rfl, rfl, rfl, rfl⟩ rfl rfl rfl rfl rfl (by kernel_rfl) Try.func7 (by kernel_rfl)
    (of_decide_eq_true (by kernel_rfl)) (by unfold Func.isWrapper; first | (rw [if_pos (by decide +kernel)]; kernel_rfl) | (rw [if_neg (by decide +kernel)]; exact ⟨rfl, rfl⟩))
    (fun os started H enc _ => lawNearest_lifted os started H enc)
#print axioms lawNearest_holds
end Go.Proofs.Ytahpcepnagpbdaa
