/- SweepPacks: Pack returns the earliest packing, as the reference does, or ErrArg; whatever the list and the span. No condition. -/
import Derived.Test.YtahpcepnagpbdaaAwake44
import Derived.Test.YtahpcepnagpbdaaSwD
import Derived.Test.YtahpcepnagpbdaaOpen
namespace Go.Proofs.Ytahpcepnagpbdaa
open Go.RowKit Go.ChangeShapes Go.WideShapes Go.ChangeAt

set_option maxRecDepth 100000 in
set_option maxHeartbeats 1600000 in
theorem lawPacks_c (v : Value) (l : List Sp) (p q : Int) (w : World) (h1 : IsSpans w v l) :
    Calls Try.prog 5 #[v, .agg #[.int .i64 p, .int .i64 q]] w (Ret w (.bool true)) := by
  obtain ⟨A, c, rfl, hnc, hc⟩ := h1.form
  have hla : l.length ≤ 9223372036854775807 := by omega
  go_enter Try.func5, Try.ntmps5
  go_wp2_with fail
  have hB0 := (Below.refl w.heap.size w).alloc (Nat.le_refl _) (.cells #[.int .i64 p, .int .i64 q] 31)
  have h1 := h1.alloc (.cells #[.int .i64 p, .int .i64 q] 31)
  have x0 : (w.alloc (.cells #[.int .i64 p, .int .i64 q] 31)).cell? ⟨w.heap.size, 0, none⟩ = some (.int .i64 p) := by simp
  have x1 : (w.alloc (.cells #[.int .i64 p, .int .i64 q] 31)).cell? ⟨w.heap.size, 1, none⟩ = some (.int .i64 q) := by simp
  have hxs : w.heap.size < (w.alloc (.cells #[.int .i64 p, .int .i64 q] 31)).heap.size := by simp
  generalize hw0 : w.alloc (.cells #[.int .i64 p, .int .i64 q] 31) = w0 at *
  clear hw0
  refine (awake44_c _).mono ?_
  rintro e w1 ⟨rfl, hX⟩
  have hB := hB0.trans (hX.mono hB0.size)
  have h1 := h1.below hX
  go_wp2_with fail
  refine (great44_c _ [l.length] _ (by exact slices_one w1.heap.size rfl hla)).mono ?_
  rintro e w2 ⟨rfl, rfl⟩
  have hB := hB.alloc hB.size (.cells #[.slice A l.length c] 22)
  have h1 := h1.alloc (.cells #[.slice A l.length c] 22)
  have hX := hX.alloc hX.size (.cells #[.slice A l.length c] 22)
  cases hg : anyLong60 [l.length]
  · have hl : l.length ≤ 60 := by simpa [anyLong60, longAt60] using hg
    clear hg
    generalize w1.alloc (.cells #[.slice A l.length c] 22) = w2 at *
    have y0 := (hX.cell (p := ⟨w.heap.size, 0, none⟩) hxs).trans x0
    have y1 := (hX.cell (p := ⟨w.heap.size, 1, none⟩) hxs).trans x1
    go_wp2_with fail
    refine (sPack_c _ l p q _ h1).mono ?_
    rintro e w3 ⟨r, k, v2, hP, rfl, h2, hb⟩
    have h1 := h1.below hb
    have hB := hB.trans (hb.mono hB.size)
    have hX := hX.trans (hb.mono hX.size)
    clear hb
    go_wp2_with fail
    refine (r44Valid_c _ l _ h1).mono ?_
    rintro e w4 ⟨rfl, hb⟩
    have h1 := h1.below hb
    have h2 := h2.below hb
    have hB := hB.trans (hb.mono hB.size)
    have hX := hX.trans (hb.mono hX.size)
    clear hb y0 y1
    have y0 := (hX.cell (p := ⟨w.heap.size, 0, none⟩) hxs).trans x0
    have y1 := (hX.cell (p := ⟨w.heap.size, 1, none⟩) hxs).trans x1
    cases hr : rightB l
    · rw [PackSpec, if_neg (by rw [hr]; exact Bool.false_ne_true)] at hP
      obtain ⟨rfl, rfl⟩ := hP
      obtain ⟨A2, c2, rfl, _, _⟩ := h2.form
      clear hr
      go_wp2
      go_ret
      exact ⟨rfl, hB⟩
    · have hv := r10Valid_c p q w4
      cases ho : okSpan (p, q)
      · rw [PackSpec, if_neg (by rw [hr, ho]; exact Bool.false_ne_true)] at hP
        obtain ⟨rfl, rfl⟩ := hP
        obtain ⟨A2, c2, rfl, _, _⟩ := h2.form
        rw [ho] at hv
        have Hv := Lib.hid hv
        clear hr ho hv
        go_wp2_with fail
        refine Hv.out.mono ?_
        rintro e w5 ⟨rfl, hb⟩
        have hB := hB.trans (hb.mono hB.size)
        clear hb
        go_wp2
        go_ret
        exact ⟨rfl, hB⟩
      · rw [PackSpec, if_pos (by rw [hr, ho]; rfl)] at hP
        rw [ho] at hv
        obtain ⟨M, hM, hrM, rfl⟩ := hP
        have HM := Lib.hid hM; have HrM := Lib.hid hrM; have Hv := Lib.hid hv; have Hr := Lib.hid hr
        clear hr ho hv hM hrM
        go_wp2_with fail
        refine Hv.out.mono ?_
        rintro e w5 ⟨rfl, hb⟩
        have h1 := h1.below hb
        have h2 := h2.below hb
        have hB := hB.trans (hb.mono hB.size)
        have hX := hX.trans (hb.mono hX.size)
        clear hb y0 y1
        have y0 := (hX.cell (p := ⟨w.heap.size, 0, none⟩) hxs).trans x0
        have y1 := (hX.cell (p := ⟨w.heap.size, 1, none⟩) hxs).trans x1
        go_wp2_with fail
        refine (r44Pack_c _ l p q _ h1 (by omega)).mono ?_
        rintro e w6 ⟨r', v3, ⟨L, hL, hrL⟩, rfl, h3, hb⟩
        have hrr : r' = r := by rw [hrL, HrM.out]; exact pack_ref (rightB_ok Hr.out) hL HM.out
        subst hrr
        have h2 := h2.below hb
        have hB := hB.trans (hb.mono hB.size)
        clear hb hL hrL
        go_wp2_with fail
        refine (slEqualInt_c _ _ (idx r') (idx r') _ h2 h3).mono ?_
        rintro e w7 ⟨rfl, hb⟩
        rw [show sameI (idx r') (idx r') = true from decide_eq_true rfl]
        have hB := hB.trans (hb.mono hB.size)
        clear hb
        go_wp2
        go_ret
        exact ⟨rfl, hB⟩
  · go_wp2
    go_ret
    exact ⟨rfl, hB⟩

set_option maxRecDepth 100000 in
theorem lawPacks_lifted (os : Os) (started : os.Started) (H : Type) (enc : TypeId × Value → H) :
    ReturnsInHanded {} Try.checked os 5 .any (Rows.sweepPacksSpec.pre6 enc Try.prog Try.f5 Rows.sweepPacksRow.domain false) (Rows.sweepPacksSpec.post enc Try.prog Try.f5 false true false false) := by
  refine returnsInHanded_of_change (C := Try.checked) Try.own started (by kernel_rfl) Try.func5
    (ChangeSpec.witness6 (enc := enc) (C := Try.checked) false ⟨#[], #[.slice none 0 0, .agg #[.int .i64 0, .int .i64 0]], []⟩ 8 (by kernel_rfl) (by kernel_rfl) (by kernel_rfl) (by kernel_rfl)) ?_
  intro W base args ds gs before hval0 hW hcnd _
  have hval : ∀ (j : Nat) t v, Try.f5.params[j]? = some t → args[j]? = some v → Value.okWide Try.prog W .any base t v := hval0
  have hW' := hW
  obtain ⟨p, q, hA0, hV, rfl, hfz, hnd⟩ := hW
  have hA : DataW.TrodAll enc Try.prog W 0 (fun _ => true) true Try.f5.params.toList args.toList ds p := hA0
  have hA1 := hA0
  rw [Try.params5] at hA hval
  obtain ⟨v0, v1, d0, d1, p0, p1, rfl, rfl, hp, h0, h1⟩ := trodAll_two hA
  obtain ⟨rfl, rfl⟩ := trodVars_none hV
  obtain ⟨l, g0, r0⟩ := open_spans (hval 0 22 v0 rfl rfl) h0
  obtain ⟨s1, s2, rfl, g1⟩ := open_span (hval 1 31 v1 rfl rfl) h1
  clear hA0 hval0
  have hlt : ∀ x ∈ p, x.block < W.heap.size := fun x hx => hW'.lt x (by simp [hx])
  refine (lawPacks_c v0 l s1 s2 W g0).mono fun e W' ⟨he, hg⟩ => ?_
  subst he
  exact ⟨_, rfl, post_of_below (pa := p) (pv := []) hW' (fun _ _ _ => trodAll_mk1 (shut_bool Try.underlying4 _))
    (fun sp hsp => trodAll_keep Try.laidOut hg (by kernel_rfl) hA1 hlt (fun x hx => hsp x (by simp [hx])))
    (fun _ _ => rfl) rfl hg (ok_one (by kernel_rfl) rfl (okWide_bool_mk Try.underlying4 _))⟩

theorem lawPacks_holds : Rows.SweepPacksSaid :=
  OpenClaim.holds_of_wide 5 Try.f5 rfl rfl rfl rfl rfl rfl rfl ⟨rfl, rfl, rfl, rfl, rfl⟩ rfl rfl rfl rfl rfl (by kernel_rfl) Try.func5 (by kernel_rfl)
    (of_decide_eq_true (by kernel_rfl)) (by unfold Func.isWrapper; first | (rw [if_pos (by decide +kernel)]; kernel_rfl) | (rw [if_neg (by decide +kernel)]; exact ⟨rfl, rfl⟩))
    (fun os started H enc _ => lawPacks_lifted os started H enc)
#print axioms lawPacks_holds
end Go.Proofs.Ytahpcepnagpbdaa
