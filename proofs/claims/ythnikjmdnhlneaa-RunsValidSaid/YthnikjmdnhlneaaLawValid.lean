/- RunsValid: whatever the two lists, the law answers true. -/
import Derived.Test.YthnikjmdnhlneaaAwake
import Derived.Test.YthnikjmdnhlneaaRunsH
import Derived.Test.YthnikjmdnhlneaaOpen
namespace Go.Proofs.Ythnikjmdnhlneaa
open Go.RowKit Go.ChangeShapes Go.WideShapes Go.ChangeAt

set_option maxRecDepth 100000 in
theorem lawValid_c (v1 v2 : Value) (a b : List Sp) (w : World) (h1 : IsSpans w v1 a) (h2 : IsSpans w v2 b) : Calls Try.prog 3 #[v1, v2] w (Ret w (.bool true)) := by
  cases ha : validB a <;> cases hb0 : validB b <;> cases hs : sameL a b
  all_goals
    go_enter Try.func3, Try.ntmps3
    go_wp2_with fail
    refine (awake12_c _).mono ?_
    rintro e w1 ⟨rfl, hB⟩
    have h1 := h1.below hB
    have h2 := h2.below hB
  all_goals
    have hsa : sameL a a = true := (sameL_iff a a).2 rfl
    go_wp2_with (first
      | (go_at_call 14; refine (rValid_c v1 a _ h1).mono ?_; rintro e w' ⟨rfl, hb⟩; replace h1 := h1.below hb; replace h2 := h2.below hb; replace hB := hB.trans (hb.mono hB.size); clear hb)
      | (go_at_call 15; first
          | ((with_reducible refine (r12Valid_c v1 a _ h1).mono ?_); rintro e w' ⟨rfl, hb⟩; replace h1 := h1.below hb; replace h2 := h2.below hb; replace hB := hB.trans (hb.mono hB.size); clear hb)
          | ((with_reducible refine (r12Valid_c v2 b _ h2).mono ?_); rintro e w' ⟨rfl, hb⟩; replace h1 := h1.below hb; replace h2 := h2.below hb; replace hB := hB.trans (hb.mono hB.size); clear hb))
      | (go_at_call 16; first
          | ((with_reducible refine (rEqual_c v1 v2 a b _ h1 h2).mono ?_); rintro e w' ⟨rfl, hb⟩; replace h1 := h1.below hb; replace h2 := h2.below hb; replace hB := hB.trans (hb.mono hB.size); clear hb)
          | ((with_reducible refine (rEqual_c v1 v1 a a _ h1 h1).mono ?_); rintro e w' ⟨rfl, hb⟩; replace h1 := h1.below hb; replace h2 := h2.below hb; replace hB := hB.trans (hb.mono hB.size); clear hb))
      | (go_at_call 17; refine (r12Same_c v1 v2 a b _ h1 h2).mono ?_; rintro e w' ⟨rfl, hb⟩; replace h1 := h1.below hb; replace h2 := h2.below hb; replace hB := hB.trans (hb.mono hB.size); clear hb))
  all_goals
    go_ret
    exact ⟨rfl, hB⟩

set_option maxRecDepth 100000 in
theorem lawValid_lifted (os : Os) (started : os.Started) (H : Type) (enc : TypeId × Value → H) :
    ReturnsInHanded {} Try.checked os 3 .any (Rows.runsValidSpec.pre6 enc Try.prog Try.f3 Rows.runsValidRow.domain false) (Rows.runsValidSpec.post enc Try.prog Try.f3 false true false false) := by
  refine returnsInHanded_of_change (C := Try.checked) Try.own started (by kernel_rfl) Try.func3
    (ChangeSpec.witness6 (enc := enc) (C := Try.checked) false ⟨#[], #[.slice none 0 0, .slice none 0 0], []⟩ 8 (by kernel_rfl) (by kernel_rfl) (by kernel_rfl) (by kernel_rfl)) ?_
  intro W base args ds gs before hval0 hW hcnd _
  have hval : ∀ (j : Nat) t v, Try.f3.params[j]? = some t → args[j]? = some v → Value.okWide Try.prog W .any base t v := hval0
  have hW' := hW
  obtain ⟨p, q, hA0, hV, rfl, hfz, hnd⟩ := hW
  have hA : DataW.TrodAll enc Try.prog W 0 (fun _ => true) true Try.f3.params.toList args.toList ds p := hA0
  rw [Try.params3] at hA hval
  obtain ⟨v0, v1, d0, d1, p0, p1, rfl, rfl, rfl, h0, h1⟩ := trodAll_two hA
  have hA1 := hA0
  obtain ⟨rfl, rfl⟩ := trodVars_none hV
  obtain ⟨a, ha, _⟩ := open_spans (hval 0 22 v0 rfl rfl) h0
  obtain ⟨b, hb, _⟩ := open_spans (hval 1 22 v1 rfl rfl) h1
  clear hA0 hval0
  simp only [List.append_nil] at hW'
  have hlt : ∀ x ∈ p0 ++ p1, x.block < W.heap.size := fun x hx => hW'.lt x hx
  refine (lawValid_c v0 v1 a b W ha hb).mono fun e W' ⟨he, hg⟩ => ?_
  subst he
  exact ⟨_, rfl, post_of_below (pa := p0 ++ p1) (pv := []) hW' (fun _ _ _ => trodAll_mk1 (shut_bool Try.underlying4 _))
    (fun sp hsp => trodAll_keep Try.laidOut hg (by kernel_rfl) hA1 hlt hsp)
    (fun _ _ => rfl) (by simp) hg (ok_one (by kernel_rfl) rfl (okWide_bool_mk Try.underlying4 _))⟩

theorem lawValid_holds : Rows.RunsValidSaid :=
  OpenClaim.holds_of_wide 3 Try.f3 rfl rfl rfl rfl rfl rfl rfl ⟨rfl, rfl, rfl, rfl, rfl⟩ rfl rfl rfl rfl rfl (by kernel_rfl) Try.func3 (by kernel_rfl)
    (of_decide_eq_true (by kernel_rfl)) (by unfold Func.isWrapper; first | (rw [if_pos (by decide +kernel)]; kernel_rfl) | (rw [if_neg (by decide +kernel)]; exact ⟨rfl, rfl⟩))
    (fun os started H enc _ => lawValid_lifted os started H enc)
#print axioms lawValid_holds
end Go.Proofs.Ythnikjmdnhlneaa
