/- DisjunctiveHolds: Holds reports whether any times satisfy any choices, as the reference does. No condition. -/
import Derived.Test.YtcppcfinnbeboaaDkH
import Derived.Test.YtcppcfinnbeboaaDjK
import Derived.Test.YtcppcfinnbeboaaDjO
namespace Go.Proofs.Ytcppcfinnbeboaa
open Go.RowKit Go.Shelf Go.ChangeShapes Go.WideShapes Go.ChangeAt

set_option maxRecDepth 100000 in
theorem law47Holds_c (v u : Value) (l : List Cho) (ts : List Int) (w : World) (hs : IsChos w v l) (ha : IsInts w u ts) : Calls Try.prog 4 #[v, u] w (Ret w (.bool true)) := by
  obtain ⟨At, ct, rfl, _, hct⟩ := ha.form
  have KF : Hid (∀ X, Below w.heap.size w X → Calls Try.prog 9 #[v] X (Ret X (.bool (fewB l)))) := Lib.hid fun X h => few47_c v l X (hs.below h)
  have KD : Hid (∀ X, Below w.heap.size w X → Calls Try.prog 13 #[v, .slice At ts.length ct] X (Ret X (.bool (holdsB l ts)))) := Lib.hid fun X h => djHolds_c v _ l ts X (hs.below h) (ha.below h)
  have KR : Hid (∀ X, Below w.heap.size w X → Calls Try.prog 14 #[v, .slice At ts.length ct] X (Ret X (.bool (holdsB l ts)))) := Lib.hid fun X h => r47Holds_c v _ l ts X (hs.below h) (ha.below h)
  clear hs ha
  generalize holdsB l ts = b at KD KR
  cases hf : fewB l
  · rw [hf] at KF
    go_enter Try.func4, Try.ntmps4
    go_wp2_with fail
    refine (awake47_c _).mono ?_
    rintro e w1 ⟨rfl, hb1⟩
    go_wp2_with fail
    refine (KF.out _ hb1).mono ?_
    rintro e w2 ⟨rfl, hb2⟩
    have HF := Lib.hid (hb1.trans (hb2.mono hb1.size))
    clear hb2
    go_wp2_with fail
    go_ret
    exact ⟨rfl, HF.out⟩
  rw [hf] at KF
  cases hl : decide ((50 : Int) < (ts.length : Int))
  rotate_left
  · go_enter Try.func4, Try.ntmps4
    go_wp2_with fail
    refine (awake47_c _).mono ?_
    rintro e w1 ⟨rfl, hb1⟩
    go_wp2_with fail
    refine (KF.out _ hb1).mono ?_
    rintro e w2 ⟨rfl, hb2⟩
    have HF := Lib.hid (hb1.trans (hb2.mono hb1.size))
    clear hb2
    go_wp2_with fail
    go_ret
    exact ⟨rfl, HF.out⟩
  go_enter Try.func4, Try.ntmps4
  go_wp2_with fail
  refine (awake47_c _).mono ?_
  rintro e w1 ⟨rfl, hb1⟩
  go_wp2_with fail
  refine (KF.out _ hb1).mono ?_
  rintro e w2 ⟨rfl, hb2⟩
  have hb2 := hb1.trans (hb2.mono hb1.size)
  go_wp2_with fail
  refine (KD.out _ hb2).mono ?_
  rintro e w3 ⟨rfl, hb3⟩
  have hb3 := hb2.trans (hb3.mono hb2.size)
  go_wp2_with fail
  refine (KR.out _ hb3).mono ?_
  rintro e w4 ⟨rfl, hb4⟩
  have HF := Lib.hid (hb3.trans (hb4.mono hb3.size))
  clear hb4
  go_wp2_with fail
  go_ret
  exact ⟨by simp, HF.out⟩

set_option maxRecDepth 100000 in
theorem law47Holds_lifted (os : Os) (started : os.Started) (H : Type) (enc : TypeId × Value → H) :
    ReturnsInHanded {} Try.checked os 4 .any (Rows.disjunctiveHoldsSpec.pre6 enc Try.prog Try.f4 Rows.disjunctiveHoldsRow.domain false) (Rows.disjunctiveHoldsSpec.post enc Try.prog Try.f4 false true false false) := by
  refine returnsInHanded_of_change (C := Try.checked) Try.own started (by kernel_rfl) Try.func4
    (ChangeSpec.witness6 (enc := enc) (C := Try.checked) false ⟨#[], #[.slice none 0 0, .slice none 0 0], []⟩ 8 (by kernel_rfl) (by kernel_rfl) (by kernel_rfl) (by kernel_rfl)) ?_
  intro W base args ds gs before hval0 hW hcnd _
  have hval : ∀ (j : Nat) t v, Try.f4.params[j]? = some t → args[j]? = some v → Value.okWide Try.prog W .any base t v := hval0
  have hW' := hW
  obtain ⟨p, q, hA0, hV, rfl, hfz, hnd⟩ := hW
  have hA : DataW.TrodAll enc Try.prog W 0 (fun _ => true) true Try.f4.params.toList args.toList ds p := hA0
  have hA1 := hA0
  rw [Try.params4] at hA hval
  obtain ⟨v0, v1, d0, d1, p0, p1, rfl, rfl, hp, h0, h1⟩ := trodAll_two hA
  obtain ⟨rfl, rfl⟩ := trodVars_none hV
  obtain ⟨l, g0⟩ := open_chos (hval 0 22 v0 rfl rfl) h0
  obtain ⟨ts, g1⟩ := open_ints (hval 1 32 v1 rfl rfl) h1
  clear hA0 hval0
  have hlt : ∀ x ∈ p, x.block < W.heap.size := fun x hx => hW'.lt x (by simp [hx])
  refine (law47Holds_c v0 v1 l ts W g0 g1).mono fun e W' ⟨he, hg⟩ => ?_
  subst he
  exact ⟨_, rfl, post_of_below (pa := p) (pv := []) hW' (fun _ _ _ => trodAll_mk1 (shut_bool Try.underlying4 _))
    (fun sp hsp => trodAll_keep Try.laidOut hg (by kernel_rfl) hA1 hlt (fun x hx => hsp x (by simp [hx])))
    (fun _ _ => rfl) rfl hg (ok_one (by kernel_rfl) rfl (okWide_bool_mk Try.underlying4 _))⟩

theorem law47Holds_holds : Rows.DisjunctiveHoldsSaid :=
  OpenClaim.holds_of_wide 4 Try.f4 rfl rfl rfl rfl rfl rfl rfl ⟨rfl, rfl, rfl, rfl, rfl⟩ rfl rfl rfl rfl rfl (by kernel_rfl) Try.func4 (by kernel_rfl)
    (of_decide_eq_true (by kernel_rfl)) (by unfold Func.isWrapper; first | (rw [if_pos (by decide +kernel)]; kernel_rfl) | (rw [if_neg (by decide +kernel)]; exact ⟨rfl, rfl⟩))
    (fun os started H enc _ => law47Holds_lifted os started H enc)
#print axioms law47Holds_holds
end Go.Proofs.Ytcppcfinnbeboaa
