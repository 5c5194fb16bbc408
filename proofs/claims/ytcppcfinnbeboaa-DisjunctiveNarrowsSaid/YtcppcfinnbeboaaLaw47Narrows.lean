/- DisjunctiveNarrows: Narrow returns the choices or the error of the reference, for every number of events and every list of choices. No condition. -/
import Derived.Test.YtcppcfinnbeboaaDkG
import Derived.Test.YtcppcfinnbeboaaDjK
import Derived.Test.YtcppcfinnbeboaaDjO
namespace Go.Proofs.Ytcppcfinnbeboaa
open Go.RowKit Go.Shelf Go.ChangeShapes Go.WideShapes Go.ChangeAt

/-- What both Narrows answer: the error, the choices. -/
def NarR (c : Int) (out : List Cho) (w : World) (e : Ending) (w' : World) : Prop := ∃ A k, e = .returned (.tuple #[.slice A out.length k, .int .i64 c]) ∧ IsChos w' (.slice A out.length k) out ∧ Below w.heap.size w w'
theorem netB_N {n : Int} {l : List Cho} (h : netB n l = true) : ∃ m : Nat, m < 24 ∧ n = ((m + 1 : Nat) : Int) ∧ StOk (m + 1) l := by
  unfold netB at h
  simp only [Bool.and_eq_true, decide_eq_true_eq] at h
  obtain ⟨⟨⟨h1, h2⟩, h3⟩, h4⟩ := h
  obtain ⟨m, rfl⟩ : ∃ m : Nat, n = ((m + 1 : Nat) : Int) := ⟨(n - 1).toNat, by omega⟩
  exact ⟨m, by omega, rfl, h3, fun i hi => choB_N (List.all_eq_true.1 h4 _ (cho_mem hi))⟩
theorem chos_form {w : World} {v : Value} {L : List Cho} (h : IsChos w v L) : ∃ A c, v = .slice A L.length c := by
  obtain ⟨S, h⟩ := h
  obtain ⟨A, c, h, _⟩ := h.form
  exact ⟨A, c, h⟩
theorem narrow_both (n : Int) (l : List Cho) : ∃ (c : Int) (out : List Cho), out.length ≤ 60 ∧ (∀ i, i < out.length → (cho out i).2.2.length ≤ 8) ∧ ∀ (v : Value) (w : World), IsChos w v l → Calls Try.prog 10 #[.int .i64 n, v] w (NarR c out w) ∧ Calls Try.prog 11 #[.int .i64 n, v] w (NarR c out w) := by
  cases hv : netB n l
  · refine ⟨1, [], by simp, fun i hi => absurd hi (by simp), fun v w hs => ⟨(djNarrow_bad n v l w hs hv).mono ?_, (r47Narrow_bad n v l w hs hv).mono ?_⟩⟩
    all_goals
      rintro e w' ⟨rfl, hb⟩
      exact ⟨none, 0, rfl, IsChos.nil, hb⟩
  · obtain ⟨m, hm, rfl, hst⟩ := netB_N hv
    obtain ⟨k, r, hn⟩ := nar_run (by omega) (by omega) hst
    cases r with
    | none =>
      refine ⟨17, [], by simp, fun i hi => absurd hi (by simp), fun v w hs => ⟨(djNarrow_c m v l w hs hm hv hn).mono ?_, (r47Narrow_c m v l w hs hm hv hn).mono ?_⟩⟩
      all_goals
        rintro e w' ⟨rfl, hb⟩
        exact ⟨none, 0, rfl, IsChos.nil, hb⟩
    | some out =>
      have hp := nar_part (by omega) (by omega) hn out rfl
      refine ⟨0, out, hp.ok.1, fun i hi => (hp.ok.2 i hi).2.2.2.2.2.1, fun v w hs => ⟨(djNarrow_c m v l w hs hm hv hn).mono ?_, (r47Narrow_c m v l w hs hm hv hn).mono ?_⟩⟩
      · rintro e w' ⟨u, S, rfl, ho, hb⟩
        obtain ⟨A, c, rfl⟩ := chos_form ho.chos
        exact ⟨A, c, rfl, ho.chos, hb⟩
      · rintro e w' ⟨u, rfl, ho, hb⟩
        obtain ⟨A, c, rfl⟩ := chos_form ho
        exact ⟨A, c, rfl, ho, hb⟩
set_option maxRecDepth 100000 in
theorem law47Narrows_c (v : Value) (n : Int) (l : List Cho) (w : World) (hs : IsChos w v l) : Calls Try.prog 3 #[.int .i64 n, v] w (Ret w (.bool true)) := by
  obtain ⟨c, out, ho1, ho2, hK⟩ := narrow_both n l
  have KF : Hid (∀ X, Below w.heap.size w X → Calls Try.prog 9 #[v] X (Ret X (.bool (fewB l)))) := Lib.hid fun X h => few47_c v l X (hs.below h)
  have KD : Hid (∀ X, Below w.heap.size w X → Calls Try.prog 10 #[.int .i64 n, v] X (NarR c out X)) := Lib.hid fun X h => (hK v X (hs.below h)).1
  have KR : Hid (∀ X, Below w.heap.size w X → Calls Try.prog 11 #[.int .i64 n, v] X (NarR c out X)) := Lib.hid fun X h => (hK v X (hs.below h)).2
  have KS : Hid (∀ X a b, IsChos X a out → IsChos X b out → Calls Try.prog 12 #[a, b] X (Ret X (.bool true))) := Lib.hid fun X a b h1 h2 => by
    have h := r47Same_c a b out out X h1 h2 (by omega) (fun i hi => by have := ho2 i hi; omega)
    have e : sameC out out = true := by unfold sameC; simp
    rwa [e] at h
  have C0 : (c == c) = true := by simp
  clear hs hK ho1 ho2
  cases hf : fewB l
  · rw [hf] at KF
    go_enter Try.func3, Try.ntmps3
    go_wp2_with fail
    refine (awake47_c _).mono ?_
    rintro e w1 ⟨rfl, hb1⟩
    go_wp2_with fail
    refine (KF.out _ hb1).mono ?_
    rintro e w2 ⟨rfl, hb2⟩
    have HF := Lib.hid (hb1.trans (hb2.mono hb1.size))
    clear hb2
    go_wp2_with fail
    go_ret
    exact ⟨rfl, HF.out⟩
  rw [hf] at KF
  go_enter Try.func3, Try.ntmps3
  go_wp2_with fail
  refine (awake47_c _).mono ?_
  rintro e w1 ⟨rfl, hb1⟩
  go_wp2_with fail
  refine (KF.out _ hb1).mono ?_
  rintro e w2 ⟨rfl, hb2⟩
  have hb2 := hb1.trans (hb2.mono hb1.size)
  go_wp2_with fail
  refine (KD.out _ hb2).mono ?_
  rintro e w3 ⟨A3, c3, rfl, h3, hb3⟩
  have hb3 := hb2.trans (hb3.mono hb2.size)
  go_wp2_with fail
  refine (KR.out _ hb3).mono ?_
  rintro e w4 ⟨A4, c4, rfl, h4, hb4⟩
  have h3 := h3.below hb4
  have hb4 := hb3.trans (hb4.mono hb3.size)
  have K5 := Lib.hid (KS.out _ _ _ h3 h4)
  have HB := Lib.hid hb4
  clear h3 h4 hb1 hb2 hb3 hb4
  go_wp2_with fail
  refine K5.out.mono ?_
  rintro e w5 ⟨rfl, hb5⟩
  have HF := Lib.hid (HB.out.trans (hb5.mono HB.out.size))
  clear hb5
  go_wp2_with fail
  go_ret
  exact ⟨rfl, HF.out⟩

set_option maxRecDepth 100000 in
theorem law47Narrows_lifted (os : Os) (started : os.Started) (H : Type) (enc : TypeId × Value → H) :
    ReturnsInHanded {} Try.checked os 3 .any (Rows.disjunctiveNarrowsSpec.pre6 enc Try.prog Try.f3 Rows.disjunctiveNarrowsRow.domain false) (Rows.disjunctiveNarrowsSpec.post enc Try.prog Try.f3 false true false false) := by
  refine returnsInHanded_of_change (C := Try.checked) Try.own started (by kernel_rfl) Try.func3
    (ChangeSpec.witness6 (enc := enc) (C := Try.checked) false ⟨#[], #[.int .i64 0, .slice none 0 0], []⟩ 8 (by kernel_rfl) (by kernel_rfl) (by kernel_rfl) (by kernel_rfl)) ?_
  intro W base args ds gs before hval0 hW hcnd _
  have hval : ∀ (j : Nat) t v, Try.f3.params[j]? = some t → args[j]? = some v → Value.okWide Try.prog W .any base t v := hval0
  have hW' := hW
  obtain ⟨p, q, hA0, hV, rfl, hfz, hnd⟩ := hW
  have hA : DataW.TrodAll enc Try.prog W 0 (fun _ => true) true Try.f3.params.toList args.toList ds p := hA0
  have hA1 := hA0
  rw [Try.params3] at hA hval
  obtain ⟨v0, v1, d0, d1, p0, p1, rfl, rfl, hp, h0, h1⟩ := trodAll_two hA
  obtain ⟨rfl, rfl⟩ := trodVars_none hV
  obtain ⟨n, rfl, rfl, rfl, g0⟩ := open_int Try.underlying3 (hval 0 3 v0 rfl rfl) h0
  obtain ⟨l, g1⟩ := open_chos (hval 1 22 v1 rfl rfl) h1
  clear hA0 hval0
  have hlt : ∀ x ∈ p, x.block < W.heap.size := fun x hx => hW'.lt x (by simp [hx])
  refine (law47Narrows_c v1 n l W g1).mono fun e W' ⟨he, hg⟩ => ?_
  subst he
  exact ⟨_, rfl, post_of_below (pa := p) (pv := []) hW' (fun _ _ _ => trodAll_mk1 (shut_bool Try.underlying4 _))
    (fun sp hsp => trodAll_keep Try.laidOut hg (by kernel_rfl) hA1 hlt (fun x hx => hsp x (by simp [hx])))
    (fun _ _ => rfl) rfl hg (ok_one (by kernel_rfl) rfl (okWide_bool_mk Try.underlying4 _))⟩

theorem law47Narrows_holds : Rows.DisjunctiveNarrowsSaid :=
  OpenClaim.holds_of_wide 3 Try.f3 rfl rfl rfl rfl rfl rfl rfl ⟨rfl, rfl, rfl, rfl, rfl⟩ rfl rfl rfl rfl rfl (by kernel_rfl) Try.func3 (by kernel_rfl)
    (of_decide_eq_true (by kernel_rfl)) (by unfold Func.isWrapper; first | (rw [if_pos (by decide +kernel)]; kernel_rfl) | (rw [if_neg (by decide +kernel)]; exact ⟨rfl, rfl⟩))
    (fun os started H enc _ => law47Narrows_lifted os started H enc)
#print axioms law47Narrows_holds
end Go.Proofs.Ytcppcfinnbeboaa
