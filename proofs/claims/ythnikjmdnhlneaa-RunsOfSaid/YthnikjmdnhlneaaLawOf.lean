/- RunsOf: Of returns the canonical list of the union of any spans, or ErrArg, as the reference does, and does not change canonical lists; whatever the list. No condition. -/
import Derived.Test.YthnikjmdnhlneaaAwake
import Derived.Test.YthnikjmdnhlneaaGreat
import Derived.Test.YthnikjmdnhlneaaRunsR
import Derived.Test.YthnikjmdnhlneaaRunsZ
import Derived.Test.YthnikjmdnhlneaaOpen
namespace Go.Proofs.Ythnikjmdnhlneaa
open Go.RowKit Go.ChangeShapes Go.WideShapes Go.ChangeAt

theorem spansB_all (l : List Sp) : spansB l = l.all okSpan := by
  unfold spansB
  rw [Bool.eq_iff_iff, List.all_eq_true, List.all_eq_true]
  constructor
  · intro h s hs
    obtain ⟨i, hi, rfl⟩ := mem_idx hs
    exact h i (List.mem_range.2 hi)
  · intro h i hi
    exact h _ (idx_mem (List.mem_range.1 hi))
set_option maxRecDepth 100000 in
theorem r12Of_c (v : Value) (l : List Sp) (w : World) (hs : IsSpans w v l) (hl : l.length ≤ 2500) : Calls Try.prog 44 #[v] w (OfRet l w) := by
  have hcon := r12Spans_c v l w hs
  rw [spansB_all] at hcon
  cases ho : l.all okSpan
  all_goals
    rw [ho] at hcon
    have Hcon := Lib.hid hcon; clear hcon
    have Ho := Lib.hid ho; clear ho
    go_enter Try.func44, Try.ntmps44
    go_wp2_with fail
    refine Hcon.out.mono ?_
    rintro e w1 ⟨rfl, hb⟩
  · go_wp2
    go_ret2
    exact ⟨([], 1), of_bad Ho.out, _, rfl, IsSpans.nil, hb⟩
  · go_wp2_with fail
    refine (r12Combine_c 1 gUnion keep_union rfl _ _ l [] w1 (hs.below hb) IsSpans.nil (okS_all Ho.out) (fun s hs => by simp at hs) (by omega) (by simp)).mono ?_
    rintro e w3 ⟨r, hr, vr, rfl, hsr, hb3⟩
    have hb := hb.trans (hb3.mono hb.size)
    have hspec := of_comb Ho.out hr.1 (fun x => by rw [hr.2.1 x]; simp [gUnion, mem]) (by have := hr.2.2; simpa using this)
    have hd := r12full_c vr r w3 hsr
    generalize opR r = res at hspec hd
    have Hspec := Lib.hid hspec; clear hspec hr
    have Hd := Lib.hid hd; clear hd
    go_wp2_with fail
    refine Hd.out.mono ?_
    rintro e w4 ⟨v4, rfl, hs4, hb4⟩
    have hb := hb.trans (hb4.mono hb.size)
    go_wp2
    go_ret2
    exact ⟨res, Hspec.out, v4, rfl, hs4, hb⟩

set_option maxRecDepth 100000 in
set_option maxHeartbeats 1600000 in
theorem lawOf_c (v : Value) (l : List Sp) (w : World) (h1 : IsSpans w v l) :
    Calls Try.prog 11 #[v] w (Ret w (.bool true)) := by
  obtain ⟨A, c, rfl, hnc, hc⟩ := h1.form
  have hla : l.length ≤ 9223372036854775807 := by omega
  go_enter Try.func11, Try.ntmps11
  go_wp2_with fail
  refine (awake12_c _).mono ?_
  rintro e w1 ⟨rfl, hB⟩
  have h1 := h1.below hB
  go_wp2_with fail
  refine (great12_c _ [l.length] _ (by exact slices_one w1.heap.size rfl hla)).mono ?_
  rintro e w2 ⟨rfl, rfl⟩
  have hB := hB.alloc hB.size (.cells #[.slice A l.length c] 22)
  have h1 := h1.alloc (.cells #[.slice A l.length c] 22)
  cases hg : anyLong [l.length]
  · have hl : l.length ≤ 80 := by simpa [anyLong, longAt] using hg
    clear hg
    generalize w1.alloc (.cells #[.slice A l.length c] 22) = w2 at *
    go_wp2_with fail
    refine (rOf_c _ l _ h1 (by omega)).mono ?_
    rintro e w3 ⟨r, hr, va, rfl, hva, hb⟩
    have h1 := h1.below hb
    have hB := hB.trans (hb.mono hB.size)
    clear hb
    go_wp2_with fail
    refine (r12Of_c _ l _ h1 (by omega)).mono ?_
    rintro e w4 ⟨r', hr', vb, rfl, hvb, hb⟩
    obtain rfl := of_one hr hr'
    replace hva := hva.below hb
    replace h1 := h1.below hb
    have hB := hB.trans (hb.mono hB.size)
    clear hb hr'
    cases ho : l.all okSpan
    · rw [OfSpec, if_neg (by rw [ho]; exact Bool.false_ne_true)] at hr
      subst hr
      have hsame := r12Same_c va vb [] [] _ hva hvb
      have Hs := Lib.hid hsame; clear hsame ho
      go_wp2_with (go_at_call 17; refine Hs.out.mono ?_; rintro e w' ⟨rfl, hb⟩; replace hB := hB.trans (hb.mono hB.size); clear hb)
      go_ret
      exact ⟨rfl, hB⟩
    · obtain ⟨z, hval, _, _, heq⟩ := of_small hr (by omega) ho
      obtain ⟨rl, re⟩ := r
      simp only at z hval heq hva hvb
      subst z
      have ks := fun w' (h : IsSpans w' va rl) (h' : IsSpans w' vb rl) => r12Same_c va vb rl rl w' h h'
      have kv := fun w' (h : IsSpans w' va rl) => rValid_c va rl w' h
      have kw := fun w' (h : IsSpans w' (.slice A l.length c) l) => r12Valid_c (.slice A l.length c) l w' h
      rw [(sameL_iff rl rl).2 rfl] at ks
      rw [hval] at kv
      have Hs := Lib.hid ks; have Hv := Lib.hid kv
      clear ks kv hr ho
      cases hv : validB l
      · rw [hv] at kw
        have Hw := Lib.hid kw; clear kw hv heq hval
        go_wp2_with (first
          | (go_at_call 17; (with_reducible refine (Hs.out _ hva hvb).mono ?_); rintro e w' ⟨rfl, hb⟩; replace hva := hva.below hb; replace h1 := h1.below hb; replace hB := hB.trans (hb.mono hB.size); clear hb)
          | (go_at_call 14; (with_reducible refine (Hv.out _ hva).mono ?_); rintro e w' ⟨rfl, hb⟩; replace hva := hva.below hb; replace h1 := h1.below hb; replace hB := hB.trans (hb.mono hB.size); clear hb)
          | (go_at_call 15; (with_reducible refine (Hw.out _ h1).mono ?_); rintro e w' ⟨rfl, hb⟩; replace hB := hB.trans (hb.mono hB.size); clear hb))
        go_ret
        exact ⟨rfl, hB⟩
      · rw [hv] at kw
        obtain rfl := heq hv
        have ks2 := fun w' (h : IsSpans w' va rl) (h' : IsSpans w' (.slice A rl.length c) rl) => r12Same_c va (.slice A rl.length c) rl rl w' h h'
        rw [(sameL_iff rl rl).2 rfl] at ks2
        have Hs2 := Lib.hid ks2
        have Hw := Lib.hid kw; clear kw hv heq hval ks2
        go_wp2_with (first
          | (go_at_call 17; first
              | ((with_reducible refine (Hs.out _ hva hvb).mono ?_); rintro e w' ⟨rfl, hb⟩; replace hva := hva.below hb; replace h1 := h1.below hb; replace hB := hB.trans (hb.mono hB.size); clear hb)
              | ((with_reducible refine (Hs2.out _ hva h1).mono ?_); rintro e w' ⟨rfl, hb⟩; replace hB := hB.trans (hb.mono hB.size); clear hb))
          | (go_at_call 14; (with_reducible refine (Hv.out _ hva).mono ?_); rintro e w' ⟨rfl, hb⟩; replace hva := hva.below hb; replace h1 := h1.below hb; replace hB := hB.trans (hb.mono hB.size); clear hb)
          | (go_at_call 15; (with_reducible refine (Hw.out _ h1).mono ?_); rintro e w' ⟨rfl, hb⟩; replace hva := hva.below hb; replace h1 := h1.below hb; replace hB := hB.trans (hb.mono hB.size); clear hb))
        go_ret
        exact ⟨rfl, hB⟩
  · go_wp2
    go_ret
    exact ⟨rfl, hB⟩

set_option maxRecDepth 100000 in
theorem lawOf_lifted (os : Os) (started : os.Started) (H : Type) (enc : TypeId × Value → H) :
    ReturnsInHanded {} Try.checked os 11 .any (Rows.runsOfSpec.pre6 enc Try.prog Try.f11 Rows.runsOfRow.domain false) (Rows.runsOfSpec.post enc Try.prog Try.f11 false true false false) := by
  refine returnsInHanded_of_change (C := Try.checked) Try.own started (by kernel_rfl) Try.func11
    (ChangeSpec.witness6 (enc := enc) (C := Try.checked) false ⟨#[], #[.slice none 0 0], []⟩ 8 (by kernel_rfl) (by kernel_rfl) (by kernel_rfl) (by kernel_rfl)) ?_
  intro W base args ds gs before hval0 hW hcnd _
  have hval : ∀ (j : Nat) t v, Try.f11.params[j]? = some t → args[j]? = some v → Value.okWide Try.prog W .any base t v := hval0
  have hW' := hW
  obtain ⟨p, q, hA0, hV, rfl, hfz, hnd⟩ := hW
  have hA : DataW.TrodAll enc Try.prog W 0 (fun _ => true) true Try.f11.params.toList args.toList ds p := hA0
  have hA1 := hA0
  rw [Try.params11] at hA hval
  obtain ⟨v0, d0, rfl, rfl, h0⟩ := trodAll_one hA
  obtain ⟨rfl, rfl⟩ := trodVars_none hV
  obtain ⟨a, g0, r0⟩ := open_spans (hval 0 22 v0 rfl rfl) h0
  clear hA0 hval0
  have hlt : ∀ x ∈ p, x.block < W.heap.size := fun x hx => hW'.lt x (by simp [hx])
  refine (lawOf_c v0 a W g0).mono fun e W' ⟨he, hg⟩ => ?_
  subst he
  exact ⟨_, rfl, post_of_below (pa := p) (pv := []) hW' (fun _ _ _ => trodAll_mk1 (shut_bool Try.underlying4 _))
    (fun sp hsp => trodAll_keep Try.laidOut hg (by kernel_rfl) hA1 hlt (fun x hx => hsp x (by simp [hx])))
    (fun _ _ => rfl) rfl hg (ok_one (by kernel_rfl) rfl (okWide_bool_mk Try.underlying4 _))⟩

theorem lawOf_holds : Rows.RunsOfSaid :=
  OpenClaim.holds_of_wide 11 Try.f11 rfl rfl rfl rfl rfl rfl rfl ⟨rfl, rfl, rfl, rfl, rfl⟩ rfl rfl rfl rfl rfl (by kernel_rfl) Try.func11 (by kernel_rfl)
    (of_decide_eq_true (by kernel_rfl)) (by unfold Func.isWrapper; first | (rw [if_pos (by decide +kernel)]; kernel_rfl) | (rw [if_neg (by decide +kernel)]; exact ⟨rfl, rfl⟩))
    (fun os started H enc _ => lawOf_lifted os started H enc)
#print axioms lawOf_holds
end Go.Proofs.Ythnikjmdnhlneaa
