/- RunsOperations: whatever the two lists and the span, the operations answer as the reference says. No condition. -/
import Derived.Test.YthnikjmdnhlneaaAwake
import Derived.Test.YthnikjmdnhlneaaGreat
import Derived.Test.YthnikjmdnhlneaaRunsZ
import Derived.Test.YthnikjmdnhlneaaOpen
namespace Go.Proofs.Ythnikjmdnhlneaa
open Go.RowKit Go.ChangeShapes Go.WideShapes Go.ChangeAt

theorem op_unique {g : Bool → Bool → Bool} {a b : List Sp} {r s : List Sp × Int} (h : OpSpec g a b r) (h' : OpSpec g a b s) : r = s := by
  unfold OpSpec at h h'
  split at h
  · rename_i hv
    rw [if_pos hv] at h'
    obtain ⟨l, h1, _, rfl⟩ := h
    obtain ⟨m, h2, _, rfl⟩ := h'
    rw [isOp_unique h1 h2]
  · rename_i hv
    rw [if_neg hv] at h'
    rw [h, h']
theorem not_unique {a : List Sp} {s : Sp} {r t : List Sp × Int} (h : NotSpec a s r) (h' : NotSpec a s t) : r = t := by
  unfold NotSpec at h h'
  split at h
  · rename_i hv
    rw [if_pos hv] at h'
    exact op_unique h h'
  · rename_i hv
    rw [if_neg hv] at h'
    rw [h, h']
theorem one_valid {p q : Int} (h : okSpan (p, q) = true) : validB [(p, q)] = true := by
  rw [validB_iff]
  exact ⟨by simp, fun s hs => by rw [List.mem_singleton.1 hs]; exact (okSpan_iff _).1 h, by simp⟩

theorem r12Not_c (v : Value) (a : List Sp) (p q : Int) (w : World) (h : IsSpans w v a) :
    Calls Try.prog 39 #[v, .agg #[.int .i64 p, .int .i64 q]] w fun e w' => ∃ r, NotSpec a (p, q) r ∧ RetLE w r e w' := by
  obtain ⟨A, c, rfl, hnc, hc⟩ := h.form
  have hal := (Below.refl w.heap.size w).alloc (Nat.le_refl _) (.cells #[.int .i64 p, .int .i64 q] 27)
  have x0 : (w.alloc (.cells #[.int .i64 p, .int .i64 q] 27)).cell? ⟨w.heap.size, 0, none⟩ = some (.int .i64 p) := by simp
  have x1 : (w.alloc (.cells #[.int .i64 p, .int .i64 q] 27)).cell? ⟨w.heap.size, 1, none⟩ = some (.int .i64 q) := by simp
  have hlt : w.heap.size < (w.alloc (.cells #[.int .i64 p, .int .i64 q] 27)).heap.size := by simp
  have h := h.below hal
  cases hv : validB a
  · have hr : NotSpec a (p, q) ([], 1) := by unfold NotSpec OpSpec; simp [hv]
    have Hr := Lib.hid hr; clear hr
    go_enter Try.func39, Try.ntmps39
    go_wp2_with fail
    generalize w.alloc (.cells #[.int .i64 p, .int .i64 q] 27) = w0 at *
    refine (r12Valid_c _ _ _ h).mono ?_
    rw [hv]
    rintro e w1 ⟨rfl, hb⟩
    have hB := hal.trans (hb.mono hal.size)
    go_wp2
    go_ret2
    exact ⟨([], 1), Hr.out, _, rfl, IsSpans.nil, hB⟩
  · cases ho : okSpan (p, q)
    · have hr : NotSpec a (p, q) ([], 1) := by unfold NotSpec; simp [ho]
      have Hr := Lib.hid hr; clear hr
      go_enter Try.func39, Try.ntmps39
      go_wp2_with fail
      generalize w.alloc (.cells #[.int .i64 p, .int .i64 q] 27) = w0 at *
      refine (r12Valid_c _ _ _ h).mono ?_
      rw [hv]
      rintro e w1 ⟨rfl, hb⟩
      have hB := hal.trans (hb.mono hal.size)
      have x0 := (hb.cell (p := ⟨w.heap.size, 0, none⟩) hlt).trans x0
      have x1 := (hb.cell (p := ⟨w.heap.size, 1, none⟩) hlt).trans x1
      go_wp2_with fail
      refine (r12Span_c p q w1).mono ?_
      rw [ho]
      rintro e w2 ⟨rfl, hb2⟩
      have hB := hB.trans (hb2.mono hB.size)
      go_wp2
      go_ret2
      exact ⟨([], 1), Hr.out, _, rfl, IsSpans.nil, hB⟩
    · go_enter Try.func39, Try.ntmps39
      go_wp2_with fail
      generalize w.alloc (.cells #[.int .i64 p, .int .i64 q] 27) = w0 at *
      refine (r12Valid_c _ _ _ h).mono ?_
      rw [hv]
      rintro e w1 ⟨rfl, hb⟩
      have hB := hal.trans (hb.mono hal.size)
      have x0 := (hb.cell (p := ⟨w.heap.size, 0, none⟩) hlt).trans x0
      have x1 := (hb.cell (p := ⟨w.heap.size, 1, none⟩) hlt).trans x1
      have h := h.below hb
      have hlt := Nat.lt_of_lt_of_le hlt hb.size
      go_wp2_with fail
      refine (r12Span_c p q w1).mono ?_
      rw [ho]
      rintro e w2 ⟨rfl, hb2⟩
      have hB := hB.trans (hb2.mono hB.size)
      have x0 := (hb2.cell (p := ⟨w.heap.size, 0, none⟩) hlt).trans x0
      have x1 := (hb2.cell (p := ⟨w.heap.size, 1, none⟩) hlt).trans x1
      have h := h.below hb2
      have la := validB_len hv
      go_wp2_with fail
      refine (r12Combine_c 3 gMinus keep_minus rfl _ _ [(p, q)] a _ (by exact spans_one p q _) (h.alloc _) (fun s hs => by rw [List.mem_singleton.1 hs]; exact (okSpan_iff _).1 ho) ((validB_iff a).1 hv).2.1 (by simp) (by omega)).mono ?_
      rintro e w3 ⟨r, hr, vr, rfl, hsr, hb3⟩
      have hB := (hB.alloc hB.size _).trans (hb3.mono (Nat.le_trans hB.size (by simp)))
      have Hr := Lib.hid hr; clear hr
      go_wp2_with fail
      refine (r12full_c vr r w3 hsr).mono ?_
      rintro e w4 ⟨v4, rfl, hs4, hb4⟩
      have hB := hB.trans (hb4.mono hB.size)
      go_wp2
      go_ret2
      exact ⟨opR r, by rw [NotSpec, if_pos ho, OpSpec, if_pos (by rw [hv, one_valid ho]; rfl)]; exact ⟨r, ⟨Hr.out.1, Hr.out.2.1⟩, Hr.out.2.2, rfl⟩, v4, rfl, hs4, hB⟩

theorem lawOperations1_c (v1 v2 : Value) (l : List Sp) (e : Int) (w : World) (h1 : IsSpans w v1 l) (h2 : IsSpans w v2 l) :
    Calls Try.prog 37 #[v1, .int .i64 e, v2, .int .i64 e] w (Ret w (.bool true)) := by
  go_enter Try.func37, Try.ntmps37
  go_wp2_with fail
  refine (r12Same_c v1 v2 l l w h1 h2).mono ?_
  rw [(sameL_iff l l).2 rfl]
  rintro e w1 ⟨rfl, hb⟩
  go_wp2
  go_ret
  exact ⟨rfl, hb⟩

set_option maxRecDepth 100000 in
set_option maxHeartbeats 4000000 in
theorem lawOperations_c (v1 v2 : Value) (a b : List Sp) (i1 i2 : Int) (w : World) (h1 : IsSpans w v1 a) (h2 : IsSpans w v2 b) :
    Calls Try.prog 8 #[v1, v2, .agg #[.int .i64 i1, .int .i64 i2]] w (Ret w (.bool true)) := by
  obtain ⟨A, c, rfl, hnc, hc⟩ := h1.form
  obtain ⟨B, d, rfl, hnd, hd⟩ := h2.form
  have hla : a.length ≤ 9223372036854775807 := by omega
  have hlb : b.length ≤ 9223372036854775807 := by omega
  have hB := (Below.refl w.heap.size w).alloc (Nat.le_refl _) (.cells #[.int .i64 i1, .int .i64 i2] 27)
  have x0 : (w.alloc (.cells #[.int .i64 i1, .int .i64 i2] 27)).cell? ⟨w.heap.size, 0, none⟩ = some (.int .i64 i1) := by simp
  have x1 : (w.alloc (.cells #[.int .i64 i1, .int .i64 i2] 27)).cell? ⟨w.heap.size, 1, none⟩ = some (.int .i64 i2) := by simp
  have hlt : w.heap.size < (w.alloc (.cells #[.int .i64 i1, .int .i64 i2] 27)).heap.size := by simp
  have h1 := h1.below hB
  have h2 := h2.below hB
  go_enter Try.func8, Try.ntmps8
  go_wp2_with fail
  generalize w.alloc (.cells #[.int .i64 i1, .int .i64 i2] 27) = w0 at *
  refine (awake12_c _).mono ?_
  rintro e w' ⟨rfl, hb⟩
  replace h1 := h1.below hb
  replace h2 := h2.below hb
  replace x0 := (hb.cell (p := ⟨w.heap.size, 0, none⟩) hlt).trans x0
  replace x1 := (hb.cell (p := ⟨w.heap.size, 1, none⟩) hlt).trans x1
  replace hlt := Nat.lt_of_lt_of_le hlt hb.size
  replace hB := hB.trans (hb.mono hB.size)
  clear hb
  go_wp2_with fail
  refine (great12_c _ [a.length, b.length] _ (by exact slices_two w'.heap.size rfl hla hlb)).mono ?_
  rintro e w2 ⟨rfl, rfl⟩
  have hb := (Below.refl w'.heap.size w').alloc (Nat.le_refl _) (.cells #[.slice A a.length c, .slice B b.length d] 22)
  replace h1 := h1.below hb
  replace h2 := h2.below hb
  replace x0 := (hb.cell (p := ⟨w.heap.size, 0, none⟩) hlt).trans x0
  replace x1 := (hb.cell (p := ⟨w.heap.size, 1, none⟩) hlt).trans x1
  replace hlt := Nat.lt_of_lt_of_le hlt hb.size
  replace hB := hB.trans (hb.mono hB.size)
  generalize w'.alloc (.cells #[.slice A a.length c, .slice B b.length d] 22) = w2 at *
  clear hb
  cases hg : anyLong [a.length, b.length]
  · go_wp2_with (first
      | (go_at_call 21; refine (rUnion_c _ _ a b _ h1 h2).mono ?_; rintro e w' ⟨r, hr, v, rfl, hv, hb⟩; replace h1 := h1.below hb; replace h2 := h2.below hb; replace x0 := (hb.cell (p := ⟨w.heap.size, 0, none⟩) hlt).trans x0; replace x1 := (hb.cell (p := ⟨w.heap.size, 1, none⟩) hlt).trans x1; replace hlt := Nat.lt_of_lt_of_le hlt hb.size; replace hB := hB.trans (hb.mono hB.size); clear hb)
      | (go_at_call 22; refine (rMeet_c _ _ a b _ h1 h2).mono ?_; rintro e w' ⟨r, hr, v, rfl, hv, hb⟩; replace h1 := h1.below hb; replace h2 := h2.below hb; replace x0 := (hb.cell (p := ⟨w.heap.size, 0, none⟩) hlt).trans x0; replace x1 := (hb.cell (p := ⟨w.heap.size, 1, none⟩) hlt).trans x1; replace hlt := Nat.lt_of_lt_of_le hlt hb.size; replace hB := hB.trans (hb.mono hB.size); clear hb)
      | (go_at_call 23; refine (rMinus_c _ _ a b _ h1 h2).mono ?_; rintro e w' ⟨r, hr, v, rfl, hv, hb⟩; replace h1 := h1.below hb; replace h2 := h2.below hb; replace x0 := (hb.cell (p := ⟨w.heap.size, 0, none⟩) hlt).trans x0; replace x1 := (hb.cell (p := ⟨w.heap.size, 1, none⟩) hlt).trans x1; replace hlt := Nat.lt_of_lt_of_le hlt hb.size; replace hB := hB.trans (hb.mono hB.size); clear hb)
      | (go_at_call 24; refine (rEither_c _ _ a b _ h1 h2).mono ?_; rintro e w' ⟨r, hr, v, rfl, hv, hb⟩; replace h1 := h1.below hb; replace h2 := h2.below hb; replace x0 := (hb.cell (p := ⟨w.heap.size, 0, none⟩) hlt).trans x0; replace x1 := (hb.cell (p := ⟨w.heap.size, 1, none⟩) hlt).trans x1; replace hlt := Nat.lt_of_lt_of_le hlt hb.size; replace hB := hB.trans (hb.mono hB.size); clear hb)
      | (go_at_call 38; (first
          | (with_reducible refine (r12Apply_c 1 gUnion keep_union rfl _ _ a b _ h1 h2).mono ?_)
          | (with_reducible refine (r12Apply_c 2 gMeet keep_meet rfl _ _ a b _ h1 h2).mono ?_)
          | (with_reducible refine (r12Apply_c 3 gMinus keep_minus rfl _ _ a b _ h1 h2).mono ?_)
          | (with_reducible refine (r12Apply_c 4 gEither keep_either rfl _ _ a b _ h1 h2).mono ?_)
          | fail); rintro e w' ⟨s, hs, v', rfl, hv', hb⟩; obtain rfl := op_unique hr hs; replace hv := hv.below hb; replace h1 := h1.below hb; replace h2 := h2.below hb; replace x0 := (hb.cell (p := ⟨w.heap.size, 0, none⟩) hlt).trans x0; replace x1 := (hb.cell (p := ⟨w.heap.size, 1, none⟩) hlt).trans x1; replace hlt := Nat.lt_of_lt_of_le hlt hb.size; replace hB := hB.trans (hb.mono hB.size); clear hb hr hs)
      | (go_at_call 20; refine (rNot_c _ a i1 i2 _ h1).mono ?_; rintro e w' ⟨r, hr, v, rfl, hv, hb⟩; replace h1 := h1.below hb; replace h2 := h2.below hb; replace x0 := (hb.cell (p := ⟨w.heap.size, 0, none⟩) hlt).trans x0; replace x1 := (hb.cell (p := ⟨w.heap.size, 1, none⟩) hlt).trans x1; replace hlt := Nat.lt_of_lt_of_le hlt hb.size; replace hB := hB.trans (hb.mono hB.size); clear hb)
      | (go_at_call 39; refine (r12Not_c _ a i1 i2 _ h1).mono ?_; rintro e w' ⟨s, hs, v', rfl, hv', hb⟩; obtain rfl := not_unique hr hs; replace hv := hv.below hb; replace h1 := h1.below hb; replace h2 := h2.below hb; replace x0 := (hb.cell (p := ⟨w.heap.size, 0, none⟩) hlt).trans x0; replace x1 := (hb.cell (p := ⟨w.heap.size, 1, none⟩) hlt).trans x1; replace hlt := Nat.lt_of_lt_of_le hlt hb.size; replace hB := hB.trans (hb.mono hB.size); clear hb hr hs)
      | (go_at_call 37; refine (lawOperations1_c _ _ _ _ _ hv hv').mono ?_; rintro e w' ⟨rfl, hb⟩; replace h1 := h1.below hb; replace h2 := h2.below hb; replace x0 := (hb.cell (p := ⟨w.heap.size, 0, none⟩) hlt).trans x0; replace x1 := (hb.cell (p := ⟨w.heap.size, 1, none⟩) hlt).trans x1; replace hlt := Nat.lt_of_lt_of_le hlt hb.size; replace hB := hB.trans (hb.mono hB.size); clear hb hv hv')
      | fail)
    go_ret
    exact ⟨rfl, hB⟩
  · go_wp2
    go_ret
    exact ⟨rfl, hB⟩

set_option maxRecDepth 100000 in
theorem lawOperations_lifted (os : Os) (started : os.Started) (H : Type) (enc : TypeId × Value → H) :
    ReturnsInHanded {} Try.checked os 8 .any (Rows.runsOperationsSpec.pre6 enc Try.prog Try.f8 Rows.runsOperationsRow.domain false) (Rows.runsOperationsSpec.post enc Try.prog Try.f8 false true false false) := by
  refine returnsInHanded_of_change (C := Try.checked) Try.own started (by kernel_rfl) Try.func8
    (ChangeSpec.witness6 (enc := enc) (C := Try.checked) false ⟨#[], #[.slice none 0 0, .slice none 0 0, .agg #[.int .i64 0, .int .i64 0]], []⟩ 8 (by kernel_rfl) (by kernel_rfl) (by kernel_rfl) (by kernel_rfl)) ?_
  intro W base args ds gs before hval0 hW hcnd _
  have hval : ∀ (j : Nat) t v, Try.f8.params[j]? = some t → args[j]? = some v → Value.okWide Try.prog W .any base t v := hval0
  have hW' := hW
  obtain ⟨p, q, hA0, hV, rfl, hfz, hnd⟩ := hW
  have hA : DataW.TrodAll enc Try.prog W 0 (fun _ => true) true Try.f8.params.toList args.toList ds p := hA0
  have hA1 := hA0
  rw [Try.params8] at hA hval
  obtain ⟨v0, v1, v2, d0, d1, d2, p0, p1, p2, rfl, rfl, hp, h0, h1, h2⟩ := trodAll_three hA
  obtain ⟨rfl, rfl⟩ := trodVars_none hV
  obtain ⟨a, g0, r0⟩ := open_spans (hval 0 22 v0 rfl rfl) h0
  obtain ⟨b, g1, r1⟩ := open_spans (hval 1 22 v1 rfl rfl) h1
  obtain ⟨s1, s2, rfl, g2⟩ := open_span (hval 2 27 v2 rfl rfl) h2
  clear hA0 hval0
  have hlt : ∀ x ∈ p, x.block < W.heap.size := fun x hx => hW'.lt x (by simp [hx])
  refine (lawOperations_c v0 v1 a b s1 s2 W g0 g1).mono fun e W' ⟨he, hg⟩ => ?_
  subst he
  exact ⟨_, rfl, post_of_below (pa := p) (pv := []) hW' (fun _ _ _ => trodAll_mk1 (shut_bool Try.underlying4 _))
    (fun sp hsp => trodAll_keep Try.laidOut hg (by kernel_rfl) hA1 hlt (fun x hx => hsp x (by simp [hx])))
    (fun _ _ => rfl) rfl hg (ok_one (by kernel_rfl) rfl (okWide_bool_mk Try.underlying4 _))⟩

theorem lawOperations_holds : Rows.RunsOperationsSaid :=
  OpenClaim.holds_of_wide 8 Try.f8 rfl rfl rfl rfl rfl rfl rfl ⟨rfl, rfl, rfl, rfl, rfl⟩ rfl rfl rfl rfl rfl (by kernel_rfl) Try.func8 (by kernel_rfl)
    (of_decide_eq_true (by kernel_rfl)) (by unfold Func.isWrapper; first | (rw [if_pos (by decide +kernel)]; kernel_rfl) | (rw [if_neg (by decide +kernel)]; exact ⟨rfl, rfl⟩))
    (fun os started H enc _ => lawOperations_lifted os started H enc)
#print axioms lawOperations_holds
end Go.Proofs.Ythnikjmdnhlneaa
