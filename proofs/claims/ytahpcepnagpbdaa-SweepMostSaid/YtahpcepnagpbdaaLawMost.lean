/- SweepMost: no packing has more spans than the earliest packing, which is a packing itself; whatever the list, the span and the set. No condition. -/
import Derived.Test.YtahpcepnagpbdaaAwake44
import Derived.Test.YtahpcepnagpbdaaSwK
import Derived.Test.YtahpcepnagpbdaaOpen
namespace Go.Proofs.Ytahpcepnagpbdaa
open Go.RowKit Go.ChangeShapes Go.WideShapes Go.ChangeAt

theorem most_plain {l : List Sp} {s : Sp} {M O : List Nat} (ho : l.all okSpan = true) (hM : OrdOf (fun j => (sp l j).2) (pickL l (insideB s) l.length) M) (hO : Apart l s O O.length) (hlt : ∀ x ∈ O, x < l.length) : O.length ≤ (packL l M).length := by
  have hok : ∀ j, j < l.length → fr l j < tt l j := fun j hj => by have := okS_all ho _ (idx_mem hj); unfold OkSp at this; exact this.2.1
  have hmem : ∀ j, j ∈ M ↔ j < l.length ∧ insideB s (sp l j) = true := fun j => (hM.perm.mem_iff).trans (by rw [pickL, List.mem_filter, List.mem_range])
  have hself : ∀ i j, i < O.length → j < i → ix O i ≠ ix O j := fun i j hi hj e => by
    have h1 := (hO i hi).2 j hj
    have h2 := hok _ (hlt _ (ix_mem hi))
    rw [← e] at h1
    have h3 := com_false h1 h2 h2
    simp only [sp] at h3; omega
  refine (pack_most l M (hM.asc.imp lex_le) (fun j hj => hok j ((hmem j).1 hj).1) O ?_ (fun x hx => ?_) (fun x hx y hy hne => ?_)).1
  · rw [List.nodup_iff_pairwise_ne, List.pairwise_iff_getElem]
    intro i j hi hj hij e
    rw [ix_at hi, ix_at hj] at e
    exact hself j i hj hij e.symm
  · obtain ⟨i, hi, rfl⟩ := List.mem_iff_getElem.1 hx
    rw [ix_at hi]
    exact (hmem _).2 ⟨hlt _ (ix_mem hi), (hO i hi).1⟩
  · obtain ⟨i, hi, rfl⟩ := List.mem_iff_getElem.1 hx
    obtain ⟨j, hj, rfl⟩ := List.mem_iff_getElem.1 hy
    rw [ix_at hi, ix_at hj] at *
    rcases Nat.lt_trichotomy i j with h | rfl | h
    · rw [com_comm]; exact (hO j hj).2 i h
    · exact absurd rfl hne
    · exact (hO i hi).2 j h
theorem pack_is {l : List Sp} {s : Sp} {M : List Nat} (ho : l.all okSpan = true) (hM : OrdOf (fun j => (sp l j).2) (pickL l (insideB s) l.length) M) : apartB l s (packL l M) = true ∧ ∀ x ∈ packL l M, x < l.length := by
  have hok : ∀ j, j < l.length → fr l j < tt l j := fun j hj => by have := okS_all ho _ (idx_mem hj); unfold OkSp at this; exact this.2.1
  have hmem : ∀ j, j ∈ M ↔ j < l.length ∧ insideB s (sp l j) = true := fun j => (hM.perm.mem_iff).trans (by rw [pickL, List.mem_filter, List.mem_range])
  obtain ⟨h1, _⟩ := pack_apart l M (hM.asc.imp lex_le) (fun j hj => hok j ((hmem j).1 hj).1)
  have h2 : ∀ x ∈ packL l M, x < l.length ∧ insideB s (sp l x) = true := fun x hx => (hmem x).1 (packL_mem hx)
  refine ⟨apartB_iff.2 fun i hi => ⟨(h2 _ (ix_mem hi)).2, fun j hj => ?_⟩, fun x hx => (h2 x hx).1⟩
  have h3 := List.pairwise_iff_getElem.1 h1 j i (by omega) hi hj
  rw [ix_at hi, ix_at (show j < (packL l M).length by omega)] at h3
  rw [Bool.eq_false_iff]
  intro hc
  have := com_true hc
  simp only [sp] at this
  omega
theorem pack_le {l : List Sp} {s : Sp} {M : List Nat} (hM : OrdOf (fun j => (sp l j).2) (pickL l (insideB s) l.length) M) : (packL l M).length ≤ l.length := by
  have h1 := packL_len (l := l) (L := M)
  have h2 := hM.perm.length_eq
  have h3 := pickL_len l (insideB s) l.length
  omega
/-- The set of spans that are taken one after the other. -/
structure Other (l : List Sp) (s : Sp) (O : List Nat) (i : Nat) : Prop where
  lt : ∀ x ∈ O, x < i
  ap : Apart l s O O.length
  len : O.length ≤ i
theorem other_zero (l : List Sp) (s : Sp) : Other l s [] 0 := ⟨fun x hx => by simp at hx, fun i hi => absurd hi (by simp), Nat.le_refl _⟩
theorem other_skip {l : List Sp} {s : Sp} {O : List Nat} {i : Nat} (h : Other l s O i) : Other l s O (i + 1) := ⟨fun x hx => Nat.lt_succ_of_lt (h.lt x hx), h.ap, Nat.le_succ_of_le h.len⟩
theorem other_add {l : List Sp} {s : Sp} {O : List Nat} {i : Nat} (h : Other l s O i) (ha : apartB l s (O ++ [i]) = true) : Other l s (O ++ [i]) (i + 1) := ⟨fun x hx => by
  rcases List.mem_append.1 hx with hx | hx
  · exact Nat.lt_succ_of_lt (h.lt x hx)
  · rw [List.mem_singleton.1 hx]; exact Nat.lt_succ_self i, apartB_iff.1 ha, by have := h.len; simp; omega⟩

set_option maxRecDepth 100000 in
set_option maxHeartbeats 4000000 in
theorem lawMost_c (v : Value) (l : List Sp) (p q set : Int) (w : World) (h1 : IsSpans w v l) :
    Calls Try.prog 6 #[v, .agg #[.int .i64 p, .int .i64 q], .int .u64 set] w (Ret w (.bool true)) := by
  obtain ⟨A, c, rfl, hnc, hc⟩ := h1.form
  go_enter Try.func6, Try.ntmps6
  go_wp2_with fail
  have hB0 := ((Below.refl w.heap.size w).alloc (Nat.le_refl _) (.cells #[.slice A l.length c] 22)).alloc (by simp) (.cells #[.int .i64 p, .int .i64 q] 31)
  have h1 := (h1.alloc (.cells #[.slice A l.length c] 22)).alloc (.cells #[.int .i64 p, .int .i64 q] 31)
  have x2 : ((w.alloc (.cells #[.slice A l.length c] 22)).alloc (.cells #[.int .i64 p, .int .i64 q] 31)).cell? ⟨w.heap.size, 0, none⟩ = some (.slice A l.length c) := by simp
  have x0 : ((w.alloc (.cells #[.slice A l.length c] 22)).alloc (.cells #[.int .i64 p, .int .i64 q] 31)).cell? ⟨w.heap.size + 1, 0, none⟩ = some (.int .i64 p) := by simp
  have x1 : ((w.alloc (.cells #[.slice A l.length c] 22)).alloc (.cells #[.int .i64 p, .int .i64 q] 31)).cell? ⟨w.heap.size + 1, 1, none⟩ = some (.int .i64 q) := by simp
  have hxs : w.heap.size + 1 < ((w.alloc (.cells #[.slice A l.length c] 22)).alloc (.cells #[.int .i64 p, .int .i64 q] 31)).heap.size := by simp
  obtain ⟨g3, hg3⟩ : ∃ g, g = w.heap.size := ⟨_, rfl⟩
  have Hg3 := Lib.hid hg3
  generalize hw0 : (w.alloc (.cells #[.slice A l.length c] 22)).alloc (.cells #[.int .i64 p, .int .i64 q] 31) = w0 at *
  clear hw0
  rw [← hg3] at x2 x0 x1 hxs ⊢
  have hxs0 : g3 < w0.heap.size := by omega
  clear hg3
  refine (awake44_c _).mono ?_
  rintro e w1 ⟨rfl, hX⟩
  replace h1 := h1.below hX
  have y2 := (hX.cell (p := ⟨g3, 0, none⟩) hxs0).trans x2
  have y0 := (hX.cell (p := ⟨g3 + 1, 0, none⟩) hxs).trans x0
  have y1 := (hX.cell (p := ⟨g3 + 1, 1, none⟩) hxs).trans x1
  by_cases hl : l.length ≤ 40
  · go_wp2_with fail
    refine (sPack_c _ l p q _ h1).mono ?_
    rintro e w3 ⟨r, k, v2, hP, rfl, h2, hb⟩
    replace h1 := h1.below hb
    replace hX := hX.trans (hb.mono hX.size)
    clear hb y0 y1 y2
    have y2 := (hX.cell (p := ⟨g3, 0, none⟩) hxs0).trans x2
    have y0 := (hX.cell (p := ⟨g3 + 1, 0, none⟩) hxs).trans x0
    have y1 := (hX.cell (p := ⟨g3 + 1, 1, none⟩) hxs).trans x1
    cases hr : rightB l && okSpan (p, q)
    · rw [PackSpec, if_neg (by rw [hr]; exact Bool.false_ne_true)] at hP
      obtain ⟨rfl, rfl⟩ := hP
      clear hr
      have hB := Lib.hid (hB0.trans (hX.mono hB0.size))
      go_wp2
      go_ret
      exact ⟨rfl, hB.out⟩
    · rw [PackSpec, if_pos hr] at hP
      obtain ⟨M, hM, hrM, rfl⟩ := hP
      rw [Bool.and_eq_true] at hr
      have hok := rightB_ok hr.1
      have HM := Lib.hid hM; have Hok := Lib.hid hok
      have hpi := pack_is hok hM
      have hple := pack_le hM
      rw [← hrM] at hpi hple
      have HrM := Lib.hid hrM
      have Hpi := Lib.hid hpi
      clear hM hok hr hrM hpi
      have hmf : ∀ (fn : Fn) (first cap : Array Value) (w : World), (Instr.makeFunc fn first cap).run Try.prog w = .ok (.func fn first cap) w := fun _ _ _ _ => rfl
      go_wp2
      go_loopw [10, 28] (fun o i wr => ∃ (k : Nat) (O : List Nat), i = .int .i64 k ∧ k ≤ l.length ∧ Hid (Other l (p, q) O k) ∧ OwnsIx wr w3.heap.size o O ∧ Below w3.heap.size w3 wr) (fun _ i _ => l.length - (intOf i).toNat)
      case atStart => exact ⟨0, [], rfl, Nat.zero_le _, other_zero _ _, own_nilI _ _ _, Below.refl _ _⟩
      case round =>
        obtain ⟨k, O, rfl, hk, HO, hown, hbw⟩ := hrel
        replace hX := hX.trans (hbw.mono hX.size)
        clear y0 y1 y2
        have y2 := (hX.cell (p := ⟨g3, 0, none⟩) hxs0).trans x2
        have y0 := (hX.cell (p := ⟨g3 + 1, 0, none⟩) hxs).trans x0
        have y1 := (hX.cell (p := ⟨g3 + 1, 1, none⟩) hxs).trans x1
        by_cases hlt : k < l.length
        · have hOl := HO.out.len
          go_wp2_with fail
          · refine (slCloneIdx_c _ O _ w3.heap.size hown (by omega)).mono ?_
            rintro e w4 ⟨v4, rfl, h4, hb4⟩
            go_wp2_with (at_builtin; refine wpList_unguard (by rfl) ?_; refine append_ix tInts tIntInfo (by rfl) (.tmp 39) (.tmp 41) (by rfl) wr.heap.size _ O k (by rfl) h4 (by rfl) (by omega) hb4.size ?_; intro v5 w5 hown5 hb5)
            have hb5 := hb4.trans hb5
            clear hb4 h4
            have hX5 := hX.trans (hb5.mono hX.size)
            have hc5 := lawMost1_c _ _ l (O ++ [k]) p q g3 (g3 + 1) w5 (h1.below (hbw.trans (hb5.mono hbw.size))) (OwnsIx.ints hown5) ((hX5.cell (p := ⟨g3, 0, none⟩) hxs0).trans x2) ((hX5.cell (p := ⟨g3 + 1, 0, none⟩) hxs).trans x0) ((hX5.cell (p := ⟨g3 + 1, 1, none⟩) hxs).trans x1) (Nat.lt_of_lt_of_le hxs0 hX5.size) (Nat.lt_of_lt_of_le hxs hX5.size)
              (fun x hx => by
                rcases List.mem_append.1 hx with hx | hx
                · have := HO.out.lt x hx; omega
                · rw [List.mem_singleton.1 hx]; exact hlt) (by omega)
            have hown5 := own_below hown hb5 (Nat.le_refl _)
            have hbw5 := hbw.trans (hb5.mono hbw.size)
            cases ha : apartB l (p, q) (O ++ [k])
            · rw [ha] at hc5
              have Hc5 := Lib.hid hc5
              have HO2 := Lib.hid (other_skip HO.out)
              clear hc5 ha y0 y1 y2
              go_wp2_with fail
              refine Hc5.out.mono ?_
              rintro e w6 ⟨rfl, hb6⟩
              have hown6 := own_below hown5 hb6 (Nat.le_refl _)
              have hbw6 := hbw5.trans (hb6.mono hbw5.size)
              go_wp2
              go_roundw
              case rel => exact ⟨k + 1, O, by go_num, hlt, HO2, hown6, hbw6⟩
              case measure => simp [intOf]; omega
            · rw [ha] at hc5
              have Hc5 := Lib.hid hc5
              have HO2 := Lib.hid (other_add HO.out ha)
              clear hc5 ha y0 y1 y2
              go_wp2_with fail
              refine Hc5.out.mono ?_
              rintro e w6 ⟨rfl, hb6⟩
              have hown6 : OwnsIx w6 w3.heap.size _ O := own_below hown5 hb6 (Nat.le_refl _)
              have hbw6 := hbw5.trans (hb6.mono hbw5.size)
              go_wp2_with (at_builtin; refine append_ix tInts tIntInfo (by rfl) (.tmp 45) (.tmp 47) (by rfl) w3.heap.size _ O k (by rfl) hown6 (by rfl) (by omega) hbw6.size ?_; intro v7 w7 hown7 hb7; have hbw7 := hbw6.trans hb7)
              go_roundw
              case rel => exact ⟨k + 1, O ++ [k], by go_num, hlt, HO2, hown7, hbw7⟩
              case measure => simp [intOf]; omega
          · exact ⟨⟨k + 1, O, by go_num, hlt, other_skip HO.out, hown, hbw⟩, by simp [intOf]; omega⟩
        · obtain rfl : k = l.length := by omega
          have hmost := most_plain Hok.out HM.out HO.out.ap HO.out.lt
          rw [← HrM.out] at hmost
          have hcall := lawMost1_c v2 _ l r p q g3 (g3 + 1) wr (h1.below hbw) (h2.below hbw) y2 y0 y1 (Nat.lt_of_lt_of_le hxs0 hX.size) (Nat.lt_of_lt_of_le hxs hX.size) Hpi.out.2 (by omega)
          rw [Hpi.out.1] at hcall
          have Hcall := Lib.hid hcall
          obtain ⟨Ar, cr, rfl, _, _⟩ := (rows_idx h2).form
          obtain ⟨Ao, co, rfl, _⟩ := own_formX hown
          clear hcall y0 y1 y2
          go_wp2_with fail
          refine Hcall.out.mono ?_
          rintro e w6 ⟨rfl, hb6⟩
          have hX6 := hX.trans (hb6.mono hX.size)
          have hB := Lib.hid (hB0.trans (hX6.mono hB0.size))
          go_wp2
          go_ret
          exact ⟨rfl, hB.out⟩
  · have hB := Lib.hid (hB0.trans (hX.mono hB0.size))
    go_wp2
    go_ret
    exact ⟨rfl, hB.out⟩

set_option maxRecDepth 100000 in
theorem lawMost_lifted (os : Os) (started : os.Started) (H : Type) (enc : TypeId × Value → H) :
    ReturnsInHanded {} Try.checked os 6 .any (Rows.sweepMostSpec.pre6 enc Try.prog Try.f6 Rows.sweepMostRow.domain false) (Rows.sweepMostSpec.post enc Try.prog Try.f6 false true false false) := by
  refine returnsInHanded_of_change (C := Try.checked) Try.own started (by kernel_rfl) Try.func6
    (ChangeSpec.witness6 (enc := enc) (C := Try.checked) false ⟨#[], #[.slice none 0 0, .agg #[.int .i64 0, .int .i64 0], .int .u64 0], []⟩ 8 (by kernel_rfl) (by kernel_rfl) (by kernel_rfl) (by kernel_rfl)) ?_
  intro W base args ds gs before hval0 hW hcnd _
  have hval : ∀ (j : Nat) t v, Try.f6.params[j]? = some t → args[j]? = some v → Value.okWide Try.prog W .any base t v := hval0
  have hW' := hW
  obtain ⟨p, q, hA0, hV, rfl, hfz, hnd⟩ := hW
  have hA : DataW.TrodAll enc Try.prog W 0 (fun _ => true) true Try.f6.params.toList args.toList ds p := hA0
  have hA1 := hA0
  rw [Try.params6] at hA hval
  obtain ⟨v0, v1, v2, d0, d1, d2, p0, p1, p2, rfl, rfl, hp, h0, h1, h2⟩ := trodAll_three hA
  obtain ⟨rfl, rfl⟩ := trodVars_none hV
  obtain ⟨l, g0, r0⟩ := open_spans (hval 0 22 v0 rfl rfl) h0
  obtain ⟨s1, s2, rfl, g1⟩ := open_span (hval 1 31 v1 rfl rfl) h1
  obtain ⟨set, rfl, rfl, rfl, g2⟩ := open_int Try.underlying45 (hval 2 45 v2 rfl rfl) h2
  clear hA0 hval0
  have hlt : ∀ x ∈ p, x.block < W.heap.size := fun x hx => hW'.lt x (by simp [hx])
  refine (lawMost_c v0 l s1 s2 set W g0).mono fun e W' ⟨he, hg⟩ => ?_
  subst he
  exact ⟨_, rfl, post_of_below (pa := p) (pv := []) hW' (fun _ _ _ => trodAll_mk1 (shut_bool Try.underlying4 _))
    (fun sp hsp => trodAll_keep Try.laidOut hg (by kernel_rfl) hA1 hlt (fun x hx => hsp x (by simp [hx])))
    (fun _ _ => rfl) rfl hg (ok_one (by kernel_rfl) rfl (okWide_bool_mk Try.underlying4 _))⟩

theorem lawMost_holds : Rows.SweepMostSaid :=
  OpenClaim.holds_of_wide 6 Try.f6 rfl rfl rfl rfl rfl rfl rfl ⟨rfl, rfl, rfl, rfl, rfl⟩ rfl rfl rfl rfl rfl (by kernel_rfl) Try.func6 (by kernel_rfl)
    (of_decide_eq_true (by kernel_rfl)) (by unfold Func.isWrapper; first | (rw [if_pos (by decide +kernel)]; kernel_rfl) | (rw [if_neg (by decide +kernel)]; exact ⟨rfl, rfl⟩))
    (fun os started H enc _ => lawMost_lifted os started H enc)
#print axioms lawMost_holds
end Go.Proofs.Ytahpcepnagpbdaa
