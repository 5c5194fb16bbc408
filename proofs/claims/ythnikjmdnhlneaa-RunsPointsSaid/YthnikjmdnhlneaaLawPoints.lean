/- RunsPoints: the results of all operations contain exactly the specified points: whatever the lists, the span and the number, the law answers true. No condition. -/
import Derived.Test.YthnikjmdnhlneaaAwake
import Derived.Test.YthnikjmdnhlneaaGreat
import Derived.Test.YthnikjmdnhlneaaOpen
namespace Go.Proofs.Ythnikjmdnhlneaa
open Go.RowKit Go.ChangeShapes Go.WideShapes Go.ChangeAt

def XCell (w : World) (p : Addr) (x : Int) : Prop := w.cell? p = some (.int .i64 x) ∧ p.block < w.heap.size
theorem XCell.cl {w : World} {p : Addr} {x : Int} (h : XCell w p x) : w.cell? p = some (.int .i64 x) := h.1
theorem XCell.lt {w : World} {p : Addr} {x : Int} (h : XCell w p x) : p.block < w.heap.size := h.2
theorem keepX {w w' : World} {p : Addr} {x : Int} (h : XCell w p x) (hb : Below w.heap.size w w') : XCell w' p x := ⟨(hb.cell h.2).trans h.1, Nat.lt_of_lt_of_le h.2 hb.size⟩
theorem ent_lawPoints1 : ∀ (args : Array Value) (w : World), Sem.run Try.prog (callFunc 40 args) w = .ok (.enter 40 args) w := fun _ _ => by kernel_rfl
theorem anyLong_two {n m : Nat} (h : anyLong [n, m] = false) : n ≤ 80 ∧ m ≤ 80 := by
  simp [anyLong, longAt, List.range_succ] at h
  exact h

set_option maxRecDepth 100000 in
theorem lawPoints1_c (v : Value) (l : List Sp) (en : Int) (want : Bool) (x : Int) (g : Nat) (h : en ≠ 0 ∨ (validB l && mem l x) = want) (w : World) (hs : IsSpans w v l) (hx : w.cell? ⟨g, 0, none⟩ = some (.int .i64 x)) (_ : g < w.heap.size) :
    Calls Try.prog 40 #[v, .int .i64 en, .bool want, .pointer (some ⟨g, 0, none⟩)] w (Ret w (.bool true)) := by
  by_cases he : en = 0
  · subst he
    have hk := rHas_c v l x w hs
    rw [h.resolve_left (by simp)] at hk
    have Hk := Lib.hid hk; clear hk h
    cases want
    all_goals
      go_enter Try.func40, Try.ntmps40
      go_wp2_with fail
      refine Hk.out.mono ?_
      rintro e w1 ⟨rfl, hb⟩
      go_wp2
      go_ret
      exact ⟨rfl, hb⟩
  · have he' : (en != 0) = true := by rw [bne_iff_ne]; exact he
    clear h he
    go_enter Try.func40, Try.ntmps40
    go_wp2
    go_ret
    exact ⟨rfl, Below.refl _ _⟩

set_option maxRecDepth 100000 in
set_option maxHeartbeats 8000000 in
theorem lawPoints_c (v1 v2 : Value) (a b : List Sp) (i1 i2 x : Int) (w : World) (h1 : IsSpans w v1 a) (h2 : IsSpans w v2 b) :
    Calls Try.prog 9 #[v1, v2, .agg #[.int .i64 i1, .int .i64 i2], .int .i64 x] w (Ret w (.bool true)) := by
  obtain ⟨A, c, rfl, hnc, hc⟩ := h1.form
  obtain ⟨B, d, rfl, hnd, hdm⟩ := h2.form
  have hla : a.length ≤ 9223372036854775807 := by omega
  have hlb : b.length ≤ 9223372036854775807 := by omega
  have hal := Below.alloc (Below.alloc (Below.refl w.heap.size w) (Nat.le_refl _) (.cells #[.int .i64 i1, .int .i64 i2] 27)) (by simp) (.cells #[.int .i64 x] 3)
  have hX0 : XCell ((w.alloc (.cells #[.int .i64 i1, .int .i64 i2] 27)).alloc (.cells #[.int .i64 x] 3)) ⟨w.heap.size + 1, 0, none⟩ x := ⟨by simp, by simp⟩
  have hI00 : XCell ((w.alloc (.cells #[.int .i64 i1, .int .i64 i2] 27)).alloc (.cells #[.int .i64 x] 3)) ⟨w.heap.size, 0, none⟩ i1 := ⟨by simp, by simp; omega⟩
  have hI10 : XCell ((w.alloc (.cells #[.int .i64 i1, .int .i64 i2] 27)).alloc (.cells #[.int .i64 x] 3)) ⟨w.heap.size, 1, none⟩ i2 := ⟨by simp, by simp; omega⟩
  go_enter Try.func9, Try.ntmps9
  go_wp2_with fail
  have h1 := h1.below hal
  have h2 := h2.below hal
  generalize (w.alloc (.cells #[.int .i64 i1, .int .i64 i2] 27)).alloc (.cells #[.int .i64 x] 3) = w0 at *
  refine (awake12_c _).mono ?_
  rintro e w1 ⟨rfl, hB⟩
  have hX := keepX hX0 hB
  have hI0 := keepX hI00 hB
  have hI1 := keepX hI10 hB
  have h1 := h1.below hB
  have h2 := h2.below hB
  have hB := hal.trans (hB.mono hal.size)
  clear hX0 hI00 hI10 hal
  go_wp2_with fail
  refine (great12_c _ [a.length, b.length] _ (by exact slices_two w1.heap.size rfl hla hlb)).mono ?_
  rintro e w2 ⟨rfl, rfl⟩
  cases hg : anyLong [a.length, b.length]
  · obtain ⟨ha80, hb80⟩ := anyLong_two hg
    have hsz : 2 * a.length + 2 * b.length ≤ 2000 := by omega
    have hb := Below.alloc (Below.refl w1.heap.size w1) (Nat.le_refl _) (.cells #[.slice A a.length c, .slice B b.length d] 22)
    replace h1 := h1.below hb; replace h2 := h2.below hb; replace hX := keepX hX hb; replace hI0 := keepX hI0 hb; replace hI1 := keepX hI1 hb; replace hB := hB.trans (hb.mono hB.size); clear hg
    generalize w1.alloc (.cells #[.slice A a.length c, .slice B b.length d] 22) = w2 at *
    clear hb
    go_wp2
    have eX := fun z : BW w2 => bw_cell z hX.cl hX.lt
    have k1 := fun z : BW w2 => calls_bw z (rHas_c _ a x z.1 (h1.bw z))
    have k2 := fun z : BW w2 => calls_bw z (rHas_c _ b x z.1 (h2.bw z))
    have K1 := Lib.hid k1; have K2 := Lib.hid k2; clear k1 k2
    refine wp_region_below (by kernel_rfl) (by kernel_rfl) ?_
    repeat (go_big_quiet_step ((go_at_call 32; first | (with_reducible exact K1.out _) | (with_reducible exact K2.out _))))
    refine wpQuiet_nil ?_
    rintro _ ⟨⟨w3, hb⟩, rfl⟩
    clear K1 K2 eX
    replace h1 := h1.below hb; replace h2 := h2.below hb; replace hX := keepX hX hb; replace hI0 := keepX hI0 hb; replace hI1 := keepX hI1 hb; replace hB := hB.trans (hb.mono hB.size); clear hb
    have hmf : ∀ (fn : Fn) (first cap : Array Value) (w : World), (Instr.makeFunc fn first cap).run Try.prog w = .ok (.func fn first cap) w := fun _ _ _ _ => rfl
    go_wp2_with fail
    refine (rUnion_c _ _ a b _ h1 h2).mono ?_
    rintro e w4 ⟨⟨lu, eu⟩, hur, vu, rfl, hu, hb⟩
    have Eu : Hid (eu = if (validB a && validB b) = true then 0 else 1) := op_err hur hsz
    have Pu : Hid (eu ≠ 0 ∨ (validB lu && mem lu x) = gUnion (validB a && mem a x) (validB b && mem b x)) := op_point hur x
    clear hur
    replace h1 := h1.below hb; replace h2 := h2.below hb; replace hX := keepX hX hb; replace hI0 := keepX hI0 hb; replace hI1 := keepX hI1 hb; replace hB := hB.trans (hb.mono hB.size); clear hb
    go_wp2_with fail
    refine (rMeet_c _ _ a b _ h1 h2).mono ?_
    rintro e w5 ⟨⟨lm, em⟩, hmr, vm, rfl, hm, hb⟩
    have Em : Hid (em = if (validB a && validB b) = true then 0 else 1) := op_err hmr hsz
    have Pm : Hid (em ≠ 0 ∨ (validB lm && mem lm x) = gMeet (validB a && mem a x) (validB b && mem b x)) := op_point hmr x
    clear hmr
    replace h1 := h1.below hb; replace h2 := h2.below hb; replace hX := keepX hX hb; replace hI0 := keepX hI0 hb; replace hI1 := keepX hI1 hb; replace hB := hB.trans (hb.mono hB.size); replace hu := hu.below hb; clear hb
    go_wp2_with fail
    refine (rMinus_c _ _ a b _ h1 h2).mono ?_
    rintro e w6 ⟨⟨ld, ed⟩, hdr, vd, rfl, hd, hb⟩
    have Ed : Hid (ed = if (validB a && validB b) = true then 0 else 1) := op_err hdr hsz
    have Pd : Hid (ed ≠ 0 ∨ (validB ld && mem ld x) = gMinus (validB a && mem a x) (validB b && mem b x)) := op_point hdr x
    clear hdr
    replace h1 := h1.below hb; replace h2 := h2.below hb; replace hX := keepX hX hb; replace hI0 := keepX hI0 hb; replace hI1 := keepX hI1 hb; replace hB := hB.trans (hb.mono hB.size); replace hu := hu.below hb; replace hm := hm.below hb; clear hb
    go_wp2_with fail
    refine (rEither_c _ _ a b _ h1 h2).mono ?_
    rintro e w7 ⟨⟨ls, es⟩, hsr, vs, rfl, hs, hb⟩
    have Es : Hid (es = if (validB a && validB b) = true then 0 else 1) := op_err hsr hsz
    have Ps : Hid (es ≠ 0 ∨ (validB ls && mem ls x) = gEither (validB a && mem a x) (validB b && mem b x)) := op_point hsr x
    clear hsr
    replace h1 := h1.below hb; replace h2 := h2.below hb; replace hX := keepX hX hb; replace hI0 := keepX hI0 hb; replace hI1 := keepX hI1 hb; replace hB := hB.trans (hb.mono hB.size); replace hu := hu.below hb; replace hm := hm.below hb; replace hd := hd.below hb; clear hb
    have y0 := hI0.cl
    have y1 := hI1.cl
    go_wp2_with fail
    refine (rNot_c _ a i1 i2 _ h1).mono ?_
    rintro e w8 ⟨⟨ln, en⟩, hnr, vn, rfl, hn, hb⟩
    have Pn : Hid (en ≠ 0 ∨ (validB ln && mem ln x) = ((decide (i1 ≤ x) && decide (x < i2)) && !(validB a && mem a x))) := not_point hnr x
    clear hnr y0 y1
    replace h1 := h1.below hb; replace h2 := h2.below hb; replace hX := keepX hX hb; replace hI0 := keepX hI0 hb; replace hI1 := keepX hI1 hb; replace hB := hB.trans (hb.mono hB.size); replace hu := hu.below hb; replace hm := hm.below hb; replace hd := hd.below hb; replace hs := hs.below hb; clear hb
    generalize (validB a && mem a x) = P at *
    generalize (validB b && mem b x) = Q at *
    have y0 := hI0.cl
    have y1 := hI1.cl
    have y2 := hX.cl
    have Pu' := Pu.out; have Pm' := Pm.out; have Pd' := Pd.out; have Ps' := Ps.out; have Pn' := Pn.out
    have hin : (decide (i1 ≤ x) && decide (x < i2)) = true ∧ i1 ≤ x ∧ x < i2 ∨ (decide (i1 ≤ x) && decide (x < i2)) = false ∧ i1 ≤ x ∧ ¬ x < i2 ∨ (decide (i1 ≤ x) && decide (x < i2)) = false ∧ ¬ i1 ≤ x := by
      by_cases q1 : i1 ≤ x <;> by_cases q2 : x < i2 <;> simp [q1, q2]
    clear Pu Pm Pd Ps Pn
    have eu' := Eu.out; have em' := Em.out; have ed' := Ed.out; have es' := Es.out
    clear Eu Em Ed Es
    cases hV : (validB a && validB b) <;> rw [hV] at eu' em' ed' es' <;> simp only [if_true, if_false, Bool.false_eq_true] at eu' em' ed' es' <;> subst eu' em' ed' es'
    all_goals
      clear hV
      cases P <;> cases Q
    all_goals
      rcases hin with ⟨hi, hi1, hi2⟩ | ⟨hi, hi1, hi2⟩ | ⟨hi, hi1⟩
    all_goals
      rw [hi] at Pn'
      clear hi
      have ku := fun w' (h : IsSpans w' vu lu) k1 k2 => unRet (lawPoints1_c vu lu _ _ x (w.heap.size + 1) Pu' w' h k1 k2)
      have km := fun w' (h : IsSpans w' vm lm) k1 k2 => unRet (lawPoints1_c vm lm _ _ x (w.heap.size + 1) Pm' w' h k1 k2)
      have kd := fun w' (h : IsSpans w' vd ld) k1 k2 => unRet (lawPoints1_c vd ld _ _ x (w.heap.size + 1) Pd' w' h k1 k2)
      have ks := fun w' (h : IsSpans w' vs ls) k1 k2 => unRet (lawPoints1_c vs ls _ _ x (w.heap.size + 1) Ps' w' h k1 k2)
      have kn := fun w' (h : IsSpans w' vn ln) k1 k2 => unRet (lawPoints1_c vn ln _ _ x (w.heap.size + 1) Pn' w' h k1 k2)
      have Ku := Lib.hid ku; have Km := Lib.hid km; have Kd := Lib.hid kd; have Ks := Lib.hid ks; have Kn := Lib.hid kn
      clear ku km kd ks kn Pu' Pm' Pd' Ps' Pn'
    all_goals
      go_wp2_with (first
            | ((with_reducible refine wpList_call_cl (cap := #[.pointer (some ⟨w.heap.size + 1, 0, none⟩)]) 95 40 ?_ ?_ ?_ ent_lawPoints1 (Ku.out _ hu hX.cl hX.lt) ?_); exact rfl; exact rfl; exact rfl; rintro w' (hb : Below _ _ _); replace h1 := h1.below hb; replace h2 := h2.below hb; replace hX := keepX hX hb; replace hI0 := keepX hI0 hb; replace hI1 := keepX hI1 hb; replace hB := hB.trans (hb.mono hB.size); replace hu := hu.below hb; replace hm := hm.below hb; replace hd := hd.below hb; replace hs := hs.below hb; replace hn := hn.below hb; clear hb)
            | ((with_reducible refine wpList_call_cl (cap := #[.pointer (some ⟨w.heap.size + 1, 0, none⟩)]) 104 40 ?_ ?_ ?_ ent_lawPoints1 (Km.out _ hm hX.cl hX.lt) ?_); exact rfl; exact rfl; exact rfl; rintro w' (hb : Below _ _ _); replace h1 := h1.below hb; replace h2 := h2.below hb; replace hX := keepX hX hb; replace hI0 := keepX hI0 hb; replace hI1 := keepX hI1 hb; replace hB := hB.trans (hb.mono hB.size); replace hu := hu.below hb; replace hm := hm.below hb; replace hd := hd.below hb; replace hs := hs.below hb; replace hn := hn.below hb; clear hb)
            | ((with_reducible refine wpList_call_cl (cap := #[.pointer (some ⟨w.heap.size + 1, 0, none⟩)]) 114 40 ?_ ?_ ?_ ent_lawPoints1 (Kd.out _ hd hX.cl hX.lt) ?_); exact rfl; exact rfl; exact rfl; rintro w' (hb : Below _ _ _); replace h1 := h1.below hb; replace h2 := h2.below hb; replace hX := keepX hX hb; replace hI0 := keepX hI0 hb; replace hI1 := keepX hI1 hb; replace hB := hB.trans (hb.mono hB.size); replace hu := hu.below hb; replace hm := hm.below hb; replace hd := hd.below hb; replace hs := hs.below hb; replace hn := hn.below hb; clear hb)
            | ((with_reducible refine wpList_call_cl (cap := #[.pointer (some ⟨w.heap.size + 1, 0, none⟩)]) 125 40 ?_ ?_ ?_ ent_lawPoints1 (Ks.out _ hs hX.cl hX.lt) ?_); exact rfl; exact rfl; exact rfl; rintro w' (hb : Below _ _ _); replace h1 := h1.below hb; replace h2 := h2.below hb; replace hX := keepX hX hb; replace hI0 := keepX hI0 hb; replace hI1 := keepX hI1 hb; replace hB := hB.trans (hb.mono hB.size); replace hu := hu.below hb; replace hm := hm.below hb; replace hd := hd.below hb; replace hs := hs.below hb; replace hn := hn.below hb; clear hb)
            | ((with_reducible refine wpList_call_cl (cap := #[.pointer (some ⟨w.heap.size + 1, 0, none⟩)]) 134 40 ?_ ?_ ?_ ent_lawPoints1 (Kn.out _ hn hX.cl hX.lt) ?_); exact rfl; exact rfl; exact rfl; rintro w' (hb : Below _ _ _); replace h1 := h1.below hb; replace h2 := h2.below hb; replace hX := keepX hX hb; replace hI0 := keepX hI0 hb; replace hI1 := keepX hI1 hb; replace hB := hB.trans (hb.mono hB.size); replace hu := hu.below hb; replace hm := hm.below hb; replace hd := hd.below hb; replace hs := hs.below hb; replace hn := hn.below hb; clear hb)
            | fail)
    all_goals
      go_ret
      exact ⟨rfl, hB⟩
  · go_wp2
    go_ret
    exact ⟨rfl, hB.alloc hB.size _⟩

set_option maxRecDepth 100000 in
theorem lawPoints_lifted (os : Os) (started : os.Started) (H : Type) (enc : TypeId × Value → H) :
    ReturnsInHanded {} Try.checked os 9 .any (Rows.runsPointsSpec.pre6 enc Try.prog Try.f9 Rows.runsPointsRow.domain false) (Rows.runsPointsSpec.post enc Try.prog Try.f9 false true false false) := by
  refine returnsInHanded_of_change (C := Try.checked) Try.own started (by kernel_rfl) Try.func9
    (ChangeSpec.witness6 (enc := enc) (C := Try.checked) false ⟨#[], #[.slice none 0 0, .slice none 0 0, .agg #[.int .i64 0, .int .i64 0], .int .i64 0], []⟩ 8 (by kernel_rfl) (by kernel_rfl) (by kernel_rfl) (by kernel_rfl)) ?_
  intro W base args ds gs before hval0 hW hcnd _
  have hval : ∀ (j : Nat) t v, Try.f9.params[j]? = some t → args[j]? = some v → Value.okWide Try.prog W .any base t v := hval0
  have hW' := hW
  obtain ⟨p, q, hA0, hV, rfl, hfz, hnd⟩ := hW
  have hA : DataW.TrodAll enc Try.prog W 0 (fun _ => true) true Try.f9.params.toList args.toList ds p := hA0
  have hA1 := hA0
  rw [Try.params9] at hA hval
  obtain ⟨v0, v1, v2, v3, d0, d1, d2, d3, p0, p1, p2, p3, rfl, rfl, hp, h0, h1, h2, h3⟩ := trodAll_four hA
  obtain ⟨rfl, rfl⟩ := trodVars_none hV
  obtain ⟨a, g0, r0⟩ := open_spans (hval 0 22 v0 rfl rfl) h0
  obtain ⟨b, g1, r1⟩ := open_spans (hval 1 22 v1 rfl rfl) h1
  obtain ⟨s1, s2, rfl, g2⟩ := open_span (hval 2 27 v2 rfl rfl) h2
  obtain ⟨x, rfl, rfl, rfl, g3⟩ := open_int Try.underlying3 (hval 3 3 v3 rfl rfl) h3
  clear hA0 hval0
  have hlt : ∀ x ∈ p, x.block < W.heap.size := fun x hx => hW'.lt x (by simp [hx])
  refine (lawPoints_c v0 v1 a b s1 s2 x W g0 g1).mono fun e W' ⟨he, hg⟩ => ?_
  subst he
  exact ⟨_, rfl, post_of_below (pa := p) (pv := []) hW' (fun _ _ _ => trodAll_mk1 (shut_bool Try.underlying4 _))
    (fun sp hsp => trodAll_keep Try.laidOut hg (by kernel_rfl) hA1 hlt (fun x hx => hsp x (by simp [hx])))
    (fun _ _ => rfl) rfl hg (ok_one (by kernel_rfl) rfl (okWide_bool_mk Try.underlying4 _))⟩

theorem lawPoints_holds : Rows.RunsPointsSaid :=
  OpenClaim.holds_of_wide 9 Try.f9 rfl rfl rfl rfl rfl rfl rfl ⟨rfl, rfl, rfl, rfl, rfl⟩ rfl rfl rfl rfl rfl (by kernel_rfl) Try.func9 (by kernel_rfl)
    (of_decide_eq_true (by kernel_rfl)) (by unfold Func.isWrapper; first | (rw [if_pos (by decide +kernel)]; kernel_rfl) | (rw [if_neg (by decide +kernel)]; exact ⟨rfl, rfl⟩))
    (fun os started H enc _ => lawPoints_lifted os started H enc)
#print axioms lawPoints_holds
end Go.Proofs.Ythnikjmdnhlneaa
