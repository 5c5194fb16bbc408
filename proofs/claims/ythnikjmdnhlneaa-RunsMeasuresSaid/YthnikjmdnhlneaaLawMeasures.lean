/- RunsMeasures: inclusion and exclusion: whatever the two lists and the number, the law answers true. No condition. -/
import Derived.Test.YthnikjmdnhlneaaAwake
import Derived.Test.YthnikjmdnhlneaaGreat
import Derived.Test.YthnikjmdnhlneaaRunsU
import Derived.Test.YthnikjmdnhlneaaOpen
namespace Go.Proofs.Ythnikjmdnhlneaa
open Go.RowKit Go.ChangeShapes Go.WideShapes Go.ChangeAt

theorem ent_rMeasure : ∀ (args : Array Value) (w : World), Sem.run Try.prog (callFunc 26 args) w = .ok (.enter 26 args) w := fun _ _ => by kernel_rfl
theorem ent_lawMeasures1 : ∀ (args : Array Value) (w : World), Sem.run Try.prog (callFunc 27 args) w = .ok (.enter 27 args) w := fun _ _ => by kernel_rfl
def XCell (w : World) (p : Addr) (x : Int) : Prop := w.cell? p = some (.int .i64 x) ∧ p.block < w.heap.size
theorem XCell.cl {w : World} {p : Addr} {x : Int} (h : XCell w p x) : w.cell? p = some (.int .i64 x) := h.1
theorem XCell.lt {w : World} {p : Addr} {x : Int} (h : XCell w p x) : p.block < w.heap.size := h.2
theorem keepX {w w' : World} {p : Addr} {x : Int} (h : XCell w p x) (hb : Below w.heap.size w w') : XCell w' p x := ⟨(hb.cell h.2).trans h.1, Nat.lt_of_lt_of_le h.2 hb.size⟩
set_option maxRecDepth 100000 in
theorem lawMeasures1_c (v : Value) (l : List Sp) (x : Int) (g : Nat) (w : World) (hs : IsSpans w v l) (hx : w.cell? ⟨g, 0, none⟩ = some (.int .i64 x)) (_ : g < w.heap.size) :
    Calls Try.prog 27 #[v, .pointer (some ⟨g, 0, none⟩)] w (Ret w (.int .i64 (if validB l = true then rankL x l else 0))) := by
  have hk := rRank_c v l x w hs
  generalize (if validB l = true then rankL x l else 0) = R at *
  have Hk := Lib.hid hk; clear hk
  go_enter Try.func27, Try.ntmps27
  go_wp2_with fail
  refine Hk.out.mono ?_
  rintro e w1 ⟨rfl, hb⟩
  go_wp2
  go_ret
  exact ⟨rfl, hb⟩

set_option maxRecDepth 100000 in
set_option maxHeartbeats 1600000 in
theorem lawMeasures_c (v1 v2 : Value) (a b : List Sp) (x : Int) (w : World) (h1 : IsSpans w v1 a) (h2 : IsSpans w v2 b) : Calls Try.prog 5 #[v1, v2, .int .i64 x] w (Ret w (.bool true)) := by
  obtain ⟨A, c, rfl, hnc, hc⟩ := h1.form
  obtain ⟨B, d, rfl, hnd, hdm⟩ := h2.form
  have hla : a.length ≤ 9223372036854775807 := by omega
  have hlb : b.length ≤ 9223372036854775807 := by omega
  go_enter Try.func5, Try.ntmps5
  go_wp2_with fail
  refine (awake12_c _).mono ?_
  rintro e w1 ⟨rfl, hB⟩
  have hX := keepX (w := w.alloc (.cells #[.int .i64 x] 3)) (p := ⟨w.heap.size, 0, none⟩) (x := x) ⟨by simp, by simp⟩ hB
  have h1 := (h1.alloc (.cells #[.int .i64 x] 3)).below hB
  have h2 := (h2.alloc (.cells #[.int .i64 x] 3)).below hB
  have hB := ((Below.refl w.heap.size w).alloc (Nat.le_refl _) (.cells #[.int .i64 x] 3)).trans (hB.mono (by simp))
  go_wp2_with fail
  refine (great12_c _ [a.length, b.length] _ (by exact slices_two w1.heap.size rfl hla hlb)).mono ?_
  rintro e w2 ⟨rfl, rfl⟩
  cases hg : anyLong [a.length, b.length]
  · have hal := Below.alloc (Below.refl w1.heap.size w1) (Nat.le_refl _) (.cells #[.slice A a.length c, .slice B b.length d] 22)
    have h1 := h1.below hal
    have h2 := h2.below hal
    have hX := keepX hX hal
    have hB := hB.trans (hal.mono hB.size)
    generalize w1.alloc (.cells #[.slice A a.length c, .slice B b.length d] 22) = w2 at *
    clear hal hg
    go_wp2_with fail
    refine (rUnion_c _ _ a b _ h1 h2).mono ?_
    rintro e w3 ⟨r, hr, vu, rfl, hu, hb⟩
    have h1 := h1.below hb
    have h2 := h2.below hb
    have hX := keepX hX hb
    have hB := hB.trans (hb.mono hB.size)
    clear hb
    go_wp2_with fail
    refine (rMeet_c _ _ a b _ h1 h2).mono ?_
    rintro e w4 ⟨r2, hr2, vm, rfl, hm, hb⟩
    have h1 := h1.below hb
    have h2 := h2.below hb
    have hX := keepX hX hb
    have hu := hu.below hb
    have hB := hB.trans (hb.mono hB.size)
    clear hb
    go_wp2_with fail
    refine (rMinus_c _ _ a b _ h1 h2).mono ?_
    rintro e w5 ⟨r3, hr3, vd, rfl, hdd, hb⟩
    have ha := h1.below hb
    have hb' := h2.below hb
    have hX := keepX hX hb
    have hu := hu.below hb
    have hm := hm.below hb
    have hB := hB.trans (hb.mono hB.size)
    clear hb h1 h2
    cases hv : (validB a && validB b)
    · have e1 := op_bad hr hv
      subst e1
      go_wp2
      go_ret
      exact ⟨rfl, hB⟩
    · rw [Bool.and_eq_true] at hv
      rcases op_cases hr hv.1 hv.2 with ⟨u, rfl, hiu, hvu⟩ | ⟨rfl, _⟩
      · rcases op_cases hr2 hv.1 hv.2 with ⟨m, rfl, him, hvm⟩ | ⟨rfl, _⟩
        · rcases op_cases hr3 hv.1 hv.2 with ⟨dd, rfl, hid, hvd⟩ | ⟨rfl, _⟩
          · have ca := ((validB_iff a).1 hv.1)
            have cb := ((validB_iff b).1 hv.2)
            have cu := ((validB_iff u).1 hvu)
            have cm := ((validB_iff m).1 hvm)
            have cd := ((validB_iff dd).1 hvd)
            have hpum : ∀ y, ((if mem u y then 1 else 0 : Int) + if mem m y then 1 else 0) = (if mem a y then 1 else 0) + if mem b y then 1 else 0 := fun y => by
              rw [hiu.2, him.2]; unfold gUnion gMeet; cases mem a y <;> cases mem b y <;> rfl
            have hpdm : ∀ y, ((if mem dd y then 1 else 0 : Int) + if mem m y then 1 else 0) = (if mem a y then 1 else 0) + if mem [] y then 1 else 0 := fun y => by
              rw [hid.2, him.2, mem_nil]; unfold gMinus gMeet; cases mem a y <;> cases mem b y <;> rfl
            have s1 := meas_sum cu.2 cm.2 ca.2 cb.2 hpum
            have s2 := meas_sum cd.2 cm.2 ca.2 canon_nil hpdm
            have s3 := rank_sum cu.2 cm.2 ca.2 cb.2 hpum x
            have s4 := rank_sum cd.2 cm.2 ca.2 canon_nil hpdm x
            have kMu := fun w' (h : IsSpans w' vu u) => unRet (rMeasure_c vu u w' h)
            have kMm := fun w' (h : IsSpans w' vm m) => unRet (rMeasure_c vm m w' h)
            have kMd := fun w' (h : IsSpans w' vd dd) => unRet (rMeasure_c vd dd w' h)
            have kMa := fun w' (h : IsSpans w' (.slice A a.length c) a) => unRet (rMeasure_c _ a w' h)
            have kMb := fun w' (h : IsSpans w' (.slice B b.length d) b) => unRet (rMeasure_c _ b w' h)
            have kRu := fun w' (h : IsSpans w' vu u) (k1 : w'.cell? ⟨w.heap.size, 0, none⟩ = some (.int .i64 x)) (k2 : w.heap.size < w'.heap.size) => unRet (lawMeasures1_c vu u x w.heap.size w' h k1 k2)
            have kRm := fun w' (h : IsSpans w' vm m) (k1 : w'.cell? ⟨w.heap.size, 0, none⟩ = some (.int .i64 x)) (k2 : w.heap.size < w'.heap.size) => unRet (lawMeasures1_c vm m x w.heap.size w' h k1 k2)
            have kRd := fun w' (h : IsSpans w' vd dd) (k1 : w'.cell? ⟨w.heap.size, 0, none⟩ = some (.int .i64 x)) (k2 : w.heap.size < w'.heap.size) => unRet (lawMeasures1_c vd dd x w.heap.size w' h k1 k2)
            have kRa := fun w' (h : IsSpans w' (.slice A a.length c) a) (k1 : w'.cell? ⟨w.heap.size, 0, none⟩ = some (.int .i64 x)) (k2 : w.heap.size < w'.heap.size) => unRet (lawMeasures1_c _ a x w.heap.size w' h k1 k2)
            have kRb := fun w' (h : IsSpans w' (.slice B b.length d) b) (k1 : w'.cell? ⟨w.heap.size, 0, none⟩ = some (.int .i64 x)) (k2 : w.heap.size < w'.heap.size) => unRet (lawMeasures1_c _ b x w.heap.size w' h k1 k2)
            rw [if_pos hvu] at kMu kRu
            rw [if_pos hvm] at kMm kRm
            rw [if_pos hvd] at kMd kRd
            rw [if_pos hv.1] at kMa kRa
            rw [if_pos hv.2] at kMb kRb
            have bu := meas_bound u cu.2.1
            have bm := meas_bound m cm.2.1
            have bd := meas_bound dd cd.2.1
            have ba := meas_bound a ca.2.1
            have bb := meas_bound b cb.2.1
            have ru := rank_nonneg x u cu.2.1
            have rm := rank_nonneg x m cm.2.1
            have rd := rank_nonneg x dd cd.2.1
            have ra := rank_nonneg x a ca.2.1
            have rb := rank_nonneg x b cb.2.1
            have lu := cu.1
            have lm := cm.1
            have ld := cd.1
            have la := ca.1
            have lb := cb.1
            have n1 : measL [] = 0 := rfl
            have n2 : rankL x [] = 0 := rfl
            rw [n1] at s2
            rw [n2] at s4
            generalize measL u = Mu at *
            generalize measL m = Mm at *
            generalize measL dd = Md at *
            generalize measL a = Ma at *
            generalize measL b = Mb at *
            generalize rankL x u = Ru at *
            generalize rankL x m = Rm at *
            generalize rankL x dd = Rd at *
            generalize rankL x a = Ra at *
            generalize rankL x b = Rb at *
            have q1 : (Mu + Mm == Ma + Mb) = true := by rw [beq_iff_eq]; exact s1
            have q2 : (Md + Mm == Ma) = true := by rw [beq_iff_eq]; omega
            have q3 : (Ru + Rm == Ra + Rb) = true := by rw [beq_iff_eq]; exact s3
            have q4 : (Rd + Rm == Ra) = true := by rw [beq_iff_eq]; omega
            have i1 : 0 ≤ Mu ∧ Mu ≤ 17592186044416000 := by omega
            have i2 : 0 ≤ Mm ∧ Mm ≤ 17592186044416000 := by omega
            have i3 : 0 ≤ Md ∧ Md ≤ 17592186044416000 := by omega
            have i4 : 0 ≤ Ma ∧ Ma ≤ 17592186044416000 := by omega
            have i5 : 0 ≤ Mb ∧ Mb ≤ 17592186044416000 := by omega
            have j1 : 0 ≤ Ru ∧ Ru ≤ 17592186044416000 := by omega
            have j2 : 0 ≤ Rm ∧ Rm ≤ 17592186044416000 := by omega
            have j3 : 0 ≤ Rd ∧ Rd ≤ 17592186044416000 := by omega
            have j4 : 0 ≤ Ra ∧ Ra ≤ 17592186044416000 := by omega
            have j5 : 0 ≤ Rb ∧ Rb ≤ 17592186044416000 := by omega
            clear s1 s2 s3 s4 bu bm bd ba bb ru rm rd ra rb lu lm ld la lb n1 n2 hpum hpdm ca cb cu cm cd hiu him hid hvu hvm hvd hv hr hr2 hr3
            have cMu := Lib.hid kMu; have cMm := Lib.hid kMm; have cMd := Lib.hid kMd; have cMa := Lib.hid kMa; have cMb := Lib.hid kMb
            have cRu := Lib.hid kRu; have cRm := Lib.hid kRm; have cRd := Lib.hid kRd; have cRa := Lib.hid kRa; have cRb := Lib.hid kRb
            clear kMu kMm kMd kMa kMb kRu kRm kRd kRa kRb
            have hd := hdd; clear hdd
            have hmf : ∀ (fn : Fn) (first cap : Array Value) (w : World), (Instr.makeFunc fn first cap).run Try.prog w = .ok (.func fn first cap) w := fun _ _ _ _ => rfl
            go_wp2_with (first
              | ((with_reducible refine wpList_call_cl (cap := #[]) 50 26 ?_ ?_ ?_ ent_rMeasure (cMu.out _ hu) ?_); exact rfl; exact rfl; exact rfl; rintro w' (hb : Below _ _ _); replace hu := hu.below hb; replace hm := hm.below hb; replace hd := hd.below hb; replace ha := ha.below hb; replace hb' := hb'.below hb; replace hX := keepX hX hb; replace hB := hB.trans (hb.mono hB.size); clear hb)
              | ((with_reducible refine wpList_call_cl (cap := #[]) 53 26 ?_ ?_ ?_ ent_rMeasure (cMm.out _ hm) ?_); exact rfl; exact rfl; exact rfl; rintro w' (hb : Below _ _ _); replace hu := hu.below hb; replace hm := hm.below hb; replace hd := hd.below hb; replace ha := ha.below hb; replace hb' := hb'.below hb; replace hX := keepX hX hb; replace hB := hB.trans (hb.mono hB.size); clear hb)
              | ((with_reducible refine wpList_call_cl (cap := #[]) 57 26 ?_ ?_ ?_ ent_rMeasure (cMa.out _ ha) ?_); exact rfl; exact rfl; exact rfl; rintro w' (hb : Below _ _ _); replace hu := hu.below hb; replace hm := hm.below hb; replace hd := hd.below hb; replace ha := ha.below hb; replace hb' := hb'.below hb; replace hX := keepX hX hb; replace hB := hB.trans (hb.mono hB.size); clear hb)
              | ((with_reducible refine wpList_call_cl (cap := #[]) 60 26 ?_ ?_ ?_ ent_rMeasure (cMb.out _ hb') ?_); exact rfl; exact rfl; exact rfl; rintro w' (hb : Below _ _ _); replace hu := hu.below hb; replace hm := hm.below hb; replace hd := hd.below hb; replace ha := ha.below hb; replace hb' := hb'.below hb; replace hX := keepX hX hb; replace hB := hB.trans (hb.mono hB.size); clear hb)
              | ((with_reducible refine wpList_call_cl (cap := #[]) 66 26 ?_ ?_ ?_ ent_rMeasure (cMd.out _ hd) ?_); exact rfl; exact rfl; exact rfl; rintro w' (hb : Below _ _ _); replace hu := hu.below hb; replace hm := hm.below hb; replace hd := hd.below hb; replace ha := ha.below hb; replace hb' := hb'.below hb; replace hX := keepX hX hb; replace hB := hB.trans (hb.mono hB.size); clear hb)
              | ((with_reducible refine wpList_call_cl (cap := #[]) 69 26 ?_ ?_ ?_ ent_rMeasure (cMm.out _ hm) ?_); exact rfl; exact rfl; exact rfl; rintro w' (hb : Below _ _ _); replace hu := hu.below hb; replace hm := hm.below hb; replace hd := hd.below hb; replace ha := ha.below hb; replace hb' := hb'.below hb; replace hX := keepX hX hb; replace hB := hB.trans (hb.mono hB.size); clear hb)
              | ((with_reducible refine wpList_call_cl (cap := #[]) 73 26 ?_ ?_ ?_ ent_rMeasure (cMa.out _ ha) ?_); exact rfl; exact rfl; exact rfl; rintro w' (hb : Below _ _ _); replace hu := hu.below hb; replace hm := hm.below hb; replace hd := hd.below hb; replace ha := ha.below hb; replace hb' := hb'.below hb; replace hX := keepX hX hb; replace hB := hB.trans (hb.mono hB.size); clear hb)
              | ((with_reducible refine wpList_call_cl (cap := #[.pointer (some ⟨w.heap.size, 0, none⟩)]) 79 27 ?_ ?_ ?_ ent_lawMeasures1 (cRu.out _ hu hX.cl hX.lt) ?_); exact rfl; exact rfl; exact rfl; rintro w' (hb : Below _ _ _); replace hu := hu.below hb; replace hm := hm.below hb; replace hd := hd.below hb; replace ha := ha.below hb; replace hb' := hb'.below hb; replace hX := keepX hX hb; replace hB := hB.trans (hb.mono hB.size); clear hb)
              | ((with_reducible refine wpList_call_cl (cap := #[.pointer (some ⟨w.heap.size, 0, none⟩)]) 82 27 ?_ ?_ ?_ ent_lawMeasures1 (cRm.out _ hm hX.cl hX.lt) ?_); exact rfl; exact rfl; exact rfl; rintro w' (hb : Below _ _ _); replace hu := hu.below hb; replace hm := hm.below hb; replace hd := hd.below hb; replace ha := ha.below hb; replace hb' := hb'.below hb; replace hX := keepX hX hb; replace hB := hB.trans (hb.mono hB.size); clear hb)
              | ((with_reducible refine wpList_call_cl (cap := #[.pointer (some ⟨w.heap.size, 0, none⟩)]) 86 27 ?_ ?_ ?_ ent_lawMeasures1 (cRa.out _ ha hX.cl hX.lt) ?_); exact rfl; exact rfl; exact rfl; rintro w' (hb : Below _ _ _); replace hu := hu.below hb; replace hm := hm.below hb; replace hd := hd.below hb; replace ha := ha.below hb; replace hb' := hb'.below hb; replace hX := keepX hX hb; replace hB := hB.trans (hb.mono hB.size); clear hb)
              | ((with_reducible refine wpList_call_cl (cap := #[.pointer (some ⟨w.heap.size, 0, none⟩)]) 89 27 ?_ ?_ ?_ ent_lawMeasures1 (cRb.out _ hb' hX.cl hX.lt) ?_); exact rfl; exact rfl; exact rfl; rintro w' (hb : Below _ _ _); replace hu := hu.below hb; replace hm := hm.below hb; replace hd := hd.below hb; replace ha := ha.below hb; replace hb' := hb'.below hb; replace hX := keepX hX hb; replace hB := hB.trans (hb.mono hB.size); clear hb)
              | ((with_reducible refine wpList_call_cl (cap := #[.pointer (some ⟨w.heap.size, 0, none⟩)]) 96 27 ?_ ?_ ?_ ent_lawMeasures1 (cRd.out _ hd hX.cl hX.lt) ?_); exact rfl; exact rfl; exact rfl; rintro w' (hb : Below _ _ _); replace hu := hu.below hb; replace hm := hm.below hb; replace hd := hd.below hb; replace ha := ha.below hb; replace hb' := hb'.below hb; replace hX := keepX hX hb; replace hB := hB.trans (hb.mono hB.size); clear hb)
              | ((with_reducible refine wpList_call_cl (cap := #[.pointer (some ⟨w.heap.size, 0, none⟩)]) 99 27 ?_ ?_ ?_ ent_lawMeasures1 (cRm.out _ hm hX.cl hX.lt) ?_); exact rfl; exact rfl; exact rfl; rintro w' (hb : Below _ _ _); replace hu := hu.below hb; replace hm := hm.below hb; replace hd := hd.below hb; replace ha := ha.below hb; replace hb' := hb'.below hb; replace hX := keepX hX hb; replace hB := hB.trans (hb.mono hB.size); clear hb)
              | ((with_reducible refine wpList_call_cl (cap := #[.pointer (some ⟨w.heap.size, 0, none⟩)]) 103 27 ?_ ?_ ?_ ent_lawMeasures1 (cRa.out _ ha hX.cl hX.lt) ?_); exact rfl; exact rfl; exact rfl; rintro w' (hb : Below _ _ _); replace hu := hu.below hb; replace hm := hm.below hb; replace hd := hd.below hb; replace ha := ha.below hb; replace hb' := hb'.below hb; replace hX := keepX hX hb; replace hB := hB.trans (hb.mono hB.size); clear hb)
              | fail)
            go_ret
            exact ⟨rfl, hB⟩
          · go_wp2
            go_ret
            exact ⟨rfl, hB⟩
        · go_wp2
          go_ret
          exact ⟨rfl, hB⟩
      · go_wp2
        go_ret
        exact ⟨rfl, hB⟩
  · go_wp2
    go_ret
    exact ⟨rfl, hB.alloc hB.size _⟩

set_option maxRecDepth 100000 in
theorem lawMeasures_lifted (os : Os) (started : os.Started) (H : Type) (enc : TypeId × Value → H) :
    ReturnsInHanded {} Try.checked os 5 .any (Rows.runsMeasuresSpec.pre6 enc Try.prog Try.f5 Rows.runsMeasuresRow.domain false) (Rows.runsMeasuresSpec.post enc Try.prog Try.f5 false true false false) := by
  refine returnsInHanded_of_change (C := Try.checked) Try.own started (by kernel_rfl) Try.func5
    (ChangeSpec.witness6 (enc := enc) (C := Try.checked) false ⟨#[], #[.slice none 0 0, .slice none 0 0, .int .i64 0], []⟩ 8 (by kernel_rfl) (by kernel_rfl) (by kernel_rfl) (by kernel_rfl)) ?_
  intro W base args ds gs before hval0 hW hcnd _
  have hval : ∀ (j : Nat) t v, Try.f5.params[j]? = some t → args[j]? = some v → Value.okWide Try.prog W .any base t v := hval0
  have hW' := hW
  obtain ⟨p, q, hA0, hV, rfl, hfz, hnd⟩ := hW
  have hA : DataW.TrodAll enc Try.prog W 0 (fun _ => true) true Try.f5.params.toList args.toList ds p := hA0
  have hA1 := hA0
  rw [Try.params5] at hA hval
  obtain ⟨v0, v1, v2, d0, d1, d2, p0, p1, p2, rfl, rfl, hp, h0, h1, h2⟩ := trodAll_three hA
  obtain ⟨rfl, rfl⟩ := trodVars_none hV
  obtain ⟨a, g0, r0⟩ := open_spans (hval 0 22 v0 rfl rfl) h0
  obtain ⟨b, g1, r1⟩ := open_spans (hval 1 22 v1 rfl rfl) h1
  obtain ⟨x, rfl, rfl, rfl, g2⟩ := open_int Try.underlying3 (hval 2 3 v2 rfl rfl) h2
  clear hA0 hval0
  have hlt : ∀ x ∈ p, x.block < W.heap.size := fun x hx => hW'.lt x (by simp [hx])
  refine (lawMeasures_c v0 v1 a b x W g0 g1).mono fun e W' ⟨he, hg⟩ => ?_
  subst he
  exact ⟨_, rfl, post_of_below (pa := p) (pv := []) hW' (fun _ _ _ => trodAll_mk1 (shut_bool Try.underlying4 _))
    (fun sp hsp => trodAll_keep Try.laidOut hg (by kernel_rfl) hA1 hlt (fun x hx => hsp x (by simp [hx])))
    (fun _ _ => rfl) rfl hg (ok_one (by kernel_rfl) rfl (okWide_bool_mk Try.underlying4 _))⟩

theorem lawMeasures_holds : Rows.RunsMeasuresSaid :=
  OpenClaim.holds_of_wide 5 Try.f5 rfl rfl rfl rfl rfl rfl rfl ⟨rfl, rfl, rfl, rfl, rfl⟩ rfl rfl rfl rfl rfl (by kernel_rfl) Try.func5 (by kernel_rfl)
    (of_decide_eq_true (by kernel_rfl)) (by unfold Func.isWrapper; first | (rw [if_pos (by decide +kernel)]; kernel_rfl) | (rw [if_neg (by decide +kernel)]; exact ⟨rfl, rfl⟩))
    (fun os started H enc _ => lawMeasures_lifted os started H enc)
#print axioms lawMeasures_holds
end Go.Proofs.Ythnikjmdnhlneaa
