/- DisjunctiveEarliest: Earliest returns the least time of an event, or the specified error. No condition. -/
import Derived.Test.YtcppcfinnbeboaaGreatDtz
import Derived.Test.YtcppcfinnbeboaaGreatDjK
import Derived.Test.YtcppcfinnbeboaaGreatDjO
namespace Go.Proofs.YtcppcfinnbeboaaGreat
open Go.RowKit Go.Shelf Go.ChangeShapes Go.WideShapes Go.ChangeAt

set_option maxRecDepth 100000 in
set_option maxHeartbeats 8000000 in
theorem law47Earliest_c (n : Int) (v : Value) (l : List Cho) (ev : Int) (w : World) (hs : IsChos w v l) : Calls Tryz.prog 5 #[.int .i64 n, v, .int .i64 ev] w (Ret w (.bool true)) := by
  have KS : Hid (∀ X, Below w.heap.size w X → Calls Tryz.prog 9 #[.int .i64 n, v] X (Ret X (.bool (smallB n l)))) := Lib.hid fun X h => small47_c _ v l X (hs.below h)
  have Hsx := Lib.hid hs
  obtain ⟨S, hs⟩ := hs
  obtain ⟨A, c, rfl, _, _⟩ := hs.form
  clear hs
  cases hv : smallB n l
  · rw [hv] at KS
    clear hv
    go_enter Tryz.func5, Tryz.ntmps5
    go_wp2_with fail
    refine (awake47_c _).mono ?_
    rintro e w1 ⟨rfl, hb1⟩
    go_wp2_with fail
    refine (KS.out _ hb1).mono ?_
    rintro e w2 ⟨rfl, hb2⟩
    have HF := Lib.hid (hb1.trans (hb2.mono hb1.size))
    clear hb2
    go_wp2_with fail
    go_ret
    exact ⟨rfl, HF.out⟩
  rw [hv] at KS
  obtain ⟨N, rfl, hN1, hN, hst, hl10, hsz, hnet⟩ := small_ok hv
  have hab : aboveB l 120 = false := above_small hsz
  have outside : (ev < 0 ∨ (N : Int) ≤ ev) → ∀ X, Below w.heap.size w X → Calls Tryz.prog 14 #[.int .i64 (N : Int), .slice A l.length c, .int .i64 ev, .int .i64 120] X (Ret X (.tuple #[.int .i64 0, .int .i64 2])) := fun ho X h => by
    refine (djEarliest_c _ _ _ _ l X (Hsx.out.below h)).mono ?_
    rintro e w' ⟨hb, x, c, rfl, ⟨q1, _⟩ | ⟨_, _, rfl, rfl⟩ | ⟨_, q1, q2, _⟩⟩
    · exact absurd (bud_zero hnet (by omega) (by omega)) q1
    · exact ⟨rfl, hb⟩
    · omega
  cases q0 : decide (ev < 0)
  rotate_left
  · have KE := Lib.hid (outside (.inl (of_decide_eq_true q0)))
    clear outside hv hst hnet hab
    go_enter Tryz.func5, Tryz.ntmps5
    go_wp2_with fail
    refine (awake47_c _).mono ?_
    rintro e w1 ⟨rfl, hb1⟩
    go_wp2_with fail
    refine (KS.out _ hb1).mono ?_
    rintro e w2 ⟨rfl, hb2⟩
    have HF := Lib.hid (hb1.trans (hb2.mono hb1.size))
    clear hb2
    go_wp2_with fail
    refine (KE.out _ HF.out).mono ?_
    rintro e w3 ⟨rfl, hb3⟩
    have HF3 := Lib.hid (HF.out.trans (hb3.mono HF.out.size))
    clear hb3
    go_wp2_with fail
    go_ret
    exact ⟨rfl, HF3.out⟩
  cases q1 : decide ((N : Int) ≤ ev)
  rotate_left
  · have KE := Lib.hid (outside (.inr (of_decide_eq_true q1)))
    clear outside hv hst hnet hab
    go_enter Tryz.func5, Tryz.ntmps5
    go_wp2_with fail
    refine (awake47_c _).mono ?_
    rintro e w1 ⟨rfl, hb1⟩
    go_wp2_with fail
    refine (KS.out _ hb1).mono ?_
    rintro e w2 ⟨rfl, hb2⟩
    have HF := Lib.hid (hb1.trans (hb2.mono hb1.size))
    clear hb2
    go_wp2_with fail
    refine (KE.out _ HF.out).mono ?_
    rintro e w3 ⟨rfl, hb3⟩
    have HF3 := Lib.hid (HF.out.trans (hb3.mono HF.out.size))
    clear hb3
    go_wp2_with fail
    go_ret
    exact ⟨rfl, HF3.out⟩
  obtain ⟨k, rfl⟩ : ∃ k : Nat, ev = (k : Int) := ⟨ev.toNat, by have := of_decide_eq_false q0; omega⟩
  have hk : k < N := by have := of_decide_eq_false q1; omega
  have q2 : decide (N ≤ k) = false := decide_eq_false (by omega)
  have KE : Hid (∀ X, Below w.heap.size w X → Calls Tryz.prog 14 #[.int .i64 (N : Int), .slice A l.length c, .int .i64 (k : Int), .int .i64 120] X (EarSRet l k 120 X)) := Lib.hid fun X h => djEarliest_s N k 120 _ l X (Hsx.out.below h) hnet hk (by omega) (by omega)
  have KR : Hid (∀ X, Below w.heap.size w X → Calls Tryz.prog 16 #[.int .i64 (N : Int), .slice A l.length c, .int .i64 (k : Int)] X (EarR N l k X)) := Lib.hid fun X h => r47Earliest_c N _ l k X (Hsx.out.below h) hN1 (by omega) hst (by omega) hk
  have HX : Hid (∀ x c y d, EarlyS l k 120 x c → EarlyOk N l k (sizeN l l.length) y d → x = y ∧ c = d) := Lib.hid fun x c y d h h' => by
    have h2 := early_s hN1 (by omega) hk h'
    obtain ⟨a1, a2⟩ := earS_two h2 h hab
    rcases a2 with ⟨a, b⟩ | ⟨_, b⟩
    · exact ⟨b.symm, a.symm⟩
    · exact absurd b (by rw [above_small (Nat.le_refl _)]; decide)
  clear outside hv hst hnet hab hN1 hN hl10 hsz hk
  go_enter Tryz.func5, Tryz.ntmps5
  go_wp2_with fail
  refine (awake47_c _).mono ?_
  rintro e w1 ⟨rfl, hb1⟩
  go_wp2_with fail
  refine (KS.out _ hb1).mono ?_
  rintro e w2 ⟨rfl, hb2⟩
  have HF := Lib.hid (hb1.trans (hb2.mono hb1.size))
  clear hb2
  go_wp2_with fail
  refine (KE.out _ HF.out).mono ?_
  rintro e w3 ⟨x, d, rfl, h3, hb3⟩
  have HF3 := Lib.hid (HF.out.trans (hb3.mono HF.out.size))
  have H3 := Lib.hid h3
  clear hb3 h3
  go_wp2_with fail
  refine (KR.out _ HF3.out).mono ?_
  rintro e w4 ⟨y, f, rfl, h4, hb4⟩
  have HF4 := Lib.hid (HF3.out.trans (hb4.mono HF3.out.size))
  obtain ⟨rfl, rfl⟩ := HX.out _ _ _ _ H3.out h4
  have e1 : (x == x) = true := by simp
  have e2 : (d == d) = true := by simp
  clear hb4 h4
  go_wp2_with fail
  go_ret
  exact ⟨rfl, HF4.out⟩

set_option maxRecDepth 100000 in
theorem law47Earliest_lifted (os : Os) (started : os.Started) (H : Type) (enc : TypeId × Value → H) :
    ReturnsInHanded {} Tryz.checked os 5 .any (Rows.disjunctiveEarliestSpec.pre6 enc Tryz.prog Tryz.f5 Rows.disjunctiveEarliestRow.domain false) (Rows.disjunctiveEarliestSpec.post enc Tryz.prog Tryz.f5 false true false false) := by
  refine returnsInHanded_of_change (C := Tryz.checked) Tryz.own started (by kernel_rfl) Tryz.func5
    (ChangeSpec.witness6 (enc := enc) (C := Tryz.checked) false ⟨#[], #[.int .i64 0, .slice none 0 0, .int .i64 0], []⟩ 8 (by kernel_rfl) (by kernel_rfl) (by kernel_rfl) (by kernel_rfl)) ?_
  intro W base args ds gs before hval0 hW hcnd _
  have hval : ∀ (j : Nat) t v, Tryz.f5.params[j]? = some t → args[j]? = some v → Value.okWide Tryz.prog W .any base t v := hval0
  have hW' := hW
  obtain ⟨p, q, hA0, hV, rfl, hfz, hnd⟩ := hW
  have hA : DataW.TrodAll enc Tryz.prog W 0 (fun _ => true) true Tryz.f5.params.toList args.toList ds p := hA0
  have hA1 := hA0
  rw [Tryz.params5] at hA hval
  obtain ⟨v0, v1, v2, d0, d1, d2, p0, p1, p2, rfl, rfl, hp, h0, h1, h2⟩ := trodAll_three hA
  obtain ⟨rfl, rfl⟩ := trodVars_none hV
  obtain ⟨n, rfl, rfl, rfl, g0⟩ := open_int Tryz.underlying3 (hval 0 3 v0 rfl rfl) h0
  obtain ⟨l, g1⟩ := open_chos (hval 1 22 v1 rfl rfl) h1
  obtain ⟨k, rfl, rfl, rfl, g2⟩ := open_int Tryz.underlying3 (hval 2 3 v2 rfl rfl) h2
  clear hA0 hval0
  have hlt : ∀ x ∈ p, x.block < W.heap.size := fun x hx => hW'.lt x (by simp [hx])
  refine (law47Earliest_c n v1 l k W g1).mono fun e W' ⟨he, hg⟩ => ?_
  subst he
  exact ⟨_, rfl, post_of_below (pa := p) (pv := []) hW' (fun _ _ _ => trodAll_mk1 (shut_bool Tryz.underlying4 _))
    (fun sp hsp => trodAll_keep Tryz.laidOut hg (by kernel_rfl) hA1 hlt (fun x hx => hsp x (by simp [hx])))
    (fun _ _ => rfl) rfl hg (ok_one (by kernel_rfl) rfl (okWide_bool_mk Tryz.underlying4 _))⟩

theorem law47Earliest_holds : Rows.DisjunctiveEarliestSaid :=
  OpenClaim.holds_of_wide 5 Tryz.f5 rfl rfl rfl rfl rfl rfl rfl ⟨rfl, rfl, rfl, rfl, rfl⟩ rfl rfl rfl rfl rfl (by kernel_rfl) Tryz.func5 (by kernel_rfl)
    (of_decide_eq_true (by kernel_rfl)) (by unfold Func.isWrapper; first | (rw [if_pos (by decide +kernel)]; kernel_rfl) | (rw [if_neg (by decide +kernel)]; exact ⟨rfl, rfl⟩))
    (fun os started H enc _ => law47Earliest_lifted os started H enc)
#print axioms law47Earliest_holds
end Go.Proofs.YtcppcfinnbeboaaGreat
