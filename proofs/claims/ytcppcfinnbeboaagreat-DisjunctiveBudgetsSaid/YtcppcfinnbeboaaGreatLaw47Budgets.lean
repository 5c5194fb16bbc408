/- DisjunctiveBudgets: a search with a small budget gives up, or has the answer that it has with a great one. No condition. -/
import Derived.Test.YtcppcfinnbeboaaGreatDtz
import Derived.Test.YtcppcfinnbeboaaGreatDjK
import Derived.Test.YtcppcfinnbeboaaGreatDjO
namespace Go.Proofs.YtcppcfinnbeboaaGreat
open Go.RowKit Go.Shelf Go.ChangeShapes Go.WideShapes Go.ChangeAt

theorem wfu47 {n : Int} (h : (Lit.int .u8 n).wf = true) : 0 ≤ n ∧ n ≤ 255 := by
  simp [Lit.wf, IntKind.min, IntKind.max, IntKind.signed, IntKind.bits] at h
  omega
set_option maxRecDepth 100000 in
set_option maxHeartbeats 8000000 in
theorem law47Budgets_c (n : Int) (v : Value) (l : List Cho) (b0 ev : Int) (w : World) (hs : IsChos w v l) (h0 : 0 ≤ b0 ∧ b0 ≤ 255) (h1 : 0 ≤ ev ∧ ev ≤ 255) : Calls Tryz.prog 4 #[.int .i64 n, v, .int .u8 b0, .int .u8 ev] w (Ret w (.bool true)) := by
  have KS : Hid (∀ X, Below w.heap.size w X → Calls Tryz.prog 9 #[.int .i64 n, v] X (Ret X (.bool (smallB n l)))) := Lib.hid fun X h => small47_c _ v l X (hs.below h)
  have Hsx := Lib.hid hs
  obtain ⟨S, hs⟩ := hs
  obtain ⟨A, c, rfl, _, _⟩ := hs.form
  clear hs
  have Hev := Lib.hid h1; have Hb0 := Lib.hid h0
  clear h0 h1
  cases hv : smallB n l
  · rw [hv] at KS
    clear hv
    go_enter Tryz.func4, Tryz.ntmps4
    go_wp2_with fail
    refine (awake47_c _).mono ?_
    rintro e w1 ⟨rfl, hb1⟩
    go_wp2_with fail
    refine (KS.out _ hb1).mono ?_
    rintro e w2 ⟨rfl, hb2⟩
    have HF := Lib.hid (hb1.trans (hb2.mono hb1.size))
    clear hb2
    go_wp2_with fail
    go_ret
    exact ⟨rfl, HF.out⟩
  rw [hv] at KS
  obtain ⟨N, rfl, hN1, hN, hst, hl10, hsz, hnet⟩ := small_ok hv
  obtain ⟨a, ha⟩ : ∃ a : Nat, ev = (a : Int) := ⟨ev.toNat, by have := Hev.out; omega⟩
  obtain ⟨kk, hkk⟩ : ∃ kk, kk = a % N := ⟨_, rfl⟩
  have hkN : kk < N := by rw [hkk]; exact Nat.mod_lt _ hN1
  have g0 : IntKind.i64.wrap ev = ev := by have := Hev.out; rw [IntKind.wrap_i64]; omega
  have g1 : ev.tmod (N : Int) = (kk : Int) := by rw [ha, hkk]; rfl
  have g2 : ¬ (N : Int) = 0 := by omega
  have g3 : ¬ N = 0 := by omega
  obtain ⟨b, hbb⟩ : ∃ b : Nat, (1 : Int) + b0 = (b : Int) := ⟨(1 + b0).toNat, by have := Hb0.out; omega⟩
  have hb1 : 1 ≤ b ∧ b ≤ 256 := by have := Hb0.out; omega
  have g4 : IntKind.i64.wrap b0 = b0 := by have := Hb0.out; rw [IntKind.wrap_i64]; omega
  have g5 : IntKind.i64.wrap (1 + b0) = (b : Int) := by have := Hb0.out; rw [IntKind.wrap_i64]; omega
  have K1 : Hid (∀ X, Below w.heap.size w X → Calls Tryz.prog 13 #[.int .i64 (N : Int), .slice A l.length c, .int .i64 (b : Int)] X (SolCRet l b X)) := Lib.hid fun X h => djSolve_s N b _ l X (Hsx.out.below h) hnet (by omega) (by omega)
  have K2 : Hid (∀ X, Below w.heap.size w X → Calls Tryz.prog 13 #[.int .i64 (N : Int), .slice A l.length c, .int .i64 100000] X (SolCRet l 100000 X)) := Lib.hid fun X h => djSolve_s N 100000 _ l X (Hsx.out.below h) hnet (by omega) (by omega)
  have K3 : Hid (∀ X, Below w.heap.size w X → Calls Tryz.prog 14 #[.int .i64 (N : Int), .slice A l.length c, .int .i64 (kk : Int), .int .i64 (b : Int)] X (EarSRet l kk b X)) := Lib.hid fun X h => djEarliest_s N kk b _ l X (Hsx.out.below h) hnet hkN (by omega) (by omega)
  have K4 : Hid (∀ X, Below w.heap.size w X → Calls Tryz.prog 14 #[.int .i64 (N : Int), .slice A l.length c, .int .i64 (kk : Int), .int .i64 100000] X (EarSRet l kk 100000 X)) := Lib.hid fun X h => djEarliest_s N kk 100000 _ l X (Hsx.out.below h) hnet hkN (by omega) (by omega)
  have K5 : Hid (∀ X, Below w.heap.size w X → Calls Tryz.prog 10 #[.int .i64 (N : Int), .slice A l.length c, .int .i64 (b : Int)] X (MinCRet l b X)) := Lib.hid fun X h => djMinimal_s N b _ l X (Hsx.out.below h) hnet (by omega) (by omega)
  have K6 : Hid (∀ X, Below w.heap.size w X → Calls Tryz.prog 10 #[.int .i64 (N : Int), .slice A l.length c, .int .i64 100000] X (MinCRet l 100000 X)) := Lib.hid fun X h => djMinimal_s N 100000 _ l X (Hsx.out.below h) hnet (by omega) (by omega)
  have KZ : Hid (∀ X, Below w.heap.size w X → Calls Tryz.prog 15 #[.slice A l.length c, .int .i64 (b : Int)] X (Ret X (.int .i64 ((sizeR l b : Nat) : Int)))) := Lib.hid fun X h => r47Size_c _ l b X (Hsx.out.below h) (by omega) (st_size hst) (by omega) (by omega)
  have Hgt := Lib.hid (sizeR_gt l b)
  have Hab : Hid (aboveB l 100000 = false) := Lib.hid (above_small (by omega))
  clear hv hst hnet hN1 hN hl10 hsz ha hkk hkN hbb hb1
  go_enter Tryz.func4, Tryz.ntmps4
  go_wp2_with fail
  refine (awake47_c _).mono ?_
  rintro e w1 ⟨rfl, hb1⟩
  go_wp2_with fail
  refine (KS.out _ hb1).mono ?_
  rintro e w2 ⟨rfl, hb2⟩
  have HF := Lib.hid (hb1.trans (hb2.mono hb1.size))
  clear hb2 hb1
  go_wp2_with fail
  clear g0 g1 g2 g3 g4 g5
  refine (K1.out _ HF.out).mono ?_
  rintro e w3 ⟨_, _, _, e1, rfl, h1, hb3⟩
  have HF3 := Lib.hid (HF.out.trans (hb3.mono HF.out.size))
  have H1 := Lib.hid h1
  clear hb3 h1
  go_wp2_with fail
  refine (K2.out _ HF3.out).mono ?_
  rintro e w4 ⟨_, _, _, e2, rfl, h2, hb4⟩
  have HF4 := Lib.hid (HF3.out.trans (hb4.mono HF3.out.size))
  obtain ⟨f2, d2⟩ := solC_two H1.out h2 Hab.out
  have F2 := Lib.hid f2; have D2 := Lib.hid d2
  clear hb4 h2 f2 d2
  go_wp2_with fail
  refine (K3.out _ HF4.out).mono ?_
  rintro e w5 ⟨x3, e3, rfl, h3, hb5⟩
  have HF5 := Lib.hid (HF4.out.trans (hb5.mono HF4.out.size))
  have H3 := Lib.hid h3
  clear hb5 h3
  go_wp2_with fail
  refine (K4.out _ HF5.out).mono ?_
  rintro e w6 ⟨x4, e4, rfl, h4, hb6⟩
  have HF6 := Lib.hid (HF5.out.trans (hb6.mono HF5.out.size))
  obtain ⟨f4, d4⟩ := earS_two H3.out h4 Hab.out
  have F4 := Lib.hid f4; have D4 := Lib.hid d4
  clear hb6 h4 f4 d4
  go_wp2_with fail
  refine (K5.out _ HF6.out).mono ?_
  rintro e w7 ⟨_, _, _, e5, rfl, h5, hb7⟩
  have HF7 := Lib.hid (HF6.out.trans (hb7.mono HF6.out.size))
  have H5 := Lib.hid h5
  clear hb7 h5
  go_wp2_with fail
  refine (K6.out _ HF7.out).mono ?_
  rintro e w8 ⟨_, _, _, e6, rfl, h6, hb8⟩
  have HF8 := Lib.hid (HF7.out.trans (hb8.mono HF7.out.size))
  obtain ⟨f6, d6⟩ := minC_two H5.out h6 Hab.out
  have F6 := Lib.hid f6; have D6 := Lib.hid d6
  clear hb8 h6 f6 d6
  go_wp2_with fail
  refine (KZ.out _ HF8.out).mono ?_
  rintro e w9 ⟨rfl, hb9⟩
  have HF9 := Lib.hid (HF8.out.trans (hb9.mono HF8.out.size))
  have hgt := Hgt.out
  clear hb9
  generalize sizeR l b = z at hgt ⊢
  have hgt2 : decide (b < z) = aboveB l b := by rw [← hgt]; exact decide_eq_decide.2 (by omega)
  have t2 : (e2 == 18) = false := by rw [beq_eq_false_iff_ne]; exact F2.out
  have t4 : (e4 == 18) = false := by rw [beq_eq_false_iff_ne]; exact F4.out
  have t6 : (e6 == 18) = false := by rw [beq_eq_false_iff_ne]; exact F6.out
  have s2 : (e1 = e2 ∧ (e1 == e2) = true) ∨ ((e1 == e2) = false ∧ (e1 == 18) = true ∧ aboveB l b = true) := by
    rcases D2.out with e | ⟨e, h⟩
    · exact .inl ⟨e, by rw [e]; simp⟩
    · exact .inr ⟨by rw [beq_eq_false_iff_ne, e]; exact fun h => F2.out h.symm, by rw [e]; simp, h⟩
  have s4 : ((e3 == e4) = true ∧ (x3 == x4) = true) ∨ ((e3 == e4) = false ∧ (e3 == 18) = true ∧ aboveB l b = true) := by
    rcases D4.out with ⟨e, e'⟩ | ⟨e, h⟩
    · exact .inl ⟨by rw [e]; simp, by rw [e']; simp⟩
    · exact .inr ⟨by rw [beq_eq_false_iff_ne, e]; exact fun h => F4.out h.symm, by rw [e]; simp, h⟩
  have s6 : ((e5 == e6) = true) ∨ ((e5 == e6) = false ∧ (e5 == 18) = true ∧ aboveB l b = true) := by
    rcases D6.out with e | ⟨e, h⟩
    · exact .inl (by rw [e]; simp)
    · exact .inr ⟨by rw [beq_eq_false_iff_ne, e]; exact fun h => F6.out h.symm, by rw [e]; simp, h⟩
  clear F2 F4 F6 D2 D4 D6 H1 H3 H5 K1 K2 K3 K4 K5 K6 KZ KS Hgt
  generalize aboveB l b = ab at hgt hgt2 s2 s4 s6
  have HR : Hid (∀ {b : Bool}, b = true → Ret w (.bool true) (.returned (.bool b)) w9) := Lib.hid fun h => ⟨by rw [h], HF9.out⟩
  rcases s2 with ⟨_, a2⟩ | ⟨a2, b2, c2⟩ <;> rcases s4 with ⟨a4, b4⟩ | ⟨a4, b4, c4⟩ <;> rcases s6 with a6 | ⟨a6, b6, c6⟩
  all_goals
    first
    | subst c2
    | subst c4
    | subst c6
    | skip
    go_wp2_with fail
    go_ret
    exact HR.out rfl

set_option maxRecDepth 100000 in
theorem law47Budgets_lifted (os : Os) (started : os.Started) (H : Type) (enc : TypeId × Value → H) :
    ReturnsInHanded {} Tryz.checked os 4 .any (Rows.disjunctiveBudgetsSpec.pre6 enc Tryz.prog Tryz.f4 Rows.disjunctiveBudgetsRow.domain false) (Rows.disjunctiveBudgetsSpec.post enc Tryz.prog Tryz.f4 false true false false) := by
  refine returnsInHanded_of_change (C := Tryz.checked) Tryz.own started (by kernel_rfl) Tryz.func4
    (ChangeSpec.witness6 (enc := enc) (C := Tryz.checked) false ⟨#[], #[.int .i64 0, .slice none 0 0, .int .u8 0, .int .u8 0], []⟩ 8 (by kernel_rfl) (by kernel_rfl) (by kernel_rfl) (by kernel_rfl)) ?_
  intro W base args ds gs before hval0 hW hcnd _
  have hval : ∀ (j : Nat) t v, Tryz.f4.params[j]? = some t → args[j]? = some v → Value.okWide Tryz.prog W .any base t v := hval0
  have hW' := hW
  obtain ⟨p, q, hA0, hV, rfl, hfz, hnd⟩ := hW
  have hA : DataW.TrodAll enc Tryz.prog W 0 (fun _ => true) true Tryz.f4.params.toList args.toList ds p := hA0
  have hA1 := hA0
  rw [Tryz.params4] at hA hval
  obtain ⟨v0, v1, v2, v3, d0, d1, d2, d3, p0, p1, p2, p3, rfl, rfl, hp, h0, h1, h2, h3⟩ := trodAll_four hA
  obtain ⟨rfl, rfl⟩ := trodVars_none hV
  obtain ⟨n, rfl, rfl, rfl, g0⟩ := open_int Tryz.underlying3 (hval 0 3 v0 rfl rfl) h0
  obtain ⟨l, g1⟩ := open_chos (hval 1 22 v1 rfl rfl) h1
  obtain ⟨b, rfl, rfl, rfl, g2⟩ := open_int Tryz.underlying5 (hval 2 5 v2 rfl rfl) h2
  obtain ⟨k, rfl, rfl, rfl, g3⟩ := open_int Tryz.underlying5 (hval 3 5 v3 rfl rfl) h3
  clear hA0 hval0
  have hlt : ∀ x ∈ p, x.block < W.heap.size := fun x hx => hW'.lt x (by simp [hx])
  refine (law47Budgets_c n v1 l b k W g1 (wfu47 g2) (wfu47 g3)).mono fun e W' ⟨he, hg⟩ => ?_
  subst he
  exact ⟨_, rfl, post_of_below (pa := p) (pv := []) hW' (fun _ _ _ => trodAll_mk1 (shut_bool Tryz.underlying4 _))
    (fun sp hsp => trodAll_keep Tryz.laidOut hg (by kernel_rfl) hA1 hlt (fun x hx => hsp x (by simp [hx])))
    (fun _ _ => rfl) rfl hg (ok_one (by kernel_rfl) rfl (okWide_bool_mk Tryz.underlying4 _))⟩

theorem law47Budgets_holds : Rows.DisjunctiveBudgetsSaid :=
  OpenClaim.holds_of_wide 4 Tryz.f4 rfl rfl rfl rfl rfl rfl rfl ⟨rfl, rfl, rfl, rfl, rfl⟩ rfl rfl rfl rfl rfl (by kernel_rfl) Tryz.func4 (by kernel_rfl)
    (of_decide_eq_true (by kernel_rfl)) (by unfold Func.isWrapper; first | (rw [if_pos (by decide +kernel)]; kernel_rfl) | (rw [if_neg (by decide +kernel)]; exact ⟨rfl, rfl⟩))
    (fun os started H enc _ => law47Budgets_lifted os started H enc)
#print axioms law47Budgets_holds
end Go.Proofs.YtcppcfinnbeboaaGreat
