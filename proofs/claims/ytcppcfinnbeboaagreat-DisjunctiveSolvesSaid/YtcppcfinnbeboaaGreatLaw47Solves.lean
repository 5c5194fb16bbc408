/- DisjunctiveSolves: Solve finds a schedule that holds exactly if the network is consistent; which networks and budgets are refused. No condition. -/
import Derived.Test.YtcppcfinnbeboaaGreatDtz
import Derived.Test.YtcppcfinnbeboaaGreatDtD
import Derived.Test.YtcppcfinnbeboaaGreatDjK
import Derived.Test.YtcppcfinnbeboaaGreatDjO
import Derived.Test.YtcppcfinnbeboaaGreatDkH
import Derived.Test.YtcppcfinnbeboaaGreatDkK
namespace Go.Proofs.YtcppcfinnbeboaaGreat
open Go.RowKit Go.Shelf Go.ChangeShapes Go.WideShapes Go.ChangeAt

theorem bud_net {n : Int} {l : List Cho} {b : Int} (h : netB n l = false) : budE n l b = 1 := by
  unfold budE
  rw [h]
  rfl
theorem bud_two {n : Int} {l : List Cho} {b : Int} (h : netB n l = true) (hb : b < 1 ∨ 100000 < b) : budE n l b = 2 := by
  unfold budE
  rw [h]
  have e : (decide (b < 1) || decide (100000 < b)) = true := by
    rcases hb with h | h
    · rw [decide_eq_true h]; rfl
    · rw [decide_eq_true h]; simp
  rw [if_pos rfl, if_pos e]
theorem sol_holds {N : Nat} {l : List Cho} {P : Mat} (h1 : 1 ≤ N) (hN : N ≤ 24) (hst : StOk N l) (h : SolOk N l P) : holdsB l (schL P N) = true ∧ (schL P N).any fatB = false := by
  obtain ⟨a, b, c, d⟩ := sch_ok h1 hN hst h
  have e := stOk_net hst h1 hN
  refine ⟨?_, ?_⟩
  · rw [holds_net (by rw [schL_len]; exact e), schL_len, decide_eq_true h1, c, b]
    have f : (schL P N).any farB = false := by
      rw [List.any_eq_false]
      intro x hx
      have := d x hx
      unfold farB
      rw [decide_eq_false (by omega), decide_eq_false (by omega)]
      decide
    rw [f]
    rfl
  · rw [List.any_eq_false]
    intro x hx
    have := d x hx
    unfold fatB
    rw [decide_eq_false (by omega), decide_eq_false (by omega)]
    decide
set_option maxRecDepth 100000 in
set_option maxHeartbeats 8000000 in
theorem law47Solves_c (n : Int) (v : Value) (l : List Cho) (b : Int) (w : World) (hs : IsChos w v l) : Calls Tryz.prog 6 #[.int .i64 n, v, .int .i64 b] w (Ret w (.bool true)) := by
  have KF : Hid (∀ X, Below w.heap.size w X → Calls Tryz.prog 17 #[v] X (Ret X (.bool (fewB l)))) := Lib.hid fun X h => few47_c v l X (hs.below h)
  have KV : Hid (∀ X, Below w.heap.size w X → Calls Tryz.prog 18 #[.int .i64 n, v] X (Ret X (.bool (netB n l)))) := Lib.hid fun X h => djValid_c n v l X (hs.below h)
  have KR : Hid (∀ X, Below w.heap.size w X → Calls Tryz.prog 19 #[.int .i64 n, v] X (Ret X (.bool (netB n l)))) := Lib.hid fun X h => r47Valid_c n v l X (hs.below h)
  have KS : Hid (∀ X, Below w.heap.size w X → Calls Tryz.prog 13 #[.int .i64 n, v, .int .i64 b] X (SolvRet n l b X)) := Lib.hid fun X h => djSolve_c n b v l X (hs.below h)
  have KM : Hid (∀ X, Below w.heap.size w X → Calls Tryz.prog 9 #[.int .i64 n, v] X (Ret X (.bool (smallB n l)))) := Lib.hid fun X h => small47_c n v l X (hs.below h)
  have Hsx := Lib.hid hs
  obtain ⟨S, hs⟩ := hs
  obtain ⟨A, c, rfl, _, _⟩ := hs.form
  clear hs
  cases hf : fewB l
  · rw [hf] at KF
    clear hf
    go_enter Tryz.func6, Tryz.ntmps6
    go_wp2_with fail
    refine (awake47_c _).mono ?_
    rintro e w1 ⟨rfl, hb1⟩
    go_wp2_with fail
    refine (KF.out _ hb1).mono ?_
    rintro e w2 ⟨rfl, hb2⟩
    have HF := Lib.hid (hb1.trans (hb2.mono hb1.size))
    clear hb2
    go_wp2_with fail
    go_ret
    exact ⟨rfl, HF.out⟩
  rw [hf] at KF
  clear hf
  cases hv : netB n l
  · rw [hv] at KV KR
    have HB := Lib.hid (bud_net (b := b) hv)
    clear hv
    go_enter Tryz.func6, Tryz.ntmps6
    go_wp2_with fail
    refine (awake47_c _).mono ?_
    rintro e w1 ⟨rfl, hb1⟩
    go_wp2_with fail
    refine (KF.out _ hb1).mono ?_
    rintro e w2 ⟨rfl, hb2⟩
    have HF := Lib.hid (hb1.trans (hb2.mono hb1.size))
    clear hb2 hb1
    go_wp2_with fail
    refine (KS.out _ HF.out).mono ?_
    rintro e w3 ⟨hb3, ⟨_, rfl⟩ | ⟨q, _⟩⟩
    rotate_left
    · rw [HB.out] at q
      exact absurd q (by decide)
    rw [HB.out]
    have HF3 := Lib.hid (HF.out.trans (hb3.mono HF.out.size))
    clear hb3
    go_wp2_with fail
    refine (KV.out _ HF3.out).mono ?_
    rintro e w4 ⟨rfl, hb4⟩
    have HF4 := Lib.hid (HF3.out.trans (hb4.mono HF3.out.size))
    clear hb4
    go_wp2_with fail
    refine (KR.out _ HF4.out).mono ?_
    rintro e w5 ⟨rfl, hb5⟩
    have HF5 := Lib.hid (HF4.out.trans (hb5.mono HF4.out.size))
    clear hb5
    go_wp2_with fail
    refine (KR.out _ HF5.out).mono ?_
    rintro e w6 ⟨rfl, hb6⟩
    have HF6 := Lib.hid (HF5.out.trans (hb6.mono HF5.out.size))
    clear hb6
    go_wp2_with fail
    go_ret
    exact ⟨rfl, HF6.out⟩
  rw [hv] at KV KR
  by_cases hb : b < 1 ∨ 100000 < b
  · have HB := Lib.hid (bud_two hv hb)
    have hq : (decide (b < 1) = true) ∨ (decide (b < 1) = false ∧ decide (100000 < b) = true) := by
      by_cases q : b < 1
      · exact .inl (decide_eq_true q)
      · exact .inr ⟨decide_eq_false q, decide_eq_true (by omega)⟩
    have Hq := Lib.hid hq
    clear hv hb hq
    go_enter Tryz.func6, Tryz.ntmps6
    go_wp2_with fail
    refine (awake47_c _).mono ?_
    rintro e w1 ⟨rfl, hb1⟩
    go_wp2_with fail
    refine (KF.out _ hb1).mono ?_
    rintro e w2 ⟨rfl, hb2⟩
    have HF := Lib.hid (hb1.trans (hb2.mono hb1.size))
    clear hb2 hb1
    go_wp2_with fail
    refine (KS.out _ HF.out).mono ?_
    rintro e w3 ⟨hb3, ⟨_, rfl⟩ | ⟨q, _⟩⟩
    rotate_left
    · rw [HB.out] at q
      exact absurd q (by decide)
    rw [HB.out]
    have HF3 := Lib.hid (HF.out.trans (hb3.mono HF.out.size))
    clear hb3
    go_wp2_with fail
    refine (KV.out _ HF3.out).mono ?_
    rintro e w4 ⟨rfl, hb4⟩
    have HF4 := Lib.hid (HF3.out.trans (hb4.mono HF3.out.size))
    clear hb4
    go_wp2_with fail
    refine (KR.out _ HF4.out).mono ?_
    rintro e w5 ⟨rfl, hb5⟩
    have HF5 := Lib.hid (HF4.out.trans (hb5.mono HF4.out.size))
    clear hb5
    go_wp2_with fail
    refine (KR.out _ HF5.out).mono ?_
    rintro e w6 ⟨rfl, hb6⟩
    have HF6 := Lib.hid (HF5.out.trans (hb6.mono HF5.out.size))
    clear hb6
    rcases Hq.out with q | ⟨q, q2⟩
    all_goals
      clear Hq
      go_wp2_with fail
      go_ret
      exact ⟨rfl, HF6.out⟩
  obtain ⟨B, rfl⟩ : ∃ B : Nat, b = (B : Int) := ⟨b.toNat, by omega⟩
  obtain ⟨N, rfl, hN1, hN, hst⟩ := net_ok hv
  have q1 : decide ((B : Int) < 1) = false := decide_eq_false (by omega)
  have q2 : decide ((100000 : Int) < (B : Int)) = false := decide_eq_false (by omega)
  have q3 : decide (B < 1) = false := decide_eq_false (by omega)
  have q33 : ¬ B = 0 := by omega
  have q4 : decide (100000 < B) = false := decide_eq_false (by omega)
  have KZ : Hid (∀ X, Below w.heap.size w X → Calls Tryz.prog 15 #[.slice A l.length c, .int .i64 (B : Int)] X (Ret X (.int .i64 ((sizeR l B : Nat) : Int)))) := Lib.hid fun X h => r47Size_c _ l B X (Hsx.out.below h) (by have := hst.1; omega) (st_size hst) (by omega) (by omega)
  have HB := Lib.hid (bud_zero hv (show 1 ≤ (B : Int) by omega) (by omega))
  have KC : Hid (smallB (N : Int) l = true → ∀ X, Below w.heap.size w X → Calls Tryz.prog 11 #[.int .i64 (N : Int), .slice A l.length c] X (ConR l X)) := Lib.hid fun h X hX => by
    obtain ⟨N', hN', a1, a2, a3, a4, a5, _⟩ := small_ok h
    obtain rfl : N' = N := by omega
    exact r47Consistent_c N' _ l X (Hsx.out.below hX) a1 (by omega) a3 (by omega)
  have KH : Hid (∀ X P g cg, Below w.heap.size w X → RowAt X g N (schF P N) → N ≤ cg → cg ≤ 9223372036854775807 → SolOk N l P → Calls Tryz.prog 20 #[.slice A l.length c, .slice (some ⟨g, 0, none⟩) N cg] X (Ret X (.bool true)) ∧ ∀ Y, Below X.heap.size X Y → Calls Tryz.prog 21 #[.slice (some ⟨g, 0, none⟩) N cg, .func (.func 22) #[] #[]] Y (Ret Y (.bool false))) := Lib.hid fun X P g cg hX hr h1 h2 hsol => by
    have hi : IsInts X (.slice (some ⟨g, 0, none⟩) N cg) (schL P N) := cells_ints hr.lt (schL_len P N) h1 h2 (fun j hj => by rw [schL_iv P N hj]; exact hr.cell j hj)
    obtain ⟨e1, e2⟩ := sol_holds hN1 hN hst hsol
    have k1 := r47Holds_c _ _ l _ X (Hsx.out.below hX) hi
    rw [e1] at k1
    refine ⟨k1, fun Y hY => ?_⟩
    have k2 := slContainsFat_c _ _ Y (hi.below hY)
    rw [e2] at k2
    exact k2
  have hgt := sizeR_gt l B
  generalize sizeR l B = z at KZ hgt
  have hgt2 : decide (B < z) = aboveB l B := by rw [← hgt]; exact decide_eq_decide.2 (by omega)
  have Hgt := Lib.hid (And.intro hgt hgt2)
  have Hm : Hid (∀ b : Bool, smallB (N : Int) l = b → smallB (N : Int) l = b) := Lib.hid fun _ h => h
  clear hv hb hst hN1 hN hgt hgt2
  go_enter Tryz.func6, Tryz.ntmps6
  go_wp2_with fail
  refine (awake47_c _).mono ?_
  rintro e w1 ⟨rfl, hb1⟩
  go_wp2_with fail
  refine (KF.out _ hb1).mono ?_
  rintro e w2 ⟨rfl, hb2⟩
  have HF := Lib.hid (hb1.trans (hb2.mono hb1.size))
  clear hb2 hb1
  go_wp2_with fail
  refine (KS.out _ HF.out).mono ?_
  rintro e w3 ⟨hb3, ⟨q, _⟩ | ⟨_, w0, _, q⟩⟩
  · exact absurd HB.out q
  rw [Int.toNat_natCast, Int.toNat_natCast] at q
  have HF3 := Lib.hid (HF.out.trans (hb3.mono HF.out.size))
  clear hb3
  obtain ⟨_, ⟨rfl, q⟩ | ⟨rfl, q⟩ | ⟨P, g, cg, rfl, q, hr, _, hc1, hc2⟩⟩ := q
  · have Q := Lib.hid q
    clear q
    go_wp2_with fail
    refine (KV.out _ HF3.out).mono ?_
    rintro e w4 ⟨rfl, hb4⟩
    have HF4 := Lib.hid (HF3.out.trans (hb4.mono HF3.out.size))
    clear hb4
    go_wp2_with fail
    refine (KR.out _ HF4.out).mono ?_
    rintro e w5 ⟨rfl, hb5⟩
    have HF5 := Lib.hid (HF4.out.trans (hb5.mono HF4.out.size))
    clear hb5
    go_wp2_with fail
    refine (KR.out _ HF5.out).mono ?_
    rintro e w6 ⟨rfl, hb6⟩
    have HF6 := Lib.hid (HF5.out.trans (hb6.mono HF5.out.size))
    clear hb6
    go_wp2_with fail
    refine (KM.out _ HF6.out).mono ?_
    rintro e w7 ⟨rfl, hb7⟩
    have HF7 := Lib.hid (HF6.out.trans (hb7.mono HF6.out.size))
    clear hb7
    obtain ⟨hg1, hg2⟩ := Hgt.out
    rw [Q.out] at hg1 hg2
    cases hm : smallB (N : Int) l
    · clear hm
      go_wp2_with fail
      refine (KZ.out _ HF7.out).mono ?_
      rintro e w8 ⟨rfl, hb8⟩
      have HF8 := Lib.hid (HF7.out.trans (hb8.mono HF7.out.size))
      clear hb8
      go_wp2_with fail
      go_ret
      exact ⟨rfl, HF8.out⟩
    · have KC2 := Lib.hid (KC.out hm)
      clear hm
      go_wp2_with fail
      refine (KC2.out _ HF7.out).mono ?_
      rintro e w8 ⟨cb, rfl, -, hb8⟩
      have HF8 := Lib.hid (HF7.out.trans (hb8.mono HF7.out.size))
      clear hb8
      cases cb
      all_goals
        go_wp2_with fail
        refine (KZ.out _ HF8.out).mono ?_
        rintro e w9 ⟨rfl, hb9⟩
        have HF9 := Lib.hid (HF8.out.trans (hb9.mono HF8.out.size))
        clear hb9
        go_wp2_with fail
        go_ret
        exact ⟨rfl, HF9.out⟩
  · have Q := Lib.hid q
    clear q
    go_wp2_with fail
    refine (KV.out _ HF3.out).mono ?_
    rintro e w4 ⟨rfl, hb4⟩
    have HF4 := Lib.hid (HF3.out.trans (hb4.mono HF3.out.size))
    clear hb4
    go_wp2_with fail
    refine (KR.out _ HF4.out).mono ?_
    rintro e w5 ⟨rfl, hb5⟩
    have HF5 := Lib.hid (HF4.out.trans (hb5.mono HF4.out.size))
    clear hb5
    go_wp2_with fail
    refine (KR.out _ HF5.out).mono ?_
    rintro e w6 ⟨rfl, hb6⟩
    have HF6 := Lib.hid (HF5.out.trans (hb6.mono HF5.out.size))
    clear hb6
    go_wp2_with fail
    refine (KM.out _ HF6.out).mono ?_
    rintro e w7 ⟨rfl, hb7⟩
    have HF7 := Lib.hid (HF6.out.trans (hb7.mono HF6.out.size))
    clear hb7
    cases hm : smallB (N : Int) l
    · clear hm
      go_wp2_with fail
      go_ret
      exact ⟨rfl, HF7.out⟩
    · have KC2 := Lib.hid (KC.out hm)
      clear hm
      go_wp2_with fail
      refine (KC2.out _ HF7.out).mono ?_
      rintro e w8 ⟨cb, rfl, hcb, hb8⟩
      have HF8 := Lib.hid (HF7.out.trans (hb8.mono HF7.out.size))
      clear hb8
      cases cb
      · clear hcb
        go_wp2_with fail
        go_ret
        exact ⟨rfl, HF8.out⟩
      · obtain ⟨x, hx⟩ := hcb.1 rfl
        exact absurd hx (Q.out x)
  · obtain ⟨k1, k2⟩ := KH.out w3 P g cg HF3.out hr hc1 hc2 q
    have Kh : Hid (∀ X, Below w3.heap.size w3 X → Calls Tryz.prog 20 #[.slice A l.length c, .slice (some ⟨g, 0, none⟩) N cg] X (Ret X (.bool true))) := Lib.hid fun X hX => (KH.out X P g cg (HF3.out.trans (hX.mono HF3.out.size)) (hr.below hX) hc1 hc2 q).1
    have Kc := Lib.hid k2
    clear k1 k2 q hr hc1 hc2 KH
    go_wp2_with fail
    refine (KV.out _ HF3.out).mono ?_
    rintro e w4 ⟨rfl, hb4⟩
    have HF4 := Lib.hid (HF3.out.trans (hb4.mono HF3.out.size))
    have HG4 := Lib.hid hb4
    clear hb4
    go_wp2_with fail
    refine (KR.out _ HF4.out).mono ?_
    rintro e w5 ⟨rfl, hb5⟩
    have HF5 := Lib.hid (HF4.out.trans (hb5.mono HF4.out.size))
    have HG5 := Lib.hid (HG4.out.trans (hb5.mono HG4.out.size))
    clear hb5
    go_wp2_with fail
    refine (KR.out _ HF5.out).mono ?_
    rintro e w6 ⟨rfl, hb6⟩
    have HF6 := Lib.hid (HF5.out.trans (hb6.mono HF5.out.size))
    have HG6 := Lib.hid (HG5.out.trans (hb6.mono HG5.out.size))
    clear hb6
    go_wp2_with fail
    refine (Kh.out _ HG6.out).mono ?_
    rintro e w7 ⟨rfl, hb7⟩
    have HF7 := Lib.hid (HF6.out.trans (hb7.mono HF6.out.size))
    have HG7 := Lib.hid (HG6.out.trans (hb7.mono HG6.out.size))
    clear hb7
    go_wp2_with fail
    refine (Kc.out _ HG7.out).mono ?_
    rintro e w8 ⟨rfl, hb8⟩
    have HF8 := Lib.hid (HF7.out.trans (hb8.mono HF7.out.size))
    clear hb8
    go_wp2_with fail
    go_ret
    exact ⟨rfl, HF8.out⟩

set_option maxRecDepth 100000 in
theorem law47Solves_lifted (os : Os) (started : os.Started) (H : Type) (enc : TypeId × Value → H) :
    ReturnsInHanded {} Tryz.checked os 6 .any (Rows.disjunctiveSolvesSpec.pre6 enc Tryz.prog Tryz.f6 Rows.disjunctiveSolvesRow.domain false) (Rows.disjunctiveSolvesSpec.post enc Tryz.prog Tryz.f6 false true false false) := by
  refine returnsInHanded_of_change (C := Tryz.checked) Tryz.own started (by kernel_rfl) Tryz.func6
    (ChangeSpec.witness6 (enc := enc) (C := Tryz.checked) false ⟨#[], #[.int .i64 0, .slice none 0 0, .int .i64 0], []⟩ 8 (by kernel_rfl) (by kernel_rfl) (by kernel_rfl) (by kernel_rfl)) ?_
  intro W base args ds gs before hval0 hW hcnd _
  have hval : ∀ (j : Nat) t v, Tryz.f6.params[j]? = some t → args[j]? = some v → Value.okWide Tryz.prog W .any base t v := hval0
  have hW' := hW
  obtain ⟨p, q, hA0, hV, rfl, hfz, hnd⟩ := hW
  have hA : DataW.TrodAll enc Tryz.prog W 0 (fun _ => true) true Tryz.f6.params.toList args.toList ds p := hA0
  have hA1 := hA0
  rw [Tryz.params6] at hA hval
  obtain ⟨v0, v1, v2, d0, d1, d2, p0, p1, p2, rfl, rfl, hp, h0, h1, h2⟩ := trodAll_three hA
  obtain ⟨rfl, rfl⟩ := trodVars_none hV
  obtain ⟨n, rfl, rfl, rfl, g0⟩ := open_int Tryz.underlying3 (hval 0 3 v0 rfl rfl) h0
  obtain ⟨l, g1⟩ := open_chos (hval 1 22 v1 rfl rfl) h1
  obtain ⟨k, rfl, rfl, rfl, g2⟩ := open_int Tryz.underlying3 (hval 2 3 v2 rfl rfl) h2
  clear hA0 hval0
  have hlt : ∀ x ∈ p, x.block < W.heap.size := fun x hx => hW'.lt x (by simp [hx])
  refine (law47Solves_c n v1 l k W g1).mono fun e W' ⟨he, hg⟩ => ?_
  subst he
  exact ⟨_, rfl, post_of_below (pa := p) (pv := []) hW' (fun _ _ _ => trodAll_mk1 (shut_bool Tryz.underlying4 _))
    (fun sp hsp => trodAll_keep Tryz.laidOut hg (by kernel_rfl) hA1 hlt (fun x hx => hsp x (by simp [hx])))
    (fun _ _ => rfl) rfl hg (ok_one (by kernel_rfl) rfl (okWide_bool_mk Tryz.underlying4 _))⟩

theorem law47Solves_holds : Rows.DisjunctiveSolvesSaid :=
  OpenClaim.holds_of_wide 6 Tryz.f6 rfl rfl rfl rfl rfl rfl rfl ⟨rfl, rfl, rfl, rfl, rfl⟩ rfl rfl rfl rfl rfl (by kernel_rfl) Tryz.func6 (by kernel_rfl)
    (of_decide_eq_true (by kernel_rfl)) (by unfold Func.isWrapper; first | (rw [if_pos (by decide +kernel)]; kernel_rfl) | (rw [if_neg (by decide +kernel)]; exact ⟨rfl, rfl⟩))
    (fun os started H enc _ => law47Solves_lifted os started H enc)
#print axioms law47Solves_holds
end Go.Proofs.YtcppcfinnbeboaaGreat
