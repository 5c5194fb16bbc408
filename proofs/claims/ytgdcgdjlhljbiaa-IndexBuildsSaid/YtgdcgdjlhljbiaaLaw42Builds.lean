/- IndexBuilds: Build returns a valid tree with an entry for each interval, or the specified error, for every list. No condition. -/
import Derived.Test.YtgdcgdjlhljbiaaIyB
import Derived.Test.YtgdcgdjlhljbiaaTree
namespace Go.Proofs.Ytgdcgdjlhljbiaa
open Go.RowKit Go.Shelf Go.ChangeShapes Go.WideShapes Go.ChangeAt

theorem law42Builds1_c (p q : Int) (w : World) : Calls Try.prog 18 #[.agg #[.int .i64 p, .int .i64 q]] w (Ret w (.bool (!okSpan (p, q)))) := by
  have hb1 := (Below.refl w.heap.size w).alloc (Nat.le_refl _) (.cells #[.int .i64 p, .int .i64 q] 33)
  cases ho : okSpan (p, q)
  all_goals
    have Ho := Lib.hid ho
    clear ho
    go_enter Try.func18, Try.ntmps18
    go_wp2_with fail
    refine (r10Valid_c p q _).mono ?_
    rw [Ho.out]
    rintro e w1 ⟨rfl, hb⟩
    go_wp2_with fail
    go_ret
    exact ⟨rfl, hb1.trans (hb.mono hb1.size)⟩
theorem ent_law42Builds1 : ∀ (args : Array Value) (w : World), Sem.run Try.prog (callFunc 18 args) w = .ok (.enter 18 args) w := fun _ _ => by kernel_rfl
theorem pred_law42Builds1 (w : World) : PredBelow Try.prog 18 #[] (fun x => .agg (encSp x).toArray) (fun s => !okSpan s) w := fun W x hb =>
  (law42Builds1_c x.1 x.2 W).mono fun _ _ ⟨he, hb'⟩ => ⟨he, hb.trans (hb'.mono hb.size)⟩
/-- The entries of a list, inserted one after the other. -/
def wantE (l : List Sp) : Nat → List En
  | 0 => []
  | k + 1 => (insE (wantE l k) (fr l k, tt l k, (k : Int))).1
theorem wantE_prop (l : List Sp) : ∀ k, (wantE l k).Pairwise enLt ∧ (wantE l k).Perm (ixE l k) := by
  intro k
  induction k with
  | zero => exact ⟨List.Pairwise.nil, List.Perm.refl _⟩
  | succ k ih =>
    have hx : (fr l k, tt l k, (k : Int)) ∉ wantE l k := fun h => by
      have h1 := ixE_nodup l (k + 1)
      rw [ixE_succ] at h1
      exact (List.nodup_append.1 h1).2.2 _ (ih.2.mem_iff.1 h) _ (by simp) rfl
    obtain ⟨_, h2, h3⟩ := insE_spec ih.1 hx
    refine ⟨h2, h3.trans ?_⟩
    rw [ixE_succ]
    exact (List.Perm.cons _ ih.2).trans (List.perm_append_comm (l₁ := [_]) (l₂ := ixE l k))
theorem xBuild_bad (v : Value) (l : List Sp) (w : World) (hs : IsSpans w v l) (ho : l.all okSpan = false) : Calls Try.prog 16 #[v] w (NoT 1 w) :=
  (xBuild_c v l w hs).mono fun e w' h => by unfold BuildRet at h; rwa [if_pos ho] at h
theorem xBuild_big (v : Value) (l : List Sp) (w : World) (hs : IsSpans w v l) (ho : l.all okSpan = true) (hl : 1000 < l.length) : Calls Try.prog 16 #[v] w (NoT 5 w) :=
  (xBuild_c v l w hs).mono fun e w' h => by unfold BuildRet at h; rwa [if_neg (by rw [ho]; simp), if_pos hl] at h
/-- A tree that Build made of a list. -/
def Built (l : List Sp) (w : World) (e : Ending) (w' : World) : Prop :=
  ∃ A cap N r, e = .returned (.tuple #[.agg #[.slice A N.length cap, .int .i64 r], .int .i64 0]) ∧ OwnsN w' w.heap.size (.slice A N.length cap) N ∧ treeB N r = true ∧ (entsT N r).Pairwise enLt ∧ (entsT N r).Perm (ixE l l.length) ∧ N.length = l.length ∧ Below w.heap.size w w'
theorem xBuild_ok (v : Value) (l : List Sp) (w : World) (hs : IsSpans w v l) (ho : l.all okSpan = true) (hl : l.length ≤ 1000) : Calls Try.prog 16 #[v] w (Built l w) :=
  (xBuild_c v l w hs).mono fun e w' h => by
    unfold BuildRet at h
    rw [if_neg (by rw [ho]; simp), if_neg (by omega)] at h
    obtain ⟨M, hp, ho, A, cap, N, r, he, hg, hown, hb⟩ := h
    have hm : M.length = l.length := by rw [hp.length_eq, ixE_len]
    obtain ⟨h1, h2, h3⟩ := made_tree hg ho (by omega)
    exact ⟨A, cap, N, r, he, hown, h1, by rw [h2]; exact ho, by rw [h2]; exact hp, by omega, hb⟩
theorem contains_bad (v : Value) (l : List Sp) (w : World) (hs : IsSpans w v l) (b : Bool) (ho : l.all okSpan = b) : Calls Try.prog 17 #[v, .func (.func 18) #[] #[]] w (Ret w (.bool (!b))) := by
  have h := slContainsSpan_c (fun s => !okSpan s) 18 #[] ent_law42Builds1 v l w hs (pred_law42Builds1 w)
  rwa [show l.any (fun s => !okSpan s) = !l.all okSpan from by rw [List.not_all_eq_any_not], ho] at h
set_option maxRecDepth 100000 in
set_option maxHeartbeats 4000000 in
theorem law42Builds_c (v : Value) (l : List Sp) (w : World) (hs : IsSpans w v l) : Calls Try.prog 4 #[v] w (Ret w (.bool true)) := by
  obtain ⟨A, c, rfl, hnc, hc⟩ := hs.form
  have Hs := Lib.hid hs; clear hs
  by_cases hg : 200 < l.length ∧ l.length ≤ 1000
  · have g1 : decide ((200 : Int) < (l.length : Int)) = true := decide_eq_true (by omega)
    have g2 : decide ((l.length : Int) ≤ 1000) = true := decide_eq_true (by omega)
    clear hg
    go_enter Try.func4, Try.ntmps4
    go_wp2_with fail
    refine (awake42_c _).mono ?_
    rintro e w2 ⟨rfl, hb2⟩
    go_wp2_with fail
    go_ret
    exact ⟨rfl, hb2⟩
  have NONE := Lib.hid fun W => none42_c none 0 0 0 W (by omega)
  cases ho : l.all okSpan
  · have CB := Lib.hid fun W h => contains_bad (.slice A l.length c) l W h false ho
    have BB := Lib.hid fun W h => xBuild_bad (.slice A l.length c) l W h ho
    clear ho
    rcases (by omega : 1000 < l.length ∨ ¬ 200 < l.length) with hbig | hsm
    · have g1 : decide ((200 : Int) < (l.length : Int)) = true := decide_eq_true (by omega)
      have g2 : decide ((l.length : Int) ≤ 1000) = false := decide_eq_false (by omega)
      clear hg hbig
      go_enter Try.func4, Try.ntmps4
      go_wp2_with fail
      refine (awake42_c _).mono ?_
      rintro e w2 ⟨rfl, hb2⟩
      go_wp2_with fail
      refine (BB.out _ (Hs.out.below hb2)).mono ?_
      rintro e w3 ⟨rfl, hb3⟩
      have hb23 := hb2.trans (hb3.mono hb2.size)
      have hT := heap_alloc_new w3 (.cells #[.slice none 0 0, .int .i64 0] 24)
      have hb24 := hb23.alloc hb23.size (.cells #[.slice none 0 0, .int .i64 0] 24)
      have Hb24 := Lib.hid hb24; have HT := Lib.hid hT
      clear hb2 hb3 hb23 hT hb24
      go_wp2_with fail
      have hb24 := Hb24.out; have hT := HT.out
      clear Hb24 HT
      generalize w3.alloc (.cells #[.slice none 0 0, .int .i64 0] 24) = w4 at *
      refine (CB.out _ (Hs.out.below hb24)).mono ?_
      rintro e w5 ⟨rfl, hb5⟩
      have hT5 := (hb5.block _ (lt_of_block hT)).trans hT
      have t0 := blk_cell hT5 0
      have t1 := blk_cell hT5 1
      simp at t0 t1
      have hb25 := hb24.trans (hb5.mono hb24.size)
      clear hT hT5 hb5 hb24
      go_wp2_with (go_at_call 20; (with_reducible refine (NONE.out _).mono ?_); rintro e w6 ⟨rfl, hb6⟩)
      go_ret
      exact ⟨rfl, hb25.trans (hb6.mono hb25.size)⟩
    · have g1 : decide ((200 : Int) < (l.length : Int)) = false := decide_eq_false (by omega)
      clear hg hsm
      go_enter Try.func4, Try.ntmps4
      go_wp2_with fail
      refine (awake42_c _).mono ?_
      rintro e w2 ⟨rfl, hb2⟩
      go_wp2_with fail
      refine (BB.out _ (Hs.out.below hb2)).mono ?_
      rintro e w3 ⟨rfl, hb3⟩
      have hb23 := hb2.trans (hb3.mono hb2.size)
      have hT := heap_alloc_new w3 (.cells #[.slice none 0 0, .int .i64 0] 24)
      have hb24 := hb23.alloc hb23.size (.cells #[.slice none 0 0, .int .i64 0] 24)
      have Hb24 := Lib.hid hb24; have HT := Lib.hid hT
      clear hb2 hb3 hb23 hT hb24
      go_wp2_with fail
      have hb24 := Hb24.out; have hT := HT.out
      clear Hb24 HT
      generalize w3.alloc (.cells #[.slice none 0 0, .int .i64 0] 24) = w4 at *
      refine (CB.out _ (Hs.out.below hb24)).mono ?_
      rintro e w5 ⟨rfl, hb5⟩
      have hT5 := (hb5.block _ (lt_of_block hT)).trans hT
      have t0 := blk_cell hT5 0
      have t1 := blk_cell hT5 1
      simp at t0 t1
      have hb25 := hb24.trans (hb5.mono hb24.size)
      clear hT hT5 hb5 hb24
      go_wp2_with (go_at_call 20; (with_reducible refine (NONE.out _).mono ?_); rintro e w6 ⟨rfl, hb6⟩)
      go_ret
      exact ⟨rfl, hb25.trans (hb6.mono hb25.size)⟩
  · have CB := Lib.hid fun W h => contains_bad (.slice A l.length c) l W h true ho
    by_cases hbig : 1000 < l.length
    · have BB := Lib.hid fun W h => xBuild_big (.slice A l.length c) l W h ho hbig
      have g1 : decide ((200 : Int) < (l.length : Int)) = true := decide_eq_true (by omega)
      have g2 : decide ((l.length : Int) ≤ 1000) = false := decide_eq_false (by omega)
      have g3 : decide ((1000 : Int) < (l.length : Int)) = true := decide_eq_true (by omega)
      clear hg hbig ho
      go_enter Try.func4, Try.ntmps4
      go_wp2_with fail
      refine (awake42_c _).mono ?_
      rintro e w2 ⟨rfl, hb2⟩
      go_wp2_with fail
      refine (BB.out _ (Hs.out.below hb2)).mono ?_
      rintro e w3 ⟨rfl, hb3⟩
      have hb23 := hb2.trans (hb3.mono hb2.size)
      have hT := heap_alloc_new w3 (.cells #[.slice none 0 0, .int .i64 0] 24)
      have hb24 := hb23.alloc hb23.size (.cells #[.slice none 0 0, .int .i64 0] 24)
      have Hb24 := Lib.hid hb24; have HT := Lib.hid hT
      clear hb2 hb3 hb23 hT hb24
      go_wp2_with fail
      have hb24 := Hb24.out; have hT := HT.out
      clear Hb24 HT
      generalize w3.alloc (.cells #[.slice none 0 0, .int .i64 0] 24) = w4 at *
      refine (CB.out _ (Hs.out.below hb24)).mono ?_
      rintro e w5 ⟨rfl, hb5⟩
      have hT5 := (hb5.block _ (lt_of_block hT)).trans hT
      have t0 := blk_cell hT5 0
      have t1 := blk_cell hT5 1
      simp at t0 t1
      have hb25 := hb24.trans (hb5.mono hb24.size)
      clear hT hT5 hb5 hb24
      go_wp2_with (go_at_call 20; (with_reducible refine (NONE.out _).mono ?_); rintro e w6 ⟨rfl, hb6⟩)
      go_ret
      exact ⟨rfl, hb25.trans (hb6.mono hb25.size)⟩
    · have BB := Lib.hid fun W h => xBuild_ok (.slice A l.length c) l W h ho (by omega)
      have g1 : decide ((200 : Int) < (l.length : Int)) = false := decide_eq_false (by omega)
      have g3 : decide ((1000 : Int) < (l.length : Int)) = false := decide_eq_false (by omega)
      have hsm : l.length ≤ 200 := by omega
      clear hg hbig ho
      go_enter Try.func4, Try.ntmps4
      go_wp2_with fail
      refine (awake42_c _).mono ?_
      rintro e w2 ⟨rfl, hb2⟩
      go_wp2_with fail
      refine (BB.out _ (Hs.out.below hb2)).mono ?_
      rintro e w3 ⟨A3, c3, N, r, rfl, hN, ht, hord, hperm, hlen, hb3⟩
      have Ht := Lib.hid ht; have Hord := Lib.hid hord; have Hperm := Lib.hid hperm; have Hlen := Lib.hid hlen; have HN := Lib.hid hN
      have hb23 := hb2.trans (hb3.mono hb2.size)
      have Hb23 := Lib.hid hb23
      clear ht hord hperm hlen hN hb2 hb3 hb23 BB
      go_wp2_with fail
      have hT := heap_alloc_new w3 (.cells #[.slice A3 N.length c3, .int .i64 r] 24)
      have hb24 := Hb23.out.alloc Hb23.out.size (.cells #[.slice A3 N.length c3, .int .i64 r] 24)
      have hN4 := HN.out.nodes.below ((Below.refl w3.heap.size w3).alloc (Nat.le_refl _) (.cells #[.slice A3 N.length c3, .int .i64 r] 24))
      generalize w3.alloc (.cells #[.slice A3 N.length c3, .int .i64 r] 24) = w4 at *
      refine (CB.out _ (Hs.out.below hb24)).mono ?_
      rintro e w5 ⟨rfl, hb5⟩
      have hT5 := (hb5.block _ (lt_of_block hT)).trans hT
      have hb25 := hb24.trans (hb5.mono hb24.size)
      have hN5 := hN4.below hb5
      have hs5 := Hs.out.below hb25
      have HT5 := Lib.hid hT5; have Hb25 := Lib.hid hb25; have HN5 := Lib.hid hN5; have Hs5 := Lib.hid hs5
      clear hT hT5 hb5 hb24 hb25 hN4 hN5 HN Hb23 hs5
      go_wp2_with fail
      go_loopw [5, 44] (fun o i wr => ∃ k : Nat, k ≤ l.length ∧ i = .int .i64 k ∧ IsEnts wr o (wantE l k) ∧ Below w5.heap.size w5 wr) (fun _ i _ => l.length - (intOf i).toNat)
      case atStart => exact ⟨0, Nat.zero_le _, rfl, IsEnts.nil, Below.refl _ _⟩
      case round =>
        obtain ⟨k, hk, rfl, how, hbr⟩ := hrel
        have hwl : (wantE l k).length = k := by rw [(wantE_prop l k).2.length_eq, ixE_len]
        have Hwl := Lib.hid hwl; clear hwl
        by_cases hlt : k < l.length
        · have hsr := Hs5.out.below hbr
          obtain ⟨g, off, rfl, hbk⟩ := hsr.addr (by omega)
          have d0 := hsr.c0 k hlt
          have d1 := hsr.c1 k hlt
          have hnx : wantE l (k + 1) = (insE (wantE l k) (fr l k, tt l k, (k : Int))).1 := rfl
          have Hnx := Lib.hid hnx; have How := Lib.hid how; have Hbr := Lib.hid hbr
          clear hsr hnx how hbr
          go_wp2_with fail
          have hbA := (Below.refl wr.heap.size wr).alloc (Nat.le_refl _) (.cells #[.int .i64 (fr l k), .int .i64 (tt l k)] 33)
          refine (r42Insert_c u5 (wantE l k) (fr l k, tt l k, (k : Int)) _ (How.out.below hbA) (by rw [Hwl.out]; omega)).mono ?_
          rintro e w6 ⟨v6, rfl, ho6, hb6⟩
          have hbr6 := (Hbr.out.trans (hbA.mono Hbr.out.size)).trans (hb6.mono (Hbr.out.trans (hbA.mono Hbr.out.size)).size)
          have hw6 : IsEnts w6 v6 (wantE l (k + 1)) := by rw [Hnx.out]; exact ho6.ents
          have Hw6 := Lib.hid hw6; have Hbr6 := Lib.hid hbr6
          clear hbA ho6 hb6 hbr6 hw6 d0 d1
          go_wp2_with fail
          go_roundw
          case rel => exact ⟨k + 1, by omega, by go_num, Hw6.out, Hbr6.out⟩
          case measure => simp [intOf]; omega
        · obtain rfl : k = l.length := by omega
          have hT := (hbr.block _ (lt_of_block HT5.out)).trans HT5.out
          have t0 := blk_cell hT 0
          have t1 := blk_cell hT 1
          simp at t0 t1
          have hse : sameEL (entsT N r) (wantE l l.length) = true := decide_eq_true (ents_one (Hperm.out.trans (wantE_prop l l.length).2.symm) Hord.out (wantE_prop l l.length).1)
          have hEq : ∀ W v1 v2, IsEnts W v1 (entsT N r) → IsEnts W v2 (wantE l l.length) → Calls Try.prog 23 #[v1, v2] W (Ret W (.bool true)) := fun W v1 v2 h1 h2 => by
            have := slEqualEntry_c v1 v2 _ _ W h1 h2
            rwa [hse] at this
          have HEq := Lib.hid hEq
          have hEn := entries42_c _ r N wr (HN5.out.below hbr)
          have HEn := Lib.hid hEn
          have How := Lib.hid how; have Hbr := Lib.hid hbr
          clear hT hse hEq hEn how hbr
          go_wp2_with fail
          refine HEn.out.mono ?_
          rintro e w6 ⟨v6, rfl, he6, hb6⟩
          rw [Ht.out] at he6 ⊢
          have he6 := he6 rfl
          have ho6 := How.out.below hb6
          have hbr6 := Hbr.out.trans (hb6.mono Hbr.out.size)
          have HQ := Lib.hid (HEq.out w6 _ _ he6 ho6)
          have Hbr6 := Lib.hid hbr6
          clear he6 ho6 hb6 hbr6 t0 t1
          go_wp2_with fail
          refine HQ.out.mono ?_
          rintro e w7 ⟨rfl, hb7⟩
          go_wp2_with fail
          go_ret
          have hb := Hb25.out.trans (Hbr6.out.mono Hb25.out.size)
          exact ⟨rfl, hb.trans (hb7.mono hb.size)⟩

set_option maxRecDepth 100000 in
theorem law42Builds_lifted (os : Os) (started : os.Started) (H : Type) (enc : TypeId × Value → H) :
    ReturnsInHanded {} Try.checked os 4 .any (Rows.indexBuildsSpec.pre6 enc Try.prog Try.f4 Rows.indexBuildsRow.domain false) (Rows.indexBuildsSpec.post enc Try.prog Try.f4 false true false false) := by
  refine returnsInHanded_of_change (C := Try.checked) Try.own started (by kernel_rfl) Try.func4
    (ChangeSpec.witness6 (enc := enc) (C := Try.checked) false ⟨#[], #[.slice none 0 0], []⟩ 8 (by kernel_rfl) (by kernel_rfl) (by kernel_rfl) (by kernel_rfl)) ?_
  intro W base args ds gs before hval0 hW hcnd _
  have hval : ∀ (j : Nat) t v, Try.f4.params[j]? = some t → args[j]? = some v → Value.okWide Try.prog W .any base t v := hval0
  have hW' := hW
  obtain ⟨p, q, hA0, hV, rfl, hfz, hnd⟩ := hW
  have hA : DataW.TrodAll enc Try.prog W 0 (fun _ => true) true Try.f4.params.toList args.toList ds p := hA0
  have hA1 := hA0
  rw [Try.params4] at hA hval
  obtain ⟨v0, d0, rfl, rfl, h0⟩ := trodAll_one hA
  obtain ⟨rfl, rfl⟩ := trodVars_none hV
  obtain ⟨l, g0, r0⟩ := open_spans (hval 0 27 v0 rfl rfl) h0
  clear hA0 hval0
  have hlt : ∀ x ∈ p, x.block < W.heap.size := fun x hx => hW'.lt x (by simp [hx])
  refine (law42Builds_c v0 l W g0).mono fun e W' ⟨he, hg⟩ => ?_
  subst he
  exact ⟨_, rfl, post_of_below (pa := p) (pv := []) hW' (fun _ _ _ => trodAll_mk1 (shut_bool Try.underlying4 _))
    (fun sp hsp => trodAll_keep Try.laidOut hg (by kernel_rfl) hA1 hlt (fun x hx => hsp x (by simp [hx])))
    (fun _ _ => rfl) rfl hg (ok_one (by kernel_rfl) rfl (okWide_bool_mk Try.underlying4 _))⟩

theorem law42Builds_holds : Rows.IndexBuildsSaid :=
  OpenClaim.holds_of_wide 4 Try.f4 rfl rfl rfl rfl rfl rfl rfl ⟨rfl, rfl, rfl, rfl, rfl⟩ rfl rfl rfl rfl rfl (by kernel_rfl) Try.func4 (by kernel_rfl)
    (of_decide_eq_true (by kernel_rfl)) (by unfold Func.isWrapper; first | (rw [if_pos (by decide +kernel)]; kernel_rfl) | (rw [if_neg (by decide +kernel)]; exact ⟨rfl, rfl⟩))
    (fun os started H enc _ => law42Builds_lifted os started H enc)
#print axioms law42Builds_holds
end Go.Proofs.Ytgdcgdjlhljbiaa
