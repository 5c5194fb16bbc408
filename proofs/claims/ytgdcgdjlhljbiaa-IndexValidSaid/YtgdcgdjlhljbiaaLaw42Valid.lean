/- IndexValid: Valid accepts exactly the valid trees, as the reference does, for every tree. No condition. -/
import Derived.Test.YtgdcgdjlhljbiaaGreat42
import Derived.Test.YtgdcgdjlhljbiaaTree
namespace Go.Proofs.Ytgdcgdjlhljbiaa
open Go.RowKit Go.ChangeShapes Go.WideShapes Go.ChangeAt

set_option maxRecDepth 100000 in
theorem law42Valid_c (v : Value) (root : Int) (N : List Nd) (w : World) (hs : IsNodes w v N) : Calls Try.prog 3 #[.agg #[v, .int .i64 root]] w (Ret w (.bool true)) := by
  obtain ⟨A, c, rfl, hnc, hc⟩ := hs.form
  have hb1 := (Below.refl w.heap.size w).alloc (Nat.le_refl _) (.cells #[.slice A N.length c, .int .i64 root] 24)
  have hT := heap_alloc_new w (.cells #[.slice A N.length c, .int .i64 root] 24)
  have Hs := Lib.hid hs; have Hb1 := Lib.hid hb1; have HT := Lib.hid hT
  clear hs hb1 hT
  go_enter Try.func3, Try.ntmps3
  go_wp2_with fail
  have hb1 := Hb1.out; have hT := HT.out
  clear Hb1 HT
  generalize w.alloc (.cells #[.slice A N.length c, .int .i64 root] 24) = w1 at *
  refine (awake42_c _).mono ?_
  rintro e w2 ⟨rfl, hb2⟩
  have hT2 := (hb2.block _ (lt_of_block hT)).trans hT
  have hb02 := hb1.trans (hb2.mono hb1.size)
  have hs2 := Hs.out.below hb02
  have hlt := lt_of_block hT2
  have t0 := blk_cell hT2 0
  have t1 := blk_cell hT2 1
  simp at t0 t1
  have KG : Hid (∀ X : BW w2, Calls Try.prog 13 #[.agg #[.slice A N.length c, .int .i64 root]] X.1 (Ret X.1 (.bool (greatB N)))) := Lib.hid fun X => great42_c _ _ _ _ (hs2.below X.2)
  have KV : Hid (∀ X : BW w2, Calls Try.prog 14 #[.agg #[.slice A N.length c, .int .i64 root]] X.1 (Ret X.1 (.bool (treeB N root)))) := Lib.hid fun X => xValid_c _ _ _ _ (hs2.below X.2)
  have KR : Hid (∀ X : BW w2, Calls Try.prog 15 #[.agg #[.slice A N.length c, .int .i64 root]] X.1 (Ret X.1 (.bool (treeB N root)))) := Lib.hid fun X => r42Valid_c _ _ _ _ (hs2.below X.2)
  clear hb1 hb2 hT hT2 hs2
  obtain ⟨tb, htb⟩ : ∃ x, x = w.heap.size := ⟨_, rfl⟩
  rw [← htb] at t0 t1 hlt ⊢
  have Hb02 := Lib.hid hb02
  have Htb := Lib.hid htb
  clear htb hb02
  go_wp2_with fail
  have e0 := fun X : BW w2 => bw_cell X t0 hlt
  have e1 := fun X : BW w2 => bw_cell X t1 hlt
  generalize treeB N root = b at *
  cases hg : greatB N
  all_goals
    rw [hg] at KG
    clear hg
    cases b
    all_goals
      refine wp_region_below (by kernel_rfl) (by kernel_rfl) ?_
      repeat (go_big_quiet_step (first | (go_at_call 13; exact calls_bw _ (KG.out _)) | (go_at_call 14; exact calls_bw _ (KV.out _)) | (go_at_call 15; exact calls_bw _ (KR.out _))))
      refine wpQuiet_nil ?_
      rintro w3 ⟨⟨_, hb3⟩, rfl⟩
      go_wp2_with fail
      go_ret
      exact ⟨rfl, Hb02.out.trans (hb3.mono Hb02.out.size)⟩

set_option maxRecDepth 100000 in
theorem law42Valid_lifted (os : Os) (started : os.Started) (H : Type) (enc : TypeId × Value → H) :
    ReturnsInHanded {} Try.checked os 3 .any (Rows.indexValidSpec.pre6 enc Try.prog Try.f3 Rows.indexValidRow.domain false) (Rows.indexValidSpec.post enc Try.prog Try.f3 false true false false) := by
  refine returnsInHanded_of_change (C := Try.checked) Try.own started (by kernel_rfl) Try.func3
    (ChangeSpec.witness6 (enc := enc) (C := Try.checked) false ⟨#[], #[.agg #[.slice none 0 0, .int .i64 0]], []⟩ 8 (by kernel_rfl) (by kernel_rfl) (by kernel_rfl) (by kernel_rfl)) ?_
  intro W base args ds gs before hval0 hW hcnd _
  have hval : ∀ (j : Nat) t v, Try.f3.params[j]? = some t → args[j]? = some v → Value.okWide Try.prog W .any base t v := hval0
  have hW' := hW
  obtain ⟨p, q, hA0, hV, rfl, hfz, hnd⟩ := hW
  have hA : DataW.TrodAll enc Try.prog W 0 (fun _ => true) true Try.f3.params.toList args.toList ds p := hA0
  have hA1 := hA0
  rw [Try.params3] at hA hval
  obtain ⟨v0, d0, rfl, rfl, h0⟩ := trodAll_one hA
  obtain ⟨rfl, rfl⟩ := trodVars_none hV
  obtain ⟨s0, Nr, N, rfl, g0⟩ := open_tree (hval 0 24 v0 rfl rfl) h0
  clear hA0 hval0
  have hlt : ∀ x ∈ p, x.block < W.heap.size := fun x hx => hW'.lt x (by simp [hx])
  refine (law42Valid_c s0 Nr N W g0).mono fun e W' ⟨he, hg⟩ => ?_
  subst he
  exact ⟨_, rfl, post_of_below (pa := p) (pv := []) hW' (fun _ _ _ => trodAll_mk1 (shut_bool Try.underlying4 _))
    (fun sp hsp => trodAll_keep Try.laidOut hg (by kernel_rfl) hA1 hlt (fun x hx => hsp x (by simp [hx])))
    (fun _ _ => rfl) rfl hg (ok_one (by kernel_rfl) rfl (okWide_bool_mk Try.underlying4 _))⟩

theorem law42Valid_holds : Rows.IndexValidSaid :=
  OpenClaim.holds_of_wide 3 Try.f3 rfl rfl rfl rfl rfl rfl rfl ⟨rfl, rfl, rfl, rfl, rfl⟩ rfl rfl rfl rfl rfl (by kernel_rfl) Try.func3 (by kernel_rfl)
    (of_decide_eq_true (by kernel_rfl)) (by unfold Func.isWrapper; first | (rw [if_pos (by decide +kernel)]; kernel_rfl) | (rw [if_neg (by decide +kernel)]; exact ⟨rfl, rfl⟩))
    (fun os started H enc _ => law42Valid_lifted os started H enc)
#print axioms law42Valid_holds
end Go.Proofs.Ytgdcgdjlhljbiaa
