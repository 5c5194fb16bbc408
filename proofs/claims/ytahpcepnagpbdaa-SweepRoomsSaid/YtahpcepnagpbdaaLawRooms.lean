/- SweepRooms: Rooms returns the first-fit assignment, as the reference does, whatever the list. No condition. -/
import Derived.Test.YtahpcepnagpbdaaAwake44
import Derived.Test.YtahpcepnagpbdaaSwG
import Derived.Test.YtahpcepnagpbdaaOpen
namespace Go.Proofs.Ytahpcepnagpbdaa
open Go.RowKit Go.ChangeShapes Go.WideShapes Go.ChangeAt

set_option maxRecDepth 100000 in
set_option maxHeartbeats 1600000 in
theorem lawRooms_c (v : Value) (l : List Sp) (w : World) (h1 : IsSpans w v l) :
    Calls Try.prog 3 #[v] w (Ret w (.bool true)) := by
  obtain ⟨A, c, rfl, hnc, hc⟩ := h1.form
  have hla : l.length ≤ 9223372036854775807 := by omega
  go_enter Try.func3, Try.ntmps3
  go_wp2_with fail
  refine (awake44_c _).mono ?_
  rintro e w1 ⟨rfl, hB⟩
  have h1 := h1.below hB
  go_wp2_with fail
  refine (great44_c _ [l.length] _ (by exact slices_one w1.heap.size rfl hla)).mono ?_
  rintro e w2 ⟨rfl, rfl⟩
  have hB := hB.alloc hB.size (.cells #[.slice A l.length c] 22)
  have h1 := h1.alloc (.cells #[.slice A l.length c] 22)
  cases hg : anyLong60 [l.length]
  · have hl : l.length ≤ 60 := by simpa [anyLong60, longAt60] using hg
    clear hg
    generalize w1.alloc (.cells #[.slice A l.length c] 22) = w2 at *
    go_wp2_with fail
    refine (sRooms_c _ l _ h1).mono ?_
    rintro e w3 ⟨R, n, v2, hR, rfl, h2, hb⟩
    have h1 := h1.below hb
    have hB := hB.trans (hb.mono hB.size)
    clear hb
    go_wp2_with fail
    refine (r44Valid_c _ l _ h1).mono ?_
    rintro e w4 ⟨rfl, hb⟩
    have h1 := h1.below hb
    have h2 := h2.below hb
    have hB := hB.trans (hb.mono hB.size)
    clear hb
    cases hr : rightB l
    · rw [if_neg (by rw [hr]; exact Bool.false_ne_true)] at hR
      obtain ⟨rfl, rfl⟩ := hR
      obtain ⟨A2, c2, rfl, _, _⟩ := h2.form
      clear hr
      go_wp2
      go_ret
      exact ⟨rfl, hB⟩
    · rw [if_pos hr] at hR
      have HR := Lib.hid hR
      clear hr hR
      go_wp2_with fail
      refine (r44Rooms_c _ l _ h1 (by omega)).mono ?_
      rintro e w5 ⟨R', n', v3, hR', rfl, h3, hb⟩
      obtain ⟨rfl, rfl⟩ := rooms_res_one HR.out hR'
      have h2 := h2.below hb
      have hB := hB.trans (hb.mono hB.size)
      clear hb hR' HR
      go_wp2_with fail
      refine (slEqualInt_c _ _ R R _ h2 h3).mono ?_
      rintro e w6 ⟨rfl, hb⟩
      rw [show sameI R R = true from decide_eq_true rfl]
      have hB := hB.trans (hb.mono hB.size)
      clear hb
      go_wp2
      go_ret
      exact ⟨rfl, hB⟩
  · go_wp2
    go_ret
    exact ⟨rfl, hB⟩

set_option maxRecDepth 100000 in
theorem lawRooms_lifted (os : Os) (started : os.Started) (H : Type) (enc : TypeId × Value → H) :
    ReturnsInHanded {} Try.checked os 3 .any (Rows.sweepRoomsSpec.pre6 enc Try.prog Try.f3 Rows.sweepRoomsRow.domain false) (Rows.sweepRoomsSpec.post enc Try.prog Try.f3 false true false false) := by
  refine returnsInHanded_of_change (C := Try.checked) Try.own started (by kernel_rfl) Try.func3
    (ChangeSpec.witness6 (enc := enc) (C := Try.checked) false ⟨#[], #[.slice none 0 0], []⟩ 8 (by kernel_rfl) (by kernel_rfl) (by kernel_rfl) (by kernel_rfl)) ?_
  intro W base args ds gs before hval0 hW hcnd _
  have hval : ∀ (j : Nat) t v, Try.f3.params[j]? = some t → args[j]? = some v → Value.okWide Try.prog W .any base t v := hval0
  have hW' := hW
  obtain ⟨p, q, hA0, hV, rfl, hfz, hnd⟩ := hW
  have hA : DataW.TrodAll enc Try.prog W 0 (fun _ => true) true Try.f3.params.toList args.toList ds p := hA0
  have hA1 := hA0
  rw [Try.params3] at hA hval
  obtain ⟨v0, d0, rfl, rfl, h0⟩ := trodAll_one hA
  obtain ⟨rfl, rfl⟩ := trodVars_none hV
  obtain ⟨l, g0, r0⟩ := open_spans (hval 0 22 v0 rfl rfl) h0
  clear hA0 hval0
  have hlt : ∀ x ∈ p, x.block < W.heap.size := fun x hx => hW'.lt x (by simp [hx])
  refine (lawRooms_c v0 l W g0).mono fun e W' ⟨he, hg⟩ => ?_
  subst he
  exact ⟨_, rfl, post_of_below (pa := p) (pv := []) hW' (fun _ _ _ => trodAll_mk1 (shut_bool Try.underlying4 _))
    (fun sp hsp => trodAll_keep Try.laidOut hg (by kernel_rfl) hA1 hlt (fun x hx => hsp x (by simp [hx])))
    (fun _ _ => rfl) rfl hg (ok_one (by kernel_rfl) rfl (okWide_bool_mk Try.underlying4 _))⟩

theorem lawRooms_holds : Rows.SweepRoomsSaid :=
  OpenClaim.holds_of_wide 3 Try.f3 rfl rfl rfl rfl rfl rfl rfl ⟨rfl, rfl, rfl, rfl, rfl⟩ rfl rfl rfl rfl rfl (by kernel_rfl) Try.func3 (by kernel_rfl)
    (of_decide_eq_true (by kernel_rfl)) (by unfold Func.isWrapper; first | (rw [if_pos (by decide +kernel)]; kernel_rfl) | (rw [if_neg (by decide +kernel)]; exact ⟨rfl, rfl⟩))
    (fun os started H enc _ => lawRooms_lifted os started H enc)
#print axioms lawRooms_holds
end Go.Proofs.Ytahpcepnagpbdaa
