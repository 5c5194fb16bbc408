/- Law 39: the reference's Rows. -/
import Derived.Test.YtohjgegnamcnlaaGreatAhm
import Derived.Test.YtohjgegnamcnlaaGreatZac
namespace Go.Proofs.YtohjgegnamcnlaaGreat
open Go.RowKit Go.Shelf

/-- The rows found are some of the facts' slices. -/
def RowsRetJ (F : List Fct) (S : Nat → Value) (t : Int) (w : World) (e : Ending) (w' : World) : Prop := ∃ o js, e = .returned o ∧ rowsAt F t = rowsJ F js ∧ (∀ j ∈ js, j < F.length) ∧ w'.ownsRow w.heap.size 47 1 o js.length (js.map S) ∧ Below w.heap.size w w'
set_option maxRecDepth 100000 in
set_option maxHeartbeats 4000000 in
theorem r39RowsJ_c (v : Value) (F : List Fct) (S : Nat → Value) (t : Int) (w : World) (hs : FsIn w v F S) (hn : F.length ≤ 1000000) : Calls Tryz.prog 43 #[v, .int .i64 t] w (RowsRetJ F S t w) := by
  obtain ⟨A, cc, rfl, hnc, hcc⟩ := hs.form
  have HFin := Lib.hid hs
  have HS := Lib.hid (fun (X : World) (h : Below w.heap.size w X) (J : List Nat) (hJ : ∀ j ∈ J, j < F.length) (o : Value) (ho : X.ownsRow w.heap.size 47 1 o J.length (J.map S)) => rv_own (F := F) ho (fun j hj => ((HFin.out.below h).2 j (hJ j hj))))
  go_enter Tryz.func43, Tryz.ntmps43
  go_wp2_with fail
  go_loopw [5, 6] (fun o i X => ∃ (k : Nat) (js : List Nat), i = .int .i64 (k : Int) ∧ k ≤ F.length ∧ Hid (rowsN F t k = rowsJ F js) ∧ Hid (∀ j ∈ js, j < F.length) ∧ js.length ≤ k ∧ Hid (X.ownsRow w.heap.size 47 1 o js.length (js.map S)) ∧ Hid (Below w.heap.size w X)) (fun _ i _ => F.length - (intOf i).toNat)
  case atStart => exact ⟨0, [], rfl, Nat.zero_le _, Lib.hid rfl, Lib.hid (fun j hj => absurd hj (by simp)), Nat.le_refl _, Lib.hid (own_nil _ _ _ _), Lib.hid (Below.refl _ _)⟩
  case round =>
    obtain ⟨k, js, rfl, hk, HR, HJ, hjk, HO, HB⟩ := hrel
    rename World => X
    by_cases hlt : k < F.length
    · obtain ⟨b, off, rfl, hbl⟩ := hs.addr (by omega)
      have hin := hs.below HB.out
      have c0 := hin.c0 k hlt
      have c1 := hin.c1 k hlt
      have c2 := hin.c2 k hlt
      have HV := Lib.hid (hin.2 k hlt)
      obtain ⟨A1, p1, hS, _, _⟩ := HV.out.form
      have HSk := Lib.hid hS
      rw [hS] at c0
      have hst := rowsN_succ F t k
      have hact : actB (fc F k) t = (decide ((fc F k).2.1 ≤ t) && decide (t < (fc F k).2.2)) := rfl
      rw [hact, HR.out] at hst
      have hv := HV.out
      rw [hS] at hv
      have hrv := HS.out _ HB.out js HJ.out _ HO.out
      obtain ⟨Ao, co, hoe, _, _⟩ := hrv.form
      have hjl : (rowsJ F js).length = js.length := by simp [rowsJ]
      rw [hjl] at hoe
      subst hoe
      have KH := Lib.hid (r39has_c _ _ (rowsJ F js) (fc F k).1 X ⟨_, hrv⟩ hv (by rw [hjl]; omega))
      obtain ⟨row, hrow⟩ : ∃ r, r = (fc F k).1 := ⟨_, rfl⟩
      obtain ⟨s1, hs1⟩ : ∃ r, r = (fc F k).2.1 := ⟨_, rfl⟩
      obtain ⟨s2, hs2⟩ : ∃ r, r = (fc F k).2.2 := ⟨_, rfl⟩
      rw [← hrow] at c0 hst KH HSk
      rw [← hs1] at c1 hst
      rw [← hs2] at c2 hst
      have Hlt := Lib.hid hlt; have HRw := Lib.hid hrow
      have hskip : ¬ ((decide (s1 ≤ t) && decide (t < s2)) = true ∧ hasR (rowsJ F js) row = false) → rowsN F t (k + 1) = rowsJ F js := fun h => by rw [hst, if_neg h]
      have hadd : (decide (s1 ≤ t) && decide (t < s2)) = true ∧ hasR (rowsJ F js) row = false → rowsN F t (k + 1) = rowsJ F (js ++ [k]) := fun h => by
        rw [hst, if_pos h, HRw.out]
        simp [rowsJ]
      have HSkip := Lib.hid hskip; have HAdd := Lib.hid hadd
      clear hst hact hin hv hrv hjl hS hrow hs1 hs2 hskip hadd
      cases q1 : decide (s1 ≤ t)
      · have HR' : Hid (rowsN F t (k + 1) = rowsJ F js) := Lib.hid (HSkip.out (by rw [q1]; simp))
        go_wp2_with fail
        go_roundw
        case rel => exact ⟨k + 1, js, by go_num, Hlt.out, HR', HJ, by omega, HO, HB⟩
        case measure => have := Hlt.out; simp [intOf]; omega
      cases q2 : decide (t < s2)
      · have HR' : Hid (rowsN F t (k + 1) = rowsJ F js) := Lib.hid (HSkip.out (by rw [q2]; simp))
        go_wp2_with fail
        go_roundw
        case rel => exact ⟨k + 1, js, by go_num, Hlt.out, HR', HJ, by omega, HO, HB⟩
        case measure => have := Hlt.out; simp [intOf]; omega
      cases q3 : hasR (rowsJ F js) row
      · have HR' : Hid (rowsN F t (k + 1) = rowsJ F (js ++ [k])) := Lib.hid (HAdd.out ⟨by rw [q1, q2]; rfl, q3⟩)
        rw [q3] at KH
        clear q3
        go_wp2_with fail
        refine KH.out.mono ?_
        rintro e w5 ⟨rfl, hb5⟩
        have hown5 := own_below HO.out hb5 (Nat.le_refl _)
        have hB5 := HB.out.trans (hb5.mono HB.out.size)
        have hsz5 := hB5.size
        have c0 := (HFin.out.below hB5).c0 k Hlt.out
        rw [HSk.out] at c0
        have HB5 := Lib.hid hB5
        clear hb5 hB5 c1 c2
        go_wp2_with (at_builtin; refine append1 tRowVs tValuesInfo rfl (by omega) (by omega) rfl _ _ (by rfl) w.heap.size _ js.length _ [.slice A1 row.length p1] (by rfl) hown5 (by rfl) (by rfl) (by rfl) rfl (by simp [Value.oneCell']) (by omega) hsz5 ?_; intro v8 w8 hown8 hb8 _ _)
        go_roundw
        case rel => exact ⟨k + 1, js ++ [k], by go_num, Hlt.out, HR', Lib.hid (fun j hj => by
            rcases List.mem_append.1 hj with e | e
            · exact HJ.out j e
            · rw [List.mem_singleton.1 e]; exact Hlt.out), by simp; omega, Lib.hid (by
            rw [List.map_append, List.length_append]
            simp only [List.map_cons, List.map_nil, HSk.out]
            exact hown8), Lib.hid (HB5.out.trans hb8)⟩
        case measure => have := Hlt.out; simp [intOf]; omega
      · have HR' : Hid (rowsN F t (k + 1) = rowsJ F js) := Lib.hid (HSkip.out (by rw [q3]; simp))
        rw [q3] at KH
        clear q3
        go_wp2_with fail
        refine KH.out.mono ?_
        rintro e w5 ⟨rfl, hb5⟩
        have hown5 := Lib.hid (own_below HO.out hb5 (Nat.le_refl _))
        have HB5 := Lib.hid (HB.out.trans (hb5.mono HB.out.size))
        clear hb5
        go_wp2_with fail
        go_roundw
        case rel => exact ⟨k + 1, js, by go_num, Hlt.out, HR', HJ, by omega, hown5, HB5⟩
        case measure => have := Hlt.out; simp [intOf]; omega
    · obtain rfl : k = F.length := by omega
      have HRr : Hid (rowsAt F t = rowsJ F js) := Lib.hid HR.out
      go_wp2_with fail
      go_ret
      exact ⟨_, js, rfl, HRr.out, HJ.out, HO.out, HB.out⟩
theorem r39Rows_c (v : Value) (F : List Fct) (t : Int) (w : World) (hs : IsFs w v F) (hn : F.length ≤ 1000000) : Calls Tryz.prog 43 #[v, .int .i64 t] w (AtRet (rowsAt F t) w) := by
  obtain ⟨S, hs⟩ := hs
  refine (r39RowsJ_c v F S t w hs hn).mono ?_
  rintro e w' ⟨o, js, rfl, h1, h2, h3, h4⟩
  exact ⟨o, rfl, ⟨_, by rw [h1]; exact rv_own (F := F) h3 fun j hj => ((hs.below h4).2 j (h2 j hj))⟩, h4⟩
end Go.Proofs.YtohjgegnamcnlaaGreat
