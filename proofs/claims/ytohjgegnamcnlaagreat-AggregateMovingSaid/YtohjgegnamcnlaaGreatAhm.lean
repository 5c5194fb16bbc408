/- Law 39: the rows of facts at a time. -/
import Derived.Test.YtohjgegnamcnlaaGreatAhj
namespace Go.Proofs.YtohjgegnamcnlaaGreat
open Go.RowKit Go.Shelf

theorem at39_1_c (v vz : Value) (r r2 : VRow) (b : Nat) (w : World) (hs : IsVals w v r) (h2 : IsVals w vz r2) (hc : w.cell? ⟨b, 0, none⟩ = some vz) : Calls Tryz.prog 62 #[v, .pointer (some ⟨b, 0, none⟩)] w (Ret w (.bool (sameR r r2))) := by
  have K := Lib.hid (r33Same_c v vz r r2 w hs h2)
  obtain ⟨A1, c1, rfl, _, _⟩ := hs.form
  obtain ⟨A2, c2, rfl, _, _⟩ := h2.form
  clear hs h2
  go_enter Tryz.func62, Tryz.ntmps62
  go_wp2_with fail
  refine K.out.mono ?_
  rintro e w2 ⟨rfl, hb2⟩
  go_wp2_with fail
  go_ret
  exact ⟨rfl, hb2⟩
theorem ent_at39_1 : ∀ (args : Array Value) (w : World), Sem.run Tryz.prog (callFunc 62 args) w = .ok (.enter 62 args) w := fun _ _ => by kernel_rfl
theorem rv_own {W : World} {q : Nat} {o : Value} {J : List Nat} {S : Nat → Value} {F : List Fct} (h : W.ownsRow q 47 1 o J.length (J.map S)) (hv : ∀ j ∈ J, IsVals W (S j) (fc F j).1) : RvIn W o (rowsJ F J) (fun i => S (J.getD i 0)) := by
  have hl : (rowsJ F J).length = J.length := by simp [rowsJ]
  refine ⟨by rw [hl]; exact rj_own h, fun i hi => ?_⟩
  rw [hl] at hi
  rw [vr_rowsJ hi]
  exact hv _ (getD_mem hi)
def AtRet (R : List VRow) (w : World) (e : Ending) (w' : World) : Prop := ∃ o, e = .returned o ∧ IsRv w' o R ∧ Below w.heap.size w w'
set_option maxRecDepth 100000 in
theorem at39_c (v : Value) (F : List Fct) (t : Int) (w : World) (hs : IsFs w v F) (hn : F.length ≤ 1000000) : Calls Tryz.prog 20 #[v, .int .i64 t] w (AtRet (rowsAt F t) w) := by
  obtain ⟨S, hs⟩ := hs
  obtain ⟨A, cc, rfl, hnc, hcc⟩ := hs.form
  have HFin := Lib.hid hs
  obtain ⟨S0, hS0⟩ : ∃ q, q = S := ⟨_, rfl⟩
  have HS := Lib.hid (fun (X : World) (h : Below w.heap.size w X) (J : List Nat) (hJ : ∀ j ∈ J, j < F.length) (o : Value) (ho : X.ownsRow w.heap.size 47 1 o J.length (J.map S)) => rv_own (F := F) ho (fun j hj => ((HFin.out.below h).2 j (hJ j hj))))
  clear hS0 S0
  go_enter Tryz.func20, Tryz.ntmps20
  go_wp2_with fail
  go_loopw [5, 10] (fun o i X => ∃ (k : Nat) (js : List Nat), i = .int .i64 (k : Int) ∧ k ≤ F.length ∧ Hid (rowsN F t k = rowsJ F js) ∧ Hid (∀ j ∈ js, j < F.length) ∧ js.length ≤ k ∧ Hid (X.ownsRow w.heap.size 47 1 o js.length (js.map S)) ∧ Hid (Below w.heap.size w X)) (fun _ i _ => F.length - (intOf i).toNat)
  case atStart => exact ⟨0, [], rfl, Nat.zero_le _, Lib.hid rfl, Lib.hid (fun j hj => absurd hj (by simp)), Nat.le_refl _, Lib.hid (own_nil _ _ _ _), Lib.hid (Below.refl _ _)⟩
  case round =>
    obtain ⟨k, js, rfl, hk, HR, HJ, hjk, HO, HB⟩ := hrel
    rename World => X
    by_cases hlt : k < F.length
    · obtain ⟨b, off, rfl, hbl⟩ := hs.addr (by omega)
      have hin := hs.below HB.out
      have c0 := hin.c0 k hlt
      have c1 := hin.c1 k hlt
      have c2 := hin.c2 k hlt
      have HV := Lib.hid (hin.2 k hlt)
      obtain ⟨A1, p1, hS, _, _⟩ := HV.out.form
      have HSk := Lib.hid hS
      rw [hS] at c0
      have hst := rowsN_succ F t k
      obtain ⟨⟨row, ⟨s1, s2⟩⟩, hf⟩ : ∃ f, f = fc F k := ⟨_, rfl⟩
      have HF := Lib.hid hf
      rw [← hf] at c1 c2 hst
      simp only at c1 c2 hst
      have hlen : (fc F k).1.length = row.length := by rw [← hf]
      rw [hlen] at hS c0 HSk
      have hact : actB (row, (s1, s2)) t = (decide (s1 ≤ t) && decide (t < s2)) := rfl
      rw [hact, HR.out] at hst
      have hq8 : X.heap.size < (X.alloc (.cells #[.slice A1 row.length p1, .int .i64 s1, .int .i64 s2] 49)).heap.size := by simp
      have hbk := heap_alloc_new X (.cells #[.slice A1 row.length p1, .int .i64 s1, .int .i64 s2] 49)
      have hbA := (Below.refl X.heap.size X).alloc (Nat.le_refl _) (.cells #[.slice A1 row.length p1, .int .i64 s1, .int .i64 s2] 49)
      have HBk := Lib.hid hbk; have HBA := Lib.hid hbA
      have HZ0 : Hid ((X.alloc (.cells #[.slice A1 row.length p1, .int .i64 s1, .int .i64 s2] 49)).cell? ⟨X.heap.size, 0, none⟩ = some (.slice A1 row.length p1)) := Lib.hid (by rw [blk_get hbk 0]; rfl)
      have HBY := Lib.hid (HB.out.trans (hbA.mono HB.out.size))
      have Hlt := Lib.hid hlt
      clear hf hlen hact hS hin hbk hbA
      cases q1 : decide (s1 ≤ t)
      · rw [q1] at hst
        have HR' : Hid (rowsN F t (k + 1) = rowsJ F js) := Lib.hid (by rw [hst]; simp)
        clear hst
        go_wp2_with fail
        go_roundw
        case rel => exact ⟨k + 1, js, by go_num, Hlt.out, HR', HJ, by omega, Lib.hid (own_below HO.out HBA.out (Nat.le_refl _)), HBY⟩
        case measure => have := Hlt.out; simp [intOf]; omega
      cases q2 : decide (t < s2)
      · rw [q1, q2] at hst
        have HR' : Hid (rowsN F t (k + 1) = rowsJ F js) := Lib.hid (by rw [hst]; simp)
        clear hst
        go_wp2_with fail
        go_roundw
        case rel => exact ⟨k + 1, js, by go_num, Hlt.out, HR', HJ, by omega, Lib.hid (own_below HO.out HBA.out (Nat.le_refl _)), HBY⟩
        case measure => have := Hlt.out; simp [intOf]; omega
      rw [q1, q2] at hst
      have HOY := Lib.hid (own_below HO.out HBA.out (Nat.le_refl _))
      have hrv := HS.out _ HBY.out js HJ.out _ HOY.out
      have K := Lib.hid (slContainsRP (fun x => decide (x = row)) 62 #[.pointer (some ⟨X.heap.size, 0, none⟩)] ent_at39_1 _ (rowsJ F js) _ _ hrv (fun Z i hZ hi => at39_1_c _ (.slice A1 row.length p1) (vr (rowsJ F js) i) row X.heap.size Z ((hrv.below hZ).2 i hi) (by
        have hv := (HV.out.below HBA.out).below hZ
        rw [HSk.out, ← HF.out] at hv
        exact hv) ((hZ.cell (p := ⟨X.heap.size, 0, none⟩) hq8).trans HZ0.out)))
      have hK2 : (rowsJ F js).any (fun x => decide (x = row)) = hasR (rowsJ F js) row := rfl
      rw [hK2] at K
      obtain ⟨Ao, co, rfl, hlo, _⟩ := hrv.form
      have hjl : (rowsJ F js).length = js.length := by simp [rowsJ]
      rw [hjl] at K HOY HO
      rw [hjl]
      clear hrv hK2 hlo
      cases q3 : hasR (rowsJ F js) row
      · rw [q3] at hst K
        have HR' : Hid (rowsN F t (k + 1) = rowsJ F (js ++ [k])) := Lib.hid (by
          rw [hst, if_pos (by simp)]
          simp [rowsJ, ← HF.out])
        clear hst hjl q3
        go_wp2_with fail
        refine K.out.mono ?_
        rintro e w5 ⟨rfl, hb5⟩
        have z0 := (hb5.cell (p := ⟨X.heap.size, 0, none⟩) hq8).trans HZ0.out
        have hown5 := own_below HOY.out hb5 (Nat.le_refl _)
        have hsz5 : w.heap.size ≤ w5.heap.size := Nat.le_trans HBY.out.size hb5.size
        have HB5 := Lib.hid (HBY.out.trans (hb5.mono HBY.out.size))
        clear hb5
        go_wp2_with (at_builtin; refine append1 tRowVs tValuesInfo rfl (by omega) (by omega) rfl _ _ (by rfl) w.heap.size _ js.length _ [.slice A1 row.length p1] (by rfl) hown5 (by rfl) (by rfl) (by rfl) rfl (by simp [Value.oneCell']) (by omega) hsz5 ?_; intro v8 w8 hown8 hb8 _ _)
        go_roundw
        case rel => exact ⟨k + 1, js ++ [k], by go_num, Hlt.out, HR', Lib.hid (fun j hj => by
            rcases List.mem_append.1 hj with e | e
            · exact HJ.out j e
            · rw [List.mem_singleton.1 e]; exact Hlt.out), by simp; omega, Lib.hid (by
            rw [List.map_append, List.length_append]
            simp only [List.map_cons, List.map_nil, HSk.out]
            exact hown8), Lib.hid (HB5.out.trans hb8)⟩
        case measure => have := Hlt.out; simp [intOf]; omega
      · rw [q3] at hst K
        have HR' : Hid (rowsN F t (k + 1) = rowsJ F js) := Lib.hid (by rw [hst]; simp)
        clear hst hjl q3
        go_wp2_with fail
        refine K.out.mono ?_
        rintro e w5 ⟨rfl, hb5⟩
        have hown5 := Lib.hid (own_below HOY.out hb5 (Nat.le_refl _))
        have HB5 := Lib.hid (HBY.out.trans (hb5.mono HBY.out.size))
        clear hb5
        go_wp2_with fail
        go_roundw
        case rel => exact ⟨k + 1, js, by go_num, Hlt.out, HR', HJ, by omega, hown5, HB5⟩
        case measure => have := Hlt.out; simp [intOf]; omega
    · obtain rfl : k = F.length := by omega
      have hrv := HS.out _ HB.out js HJ.out _ HO.out
      obtain ⟨Ao, co, rfl, _, _⟩ := hrv.form
      have HRv : Hid (IsRv X (.slice Ao (rowsJ F js).length co) (rowsAt F t)) := Lib.hid ⟨_, by rw [show rowsAt F t = rowsJ F js from HR.out]; exact hrv⟩
      clear hrv
      go_wp2_with fail
      go_ret
      exact ⟨_, rfl, HRv.out, HB.out⟩
end Go.Proofs.YtohjgegnamcnlaaGreat
