/- Law 47: when a network is valid, as the reference says. -/
import Derived.Test.YtcppcfinnbeboaaGreatDjJ
import Derived.BigQuiet
namespace Go.Proofs.YtcppcfinnbeboaaGreat
open Go.RowKit Go.Shelf

theorem below_dnL {b : Nat} {w w' : World} (h : Below b w w') (n : Nat) : Below b w (w'.drewN n) := by
  obtain ⟨h1, h2, h3, h4, h5⟩ := h
  exact ⟨h1, h2, h3, h4, h5⟩
set_option maxRecDepth 100000 in
set_option maxHeartbeats 4000000 in
theorem r47Valid_c (n : Int) (v : Value) (l : List Cho) (w : World) (hs : IsChos w v l) : Calls Tryz.prog 19 #[.int .i64 n, v] w (Ret w (.bool (netB n l))) := by
  obtain ⟨S, hs⟩ := hs
  obtain ⟨A, c, rfl, hnc, hc⟩ := hs.form
  cases g0 : decide (n < 1)
  rotate_left
  · rw [show netB n l = false from by unfold netB; simp at g0; simp; omega]
    go_enter Tryz.func19, Tryz.ntmps19
    go_wp2_with fail
    go_ret
    exact ⟨rfl, Below.refl _ _⟩
  cases g1 : decide (24 < n)
  rotate_left
  · rw [show netB n l = false from by unfold netB; simp at g1; simp; omega]
    go_enter Tryz.func19, Tryz.ntmps19
    go_wp2_with fail
    go_ret
    exact ⟨rfl, Below.refl _ _⟩
  cases g2 : decide ((60 : Int) < (l.length : Int))
  rotate_left
  · rw [show netB n l = false from by unfold netB; simp at g2; simp; omega]
    go_enter Tryz.func19, Tryz.ntmps19
    go_wp2_with fail
    go_ret
    exact ⟨rfl, Below.refl _ _⟩
  have hw : ∀ b, l.all (choB n) = b → netB n l = b := fun b hb => by
    unfold netB
    simp at g0 g1 g2
    rw [hb, decide_eq_true (by omega), decide_eq_true (by omega), decide_eq_true (by omega)]
    simp
  have Hw := Lib.hid hw
  have Hs := Lib.hid hs
  have Hl := Lib.hid (show l.length ≤ 60 by simp at g2; omega)
  clear hw hs
  go_enter Tryz.func19, Tryz.ntmps19
  go_wp2_with fail
  go_loopw [5] (fun i wr => ∃ k : Nat, k ≤ l.length ∧ i = .int .i64 (k : Int) ∧ Hid (∀ j, j < k → choB n (cho l j) = true) ∧ Below w.heap.size w wr) (fun i _ => l.length - (intOf i).toNat)
  case atStart => exact ⟨0, Nat.zero_le _, rfl, Lib.hid (fun j hj => absurd hj (by omega)), Below.refl _ _⟩
  case round =>
    obtain ⟨k, hk, rfl, HA, hb⟩ := hrel
    rcases Nat.lt_or_ge k l.length with hlt | hge
    rotate_left
    · obtain rfl : k = l.length := by omega
      have HR := Lib.hid (Hw.out true (all_of (fun i h => cho_at h) HA.out))
      have k0 : decide ((l.length : Int) < (l.length : Int)) = false := decide_eq_false (by omega)
      go_wp2_with fail
      go_ret
      exact ⟨ret_bool HR.out.symm, hb⟩
    have k0 : decide ((k : Int) < (l.length : Int)) = true := decide_eq_true (by omega)
    have k1 : IntKind.i64.wrap ((k : Int) + 1) = (k : Int) + 1 := by rw [IntKind.wrap_i64]; have := Hl.out; omega
    have k2 : (0 : Int) ≤ (k : Int) := by omega
    have k3 : (k : Int) < (l.length : Int) := by omega
    have hsr := Hs.out.below hb
    obtain ⟨g, off, rfl, hbk⟩ := hsr.addr (by omega)
    have d0 := hsr.c0 k hlt
    have d1 := hsr.c1 k hlt
    have d2 := hsr.c2 k hlt
    have hsp := hsr.2 k hlt
    have hno : choB n (cho l k) = false → netB n l = false := fun h => Hw.out false (all_not (fun i h => cho_at h) hlt h)
    have hye : choB n (cho l k) = true → ∀ j, j < k + 1 → choB n (cho l j) = true := fun h j hj => by
      rcases Nat.eq_or_lt_of_le (show j ≤ k by omega) with e | e
      · rw [e]; exact h
      · exact HA.out j e
    generalize cho l k = y at d0 d1 d2 hsp hno hye
    generalize S k = sv at d2 hsp
    obtain ⟨c0, c1, sp⟩ := y
    simp only at d0 d1 d2 hsp
    obtain ⟨A1, cp, rfl, _, hcp⟩ := hsp.form
    have Hno := Lib.hid hno; have Hye := Lib.hid hye; have Hlt := Lib.hid hlt
    clear hno hye hsr hlt hbk
    cases q0 : decide (c0 < 0)
    rotate_left
    · have hcb : choB n (c0, c1, sp) = false := by unfold choB; simp at q0; simp; omega
      have Hn := Lib.hid (Hno.out hcb); have Hb := Lib.hid (hb.alloc hb.size (.cells #[.int .i64 c0, .int .i64 c1, .slice A1 sp.length cp] 31))
      clear hcb hb hsp
      go_wp2_with fail
      go_ret
      exact ⟨ret_bool Hn.out.symm, Hb.out⟩
    cases q1 : decide (n ≤ c0)
    rotate_left
    · have hcb : choB n (c0, c1, sp) = false := by unfold choB; simp at q1; simp; omega
      have Hn := Lib.hid (Hno.out hcb); have Hb := Lib.hid (hb.alloc hb.size (.cells #[.int .i64 c0, .int .i64 c1, .slice A1 sp.length cp] 31))
      clear hcb hb hsp
      go_wp2_with fail
      go_ret
      exact ⟨ret_bool Hn.out.symm, Hb.out⟩
    cases q2 : decide (c1 < 0)
    rotate_left
    · have hcb : choB n (c0, c1, sp) = false := by unfold choB; simp at q2; simp; omega
      have Hn := Lib.hid (Hno.out hcb); have Hb := Lib.hid (hb.alloc hb.size (.cells #[.int .i64 c0, .int .i64 c1, .slice A1 sp.length cp] 31))
      clear hcb hb hsp
      go_wp2_with fail
      go_ret
      exact ⟨ret_bool Hn.out.symm, Hb.out⟩
    cases q3 : decide (n ≤ c1)
    rotate_left
    · have hcb : choB n (c0, c1, sp) = false := by unfold choB; simp at q3; simp; omega
      have Hn := Lib.hid (Hno.out hcb); have Hb := Lib.hid (hb.alloc hb.size (.cells #[.int .i64 c0, .int .i64 c1, .slice A1 sp.length cp] 31))
      clear hcb hb hsp
      go_wp2_with fail
      go_ret
      exact ⟨ret_bool Hn.out.symm, Hb.out⟩
    cases q4 : decide ((sp.length : Int) < 1)
    rotate_left
    · have hcb : choB n (c0, c1, sp) = false := by unfold choB; simp at q4; simp; omega
      have Hn := Lib.hid (Hno.out hcb); have Hb := Lib.hid (hb.alloc hb.size (.cells #[.int .i64 c0, .int .i64 c1, .slice A1 sp.length cp] 31))
      clear hcb hb hsp
      go_wp2_with fail
      go_ret
      exact ⟨ret_bool Hn.out.symm, Hb.out⟩
    cases q5 : decide ((8 : Int) < (sp.length : Int))
    rotate_left
    · have hcb : choB n (c0, c1, sp) = false := by unfold choB; simp at q5; simp; omega
      have Hn := Lib.hid (Hno.out hcb); have Hb := Lib.hid (hb.alloc hb.size (.cells #[.int .i64 c0, .int .i64 c1, .slice A1 sp.length cp] 31))
      clear hcb hb hsp
      go_wp2_with fail
      go_ret
      exact ⟨ret_bool Hn.out.symm, Hb.out⟩
    have hcs : ∀ b, sp.all spB = b → choB n (c0, c1, sp) = b := fun b hb => by
      unfold choB
      simp at q0 q1 q2 q3 q4 q5
      simp only [hb]
      rw [decide_eq_true (by omega), decide_eq_true (by omega), decide_eq_true (by omega), decide_eq_true (by omega), decide_eq_true (by omega), decide_eq_true (by omega)]
      simp
    have Hcs := Lib.hid hcs
    have H8 := Lib.hid (show sp.length ≤ 8 by simp at q5; omega)
    obtain ⟨W, hW⟩ : ∃ y, y = wr.alloc (.cells #[.int .i64 c0, .int .i64 c1, .slice A1 sp.length cp] 31) := ⟨_, rfl⟩
    have hbW : Below w.heap.size w W := by rw [hW]; exact hb.alloc hb.size _
    have hspW : IsSpans W (.slice A1 sp.length cp) sp := by rw [hW]; exact hsp.alloc _
    have hTW : W.heap[wr.heap.size]? = some (.cells #[.int .i64 c0, .int .i64 c1, .slice A1 sp.length cp] 31 (0, 0)) := by rw [hW]; exact heap_alloc_new wr _
    obtain ⟨b6, hb6⟩ : ∃ y, y = wr.heap.size := ⟨_, rfl⟩
    rw [← hb6] at hTW
    have FT : Hid (∀ X, Below W.heap.size W X → X.cell? ⟨b6, 2, none⟩ = some (.slice A1 sp.length cp)) := Lib.hid fun X h => blk_get ((h.block _ (blk_lt hTW)).trans hTW) 2
    have HW := Lib.hid hW; have HbW := Lib.hid hbW; have HspW := Lib.hid hspW; have Hb6 := Lib.hid hb6
    clear hcs hW hbW hspW hb hsp hTW hb6
    go_wp2_with fail
    rw [← HW.out, ← Hb6.out]
    clear d0 d1 d2
    go_loopw [7] (fun i wq => ∃ m : Nat, m ≤ sp.length ∧ i = .int .i64 (m : Int) ∧ Hid (∀ j, j < m → spB (fr sp j, tt sp j) = true) ∧ Below W.heap.size W wq) (fun i _ => sp.length - (intOf i).toNat)
    case atStart => exact ⟨0, Nat.zero_le _, rfl, Lib.hid (fun j hj => absurd hj (by omega)), Below.refl _ _⟩
    case round =>
      obtain ⟨m, hm, rfl, HM, hbm⟩ := hrel
      rcases Nat.lt_or_ge m sp.length with hml | hml
      rotate_left
      · obtain rfl : m = sp.length := by omega
        have HR := Lib.hid (Hye.out (Hcs.out true (all_of (fun i h => sp_at sp i h) HM.out)))
        have m0 : decide ((sp.length : Int) < (sp.length : Int)) = false := decide_eq_false (by omega)
        have u2 := FT.out _ hbm
        have Hbm := Lib.hid (HbW.out.trans (hbm.mono HbW.out.size))
        clear hbm
        go_wp2_with fail
        go_roundw
        case rel => exact ⟨k + 1, Hlt.out, by go_num, HR, Hbm.out⟩
        case measure => have := Hlt.out; simp [intOf]; omega
      have m0 : decide ((m : Int) < (sp.length : Int)) = true := decide_eq_true (by omega)
      have m1 : IntKind.i64.wrap ((m : Int) + 1) = (m : Int) + 1 := by rw [IntKind.wrap_i64]; have := H8.out; omega
      have m2 : (0 : Int) ≤ (m : Int) := by omega
      have m3 : (m : Int) < (sp.length : Int) := by omega
      have hsm := HspW.out.below hbm
      obtain ⟨g2, off2, rfl, _⟩ := hsm.addr (by omega)
      have f0 := hsm.c0 m hml
      have f1 := hsm.c1 m hml
      have hsn : spB (fr sp m, tt sp m) = false → netB n l = false := fun h => Hno.out (Hcs.out false (all_not (fun i h => sp_at sp i h) hml h))
      have hsy : spB (fr sp m, tt sp m) = true → ∀ j, j < m + 1 → spB (fr sp j, tt sp j) = true := fun h j hj => by
        rcases Nat.eq_or_lt_of_le (show j ≤ m by omega) with e | e
        · rw [e]; exact h
        · exact HM.out j e
      generalize fr sp m = x0 at f0 hsn hsy
      generalize tt sp m = x1 at f1 hsn hsy
      have Hml := Lib.hid hml
      have Hbm := Lib.hid hbm; have HsnI := Lib.hid hsn; have HsyI := Lib.hid hsy
      have hd3 := FT.out _ hbm
      clear hsm hbm hml hsn hsy
      cases r0 : decide (x0 < -1073741824)
      rotate_left
      · have HR := Lib.hid (HsnI.out (by unfold spB nearB; simp at r0; simp; omega))
        go_wp2_with fail
        go_quiet (fail)
        go_wp2_with fail
        go_ret
        exact ⟨ret_bool HR.out.symm, HbW.out.trans ((below_dnL Hbm.out _).mono HbW.out.size)⟩
      cases r1 : decide (x1 ≤ x0)
      rotate_left
      · have HR := Lib.hid (HsnI.out (by unfold spB nearB; simp at r1; simp; omega))
        go_wp2_with fail
        go_quiet (fail)
        go_wp2_with fail
        go_ret
        exact ⟨ret_bool HR.out.symm, HbW.out.trans ((below_dnL Hbm.out _).mono HbW.out.size)⟩
      cases r2 : decide (1073741824 < x1)
      rotate_left
      · have HR := Lib.hid (HsnI.out (by unfold spB nearB; simp at r2; simp; omega))
        go_wp2_with fail
        go_quiet (fail)
        go_wp2_with fail
        go_ret
        exact ⟨ret_bool HR.out.symm, HbW.out.trans ((below_dnL Hbm.out _).mono HbW.out.size)⟩
      have HY := Lib.hid (HsyI.out (by unfold spB nearB; simp at r0 r1 r2; simp; omega))
      go_wp2_with fail
      go_quiet (fail)
      go_wp2_with fail
      go_roundw
      case rel => exact ⟨m + 1, Hml.out, by go_num, HY, below_dnL Hbm.out _⟩
      case measure => have := Hml.out; simp [intOf]; omega
end Go.Proofs.YtcppcfinnbeboaaGreat
