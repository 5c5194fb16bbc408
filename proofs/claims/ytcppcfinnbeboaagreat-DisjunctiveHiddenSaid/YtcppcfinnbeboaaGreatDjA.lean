/- Law 47: when a network is valid, as the code and the reference say. -/
import Derived.Test.YtcppcfinnbeboaaGreatDjC
import Derived.Test.YtcppcfinnbeboaaGreatDjP
namespace Go.Proofs.YtcppcfinnbeboaaGreat
open Go.RowKit Go.Shelf

def nearB (x : Int) : Bool := decide (-1073741824 ≤ x) && decide (x ≤ 1073741824)
def spB (s : Sp) : Bool := nearB s.1 && nearB s.2 && decide (s.1 < s.2)
def choB (n : Int) (c : Cho) : Bool := decide (0 ≤ c.1) && decide (c.1 < n) && decide (0 ≤ c.2.1) && decide (c.2.1 < n) && decide (1 ≤ c.2.2.length) && decide (c.2.2.length ≤ 8) && c.2.2.all spB
def netB (n : Int) (l : List Cho) : Bool := decide (1 ≤ n) && decide (n ≤ 24) && decide (l.length ≤ 60) && l.all (choB n)
theorem all_of {α : Type} {l : List α} {p : α → Bool} {f : Nat → α} (hf : ∀ i (h : i < l.length), l[i] = f i) (h : ∀ i, i < l.length → p (f i) = true) : l.all p = true := by
  rw [List.all_eq_true]
  intro x hx
  obtain ⟨i, hi, rfl⟩ := List.getElem_of_mem hx
  rw [hf i hi]
  exact h i hi
theorem all_not {α : Type} {l : List α} {p : α → Bool} {f : Nat → α} (hf : ∀ i (h : i < l.length), l[i] = f i) {i : Nat} (hi : i < l.length) (h : p (f i) = false) : l.all p = false := by
  rw [Bool.eq_false_iff]
  intro h2
  have h3 := List.all_eq_true.1 h2 _ (List.getElem_mem hi)
  rw [hf i hi, h] at h3
  cases h3
theorem djnear_c (x : Int) (w : World) : Calls Tryz.prog 37 #[.int .i64 x] w (Ret w (.bool (nearB x))) := by
  unfold nearB
  cases h1 : decide (-1073741824 ≤ x) <;> cases h2 : decide (x ≤ 1073741824)
  all_goals
    go_enter Tryz.func37, Tryz.ntmps37
    go_wp2_with fail
    go_ret
    exact ⟨rfl, Below.refl _ _⟩
set_option maxRecDepth 100000 in
set_option maxHeartbeats 4000000 in
theorem djValid_c (n : Int) (v : Value) (l : List Cho) (w : World) (hs : IsChos w v l) : Calls Tryz.prog 18 #[.int .i64 n, v] w (Ret w (.bool (netB n l))) := by
  obtain ⟨S, hs⟩ := hs
  obtain ⟨A, c, rfl, hnc, hc⟩ := hs.form
  cases g0 : decide (n < 1)
  rotate_left
  · rw [show netB n l = false from by unfold netB; simp at g0; simp; omega]
    go_enter Tryz.func18, Tryz.ntmps18
    go_wp2_with fail
    go_ret
    exact ⟨rfl, Below.refl _ _⟩
  cases g1 : decide (24 < n)
  rotate_left
  · rw [show netB n l = false from by unfold netB; simp at g1; simp; omega]
    go_enter Tryz.func18, Tryz.ntmps18
    go_wp2_with fail
    go_ret
    exact ⟨rfl, Below.refl _ _⟩
  cases g2 : decide ((60 : Int) < (l.length : Int))
  rotate_left
  · rw [show netB n l = false from by unfold netB; simp at g2; simp; omega]
    go_enter Tryz.func18, Tryz.ntmps18
    go_wp2_with fail
    go_ret
    exact ⟨rfl, Below.refl _ _⟩
  have hw : ∀ b, l.all (choB n) = b → netB n l = b := fun b hb => by
    unfold netB
    simp at g0 g1 g2
    rw [hb, decide_eq_true (by omega), decide_eq_true (by omega), decide_eq_true (by omega)]
    simp
  have Hw := Lib.hid hw
  have Hs := Lib.hid hs
  have Hl := Lib.hid (show l.length ≤ 60 by simp at g2; omega)
  clear hw hs
  go_enter Tryz.func18, Tryz.ntmps18
  go_wp2_with fail
  go_loopw [22] (fun i wr => ∃ k : Nat, k ≤ l.length ∧ i = .int .i64 (k : Int) ∧ Hid (∀ j, j < k → choB n (cho l j) = true) ∧ Below w.heap.size w wr) (fun i _ => l.length - (intOf i).toNat)
  case atStart => exact ⟨0, Nat.zero_le _, rfl, Lib.hid (fun j hj => absurd hj (by omega)), Below.refl _ _⟩
  case round =>
    obtain ⟨k, hk, rfl, HA, hb⟩ := hrel
    rcases Nat.lt_or_ge k l.length with hlt | hge
    rotate_left
    · obtain rfl : k = l.length := by omega
      have HR := Lib.hid (Hw.out true (all_of (fun i h => cho_at h) HA.out))
      have k0 : decide ((l.length : Int) < (l.length : Int)) = false := decide_eq_false (by omega)
      go_wp2_with fail
      go_ret
      exact ⟨ret_bool HR.out.symm, hb⟩
    have k0 : decide ((k : Int) < (l.length : Int)) = true := decide_eq_true (by omega)
    have k1 : IntKind.i64.wrap ((k : Int) + 1) = (k : Int) + 1 := by rw [IntKind.wrap_i64]; have := Hl.out; omega
    have k2 : (0 : Int) ≤ (k : Int) := by omega
    have k3 : (k : Int) < (l.length : Int) := by omega
    have hsr := Hs.out.below hb
    obtain ⟨g, off, rfl, hbk⟩ := hsr.addr (by omega)
    have d0 := hsr.c0 k hlt
    have d1 := hsr.c1 k hlt
    have d2 := hsr.c2 k hlt
    have hsp := hsr.2 k hlt
    have hno : choB n (cho l k) = false → netB n l = false := fun h => Hw.out false (all_not (fun i h => cho_at h) hlt h)
    have hye : choB n (cho l k) = true → ∀ j, j < k + 1 → choB n (cho l j) = true := fun h j hj => by
      rcases Nat.eq_or_lt_of_le (show j ≤ k by omega) with e | e
      · rw [e]; exact h
      · exact HA.out j e
    generalize cho l k = y at d0 d1 d2 hsp hno hye
    generalize S k = sv at d2 hsp
    obtain ⟨c0, c1, sp⟩ := y
    simp only at d0 d1 d2 hsp
    obtain ⟨A1, cp, rfl, _, hcp⟩ := hsp.form
    have Hno := Lib.hid hno; have Hye := Lib.hid hye; have Hlt := Lib.hid hlt
    clear hno hye hsr hlt hbk
    cases q0 : decide (c0 < 0)
    rotate_left
    · have hcb : choB n (c0, c1, sp) = false := by unfold choB; simp at q0; simp; omega
      have Hn := Lib.hid (Hno.out hcb); have Hb := Lib.hid (hb.alloc hb.size (.cells #[.int .i64 c0, .int .i64 c1, .slice A1 sp.length cp] 31))
      clear hcb hb hsp
      go_wp2_with fail
      go_ret
      exact ⟨ret_bool Hn.out.symm, Hb.out⟩
    cases q1 : decide (n ≤ c0)
    rotate_left
    · have hcb : choB n (c0, c1, sp) = false := by unfold choB; simp at q1; simp; omega
      have Hn := Lib.hid (Hno.out hcb); have Hb := Lib.hid (hb.alloc hb.size (.cells #[.int .i64 c0, .int .i64 c1, .slice A1 sp.length cp] 31))
      clear hcb hb hsp
      go_wp2_with fail
      go_ret
      exact ⟨ret_bool Hn.out.symm, Hb.out⟩
    cases q2 : decide (c1 < 0)
    rotate_left
    · have hcb : choB n (c0, c1, sp) = false := by unfold choB; simp at q2; simp; omega
      have Hn := Lib.hid (Hno.out hcb); have Hb := Lib.hid (hb.alloc hb.size (.cells #[.int .i64 c0, .int .i64 c1, .slice A1 sp.length cp] 31))
      clear hcb hb hsp
      go_wp2_with fail
      go_ret
      exact ⟨ret_bool Hn.out.symm, Hb.out⟩
    cases q3 : decide (n ≤ c1)
    rotate_left
    · have hcb : choB n (c0, c1, sp) = false := by unfold choB; simp at q3; simp; omega
      have Hn := Lib.hid (Hno.out hcb); have Hb := Lib.hid (hb.alloc hb.size (.cells #[.int .i64 c0, .int .i64 c1, .slice A1 sp.length cp] 31))
      clear hcb hb hsp
      go_wp2_with fail
      go_ret
      exact ⟨ret_bool Hn.out.symm, Hb.out⟩
    cases q4 : decide ((sp.length : Int) < 1)
    rotate_left
    · have hcb : choB n (c0, c1, sp) = false := by unfold choB; simp at q4; simp; omega
      have Hn := Lib.hid (Hno.out hcb); have Hb := Lib.hid (hb.alloc hb.size (.cells #[.int .i64 c0, .int .i64 c1, .slice A1 sp.length cp] 31))
      clear hcb hb hsp
      go_wp2_with fail
      go_ret
      exact ⟨ret_bool Hn.out.symm, Hb.out⟩
    cases q5 : decide ((8 : Int) < (sp.length : Int))
    rotate_left
    · have hcb : choB n (c0, c1, sp) = false := by unfold choB; simp at q5; simp; omega
      have Hn := Lib.hid (Hno.out hcb); have Hb := Lib.hid (hb.alloc hb.size (.cells #[.int .i64 c0, .int .i64 c1, .slice A1 sp.length cp] 31))
      clear hcb hb hsp
      go_wp2_with fail
      go_ret
      exact ⟨ret_bool Hn.out.symm, Hb.out⟩
    have hcs : ∀ b, sp.all spB = b → choB n (c0, c1, sp) = b := fun b hb => by
      unfold choB
      simp at q0 q1 q2 q3 q4 q5
      simp only [hb]
      rw [decide_eq_true (by omega), decide_eq_true (by omega), decide_eq_true (by omega), decide_eq_true (by omega), decide_eq_true (by omega), decide_eq_true (by omega)]
      simp
    have Hcs := Lib.hid hcs
    have H8 := Lib.hid (show sp.length ≤ 8 by simp at q5; omega)
    obtain ⟨W, hW⟩ : ∃ y, y = wr.alloc (.cells #[.int .i64 c0, .int .i64 c1, .slice A1 sp.length cp] 31) := ⟨_, rfl⟩
    have hbW : Below w.heap.size w W := by rw [hW]; exact hb.alloc hb.size _
    have hspW : IsSpans W (.slice A1 sp.length cp) sp := by rw [hW]; exact hsp.alloc _
    have HW := Lib.hid hW; have HbW := Lib.hid hbW; have HspW := Lib.hid hspW
    clear hcs hW hbW hspW hb hsp
    go_wp2_with fail
    rw [← HW.out]
    clear d0 d1 d2
    go_loopw [61] (fun i wq => ∃ m : Nat, m ≤ sp.length ∧ i = .int .i64 (m : Int) ∧ Hid (∀ j, j < m → spB (fr sp j, tt sp j) = true) ∧ Below W.heap.size W wq) (fun i _ => sp.length - (intOf i).toNat)
    case atStart => exact ⟨0, Nat.zero_le _, rfl, Lib.hid (fun j hj => absurd hj (by omega)), Below.refl _ _⟩
    case round =>
      obtain ⟨m, hm, rfl, HM, hbm⟩ := hrel
      rcases Nat.lt_or_ge m sp.length with hml | hml
      rotate_left
      · obtain rfl : m = sp.length := by omega
        have HR := Lib.hid (Hye.out (Hcs.out true (all_of (fun i h => sp_at sp i h) HM.out)))
        have m0 : decide ((sp.length : Int) < (sp.length : Int)) = false := decide_eq_false (by omega)
        have Hbm := Lib.hid (HbW.out.trans (hbm.mono HbW.out.size))
        clear hbm
        go_wp2_with fail
        go_roundw
        case rel => exact ⟨k + 1, Hlt.out, by go_num, HR, Hbm.out⟩
        case measure => have := Hlt.out; simp [intOf]; omega
      have m0 : decide ((m : Int) < (sp.length : Int)) = true := decide_eq_true (by omega)
      have m1 : IntKind.i64.wrap ((m : Int) + 1) = (m : Int) + 1 := by rw [IntKind.wrap_i64]; have := H8.out; omega
      have m2 : (0 : Int) ≤ (m : Int) := by omega
      have m3 : (m : Int) < (sp.length : Int) := by omega
      have hsm := HspW.out.below hbm
      obtain ⟨g2, off2, rfl, _⟩ := hsm.addr (by omega)
      have f0 := hsm.c0 m hml
      have f1 := hsm.c1 m hml
      have hsn : spB (fr sp m, tt sp m) = false → netB n l = false := fun h => Hno.out (Hcs.out false (all_not (fun i h => sp_at sp i h) hml h))
      have hsy : spB (fr sp m, tt sp m) = true → ∀ j, j < m + 1 → spB (fr sp j, tt sp j) = true := fun h j hj => by
        rcases Nat.eq_or_lt_of_le (show j ≤ m by omega) with e | e
        · rw [e]; exact h
        · exact HM.out j e
      generalize fr sp m = x0 at f0 hsn hsy
      generalize tt sp m = x1 at f1 hsn hsy
      have Hml := Lib.hid hml
      have hT := heap_alloc_new wr (.cells #[.int .i64 x0, .int .i64 x1] 48)
      have hbT := hbm.alloc hbm.size (.cells #[.int .i64 x0, .int .i64 x1] 48)
      have HT := Lib.hid hT; have HbT := Lib.hid hbT
      clear hsm hbm hml hT hbT
      cases r0 : nearB x0
      · have HR := Lib.hid (hsn (by unfold spB; simp [r0]))
        clear hsn hsy
        go_wp2_with fail
        refine (djnear_c x0 _).mono ?_
        rw [r0]
        rintro e w3 ⟨rfl, hb3⟩
        have Hb3 := Lib.hid (HbW.out.trans ((HbT.out.trans (hb3.mono HbT.out.size)).mono HbW.out.size))
        clear hb3
        go_wp2_with fail
        go_ret
        exact ⟨ret_bool HR.out.symm, Hb3.out⟩
      cases r1 : nearB x1
      · have HR := Lib.hid (hsn (by unfold spB; simp [r1]))
        clear hsn hsy
        go_wp2_with fail
        refine (djnear_c x0 _).mono ?_
        rw [r0]
        rintro e w3 ⟨rfl, hb3⟩
        have hT3 := (hb3.block _ (blk_lt HT.out)).trans HT.out
        have s0 := blk_get hT3 0
        have s1 := blk_get hT3 1
        simp at s0 s1
        have Hb3 := Lib.hid (HbT.out.trans (hb3.mono HbT.out.size))
        clear hb3 hT3
        go_wp2_with fail
        refine (djnear_c x1 _).mono ?_
        rw [r1]
        rintro e w4 ⟨rfl, hb4⟩
        have Hb4 := Lib.hid (HbW.out.trans ((Hb3.out.trans (hb4.mono Hb3.out.size)).mono HbW.out.size))
        clear hb4 s0 s1
        go_wp2_with fail
        go_ret
        exact ⟨ret_bool HR.out.symm, Hb4.out⟩
      cases r2 : decide (x1 ≤ x0)
      all_goals
        have HR := Lib.hid hsn; have HY := Lib.hid hsy
        clear hsn hsy
        go_wp2_with fail
        refine (djnear_c x0 _).mono ?_
        rw [r0]
        rintro e w3 ⟨rfl, hb3⟩
        have hT3 := (hb3.block _ (blk_lt HT.out)).trans HT.out
        have s0 := blk_get hT3 0
        have s1 := blk_get hT3 1
        simp at s0 s1
        have HT3 := Lib.hid hT3
        have Hb3 := Lib.hid (HbT.out.trans (hb3.mono HbT.out.size))
        clear hb3 hT3
        go_wp2_with fail
        refine (djnear_c x1 _).mono ?_
        rw [r1]
        rintro e w4 ⟨rfl, hb4⟩
        have hT4 := (hb4.block _ (blk_lt HT3.out)).trans HT3.out
        clear s0 s1
        have s0 := blk_get hT4 0
        have s1 := blk_get hT4 1
        simp at s0 s1
        have Hb4 := Lib.hid (Hb3.out.trans (hb4.mono Hb3.out.size))
        clear hb4 hT4
        go_wp2_with fail
      · go_roundw
        case rel => exact ⟨m + 1, Hml.out, by go_num, Lib.hid (HY.out (by unfold spB; simp [r0, r1]; simp at r2; exact r2)), Hb4.out⟩
        case measure => have := Hml.out; simp [intOf]; omega
      · go_ret
        exact ⟨ret_bool (HR.out (by unfold spB; simp [r0, r1]; simp at r2; exact r2)).symm, HbW.out.trans (Hb4.out.mono HbW.out.size)⟩
end Go.Proofs.YtcppcfinnbeboaaGreat
