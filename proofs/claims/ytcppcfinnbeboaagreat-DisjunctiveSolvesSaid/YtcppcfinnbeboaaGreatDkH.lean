/- Law 47: the reference's Holds. -/
import Derived.Test.YtcppcfinnbeboaaGreatDjL
namespace Go.Proofs.YtcppcfinnbeboaaGreat
open Go.RowKit Go.Shelf

def anyTo (d : Int) (sp : List Sp) (m : Nat) : Bool := (List.range m).any fun j => inSp d (fr sp j, tt sp j)
theorem anyTo_succ (d : Int) (sp : List Sp) (m : Nat) : anyTo d sp (m + 1) = (anyTo d sp m || inSp d (fr sp m, tt sp m)) := any_range_succ _ m
theorem anyTo_all (d : Int) (sp : List Sp) : anyTo d sp sp.length = sp.any (inSp d) := by
  rw [Bool.eq_iff_iff]
  unfold anyTo
  rw [List.any_eq_true, List.any_eq_true]
  constructor
  · rintro ⟨j, hj, h⟩
    have hj := List.mem_range.1 hj
    exact ⟨sp[j], List.getElem_mem hj, by rw [sp_at sp j hj]; exact h⟩
  · rintro ⟨s, hs, h⟩
    obtain ⟨j, hj, rfl⟩ := List.getElem_of_mem hs
    exact ⟨j, List.mem_range.2 hj, by rw [← sp_at sp j hj]; exact h⟩
set_option maxRecDepth 100000 in
set_option maxHeartbeats 8000000 in
theorem r47Holds_c (v u : Value) (l : List Cho) (ts : List Int) (w : World) (hs : IsChos w v l) (ha : IsInts w u ts) : Calls Tryz.prog 20 #[v, u] w (Ret w (.bool (holdsB l ts))) := by
  have KV : Hid (∀ X, Below w.heap.size w X → Calls Tryz.prog 19 #[.int .i64 (ts.length : Int), v] X (Ret X (.bool (netB (ts.length : Int) l)))) := Lib.hid fun X h => r47Valid_c _ v l X (hs.below h)
  obtain ⟨At, ct, rfl, _, hct⟩ := ha.form
  obtain ⟨S, hs⟩ := hs
  obtain ⟨Al, cl, rfl, _, _⟩ := hs.form
  rcases Nat.eq_zero_or_pos ts.length with h0 | h0
  · have e : holdsB l ts = false := by unfold holdsB; rw [h0]; rfl
    rw [e]
    have n0 : decide ((ts.length : Int) < 1) = true := decide_eq_true (by omega)
    clear hs ha KV e h0
    go_enter Tryz.func20, Tryz.ntmps20
    go_wp2_with fail
    go_ret
    exact ⟨rfl, Below.refl _ _⟩
  have n0 : decide ((ts.length : Int) < 1) = false := decide_eq_false (by omega)
  have s1 : 0 < ts.length := h0
  have s0 : (0 : Int) < (ts.length : Int) := by omega
  have s2 : ¬ ts = [] := fun h => by rw [h] at s1; cases s1
  have Ha := Lib.hid ha; have Hs := Lib.hid hs
  obtain ⟨bt, ot, rfl, hbt⟩ := ha.addr h0
  have FT0 : Hid (∀ X, Below w.heap.size w X → X.cell? ⟨bt, ot, none⟩ = some (.int .i64 (iv ts 0))) := Lib.hid fun X h => by
    have := (ha.below h).c0 0 h0
    simpa only [Nat.add_zero, Nat.zero_mul] using this
  have e1 : holdsB l ts = ((iv ts 0 == 0) && netB (ts.length : Int) l && !ts.any farB && l.all (satB ts)) := by unfold holdsB; rw [decide_eq_true (show 1 ≤ ts.length from h0), Bool.true_and]
  cases q1 : netB (ts.length : Int) l
  · rw [e1, q1]
    rw [q1] at KV
    clear hs ha e1 h0 q1
    go_enter Tryz.func20, Tryz.ntmps20
    go_wp2_with fail
    refine (KV.out _ (Below.refl _ _)).mono ?_
    rintro e w1 ⟨rfl, hb⟩
    go_wp2_with fail
    go_ret
    exact ⟨by simp, hb⟩
  cases q0 : iv ts 0 == 0
  · have q0' : (iv ts 0 != 0) = true := by rw [bne, q0]; rfl
    rw [e1, q1, q0]
    rw [q1] at KV
    clear hs ha e1 h0 q1
    generalize iv ts 0 = t0 at *
    go_enter Tryz.func20, Tryz.ntmps20
    go_wp2_with fail
    refine (KV.out _ (Below.refl _ _)).mono ?_
    rintro e w1 ⟨rfl, hb⟩
    have c0 := FT0.out _ hb
    go_wp2_with fail
    go_ret
    exact ⟨by simp, hb⟩
  have q0' : (iv ts 0 != 0) = false := by rw [bne, q0]; rfl
  have hn : (ts.length : Int) ≤ 24 ∧ l.length ≤ 60 ∧ ∀ i, i < l.length → ChoN (ts.length : Int) (cho l i) := by
    unfold netB at q1
    simp only [Bool.and_eq_true, decide_eq_true_eq] at q1
    exact ⟨q1.1.1.2, q1.1.2, fun i hi => choB_N (List.all_eq_true.1 q1.2 _ (cho_mem hi))⟩
  rw [q1, q0] at e1
  rw [q1] at KV
  simp only [Bool.true_and] at e1
  have E1 := Lib.hid e1; have Hn := Lib.hid hn
  have Hbt := Lib.hid hbt
  clear e1 hn q1 hs ha h0 hbt
  rw [E1.out]
  have q0v : Hid (iv ts 0 = 0) := Lib.hid (by simpa using q0)
  clear q0
  obtain ⟨t0, ht0⟩ : ∃ y, y = iv ts 0 := ⟨_, rfl⟩
  rw [← ht0] at FT0 q0'
  clear ht0 q0v
  go_enter Tryz.func20, Tryz.ntmps20
  go_wp2_with fail
  refine (KV.out _ (Below.refl _ _)).mono ?_
  rintro e w1 ⟨rfl, hb1⟩
  have c0 := FT0.out _ hb1
  go_wp2_with fail
  have Hb1 := Lib.hid hb1
  clear c0 hb1 q0' n0
  go_loopw [5] (fun i wr => ∃ k : Nat, i = .int .i64 (k : Int) ∧ k ≤ ts.length ∧ Hid (∀ j, j < k → farB (iv ts j) = false) ∧ Below w.heap.size w wr) (fun i _ => ts.length - (intOf i).toNat)
  case atStart => exact ⟨0, rfl, Nat.zero_le _, Lib.hid (fun j hj => absurd hj (by omega)), Hb1.out⟩
  case round =>
    obtain ⟨k, rfl, hk, HA, hb⟩ := hrel
    rcases Nat.lt_or_ge k ts.length with hlt | hge
    · have k0 : decide ((k : Int) < (ts.length : Int)) = true := decide_eq_true (by omega)
      have k1 : IntKind.i64.wrap ((k : Int) + 1) = (k : Int) + 1 := by rw [IntKind.wrap_i64]; have := Hn.out.1; omega
      have k2 : (0 : Int) ≤ (k : Int) := by omega
      have k3 : (k : Int) < (ts.length : Int) := by omega
      have ck := (Ha.out.below hb).c0 k hlt
      have hfd : farB (iv ts k) = true → (!ts.any farB && l.all (satB ts)) = false := fun h => by rw [any_yes47 (fun i h => iv_at47 h) hlt h]; rfl
      have hst : farB (iv ts k) = false → ∀ j, j < k + 1 → farB (iv ts j) = false := fun h j hj => by
        rcases Nat.eq_or_lt_of_le (show j ≤ k by omega) with e | e
        · rw [e]; exact h
        · exact HA.out j e
      unfold farB at hfd hst
      obtain ⟨t, ht⟩ : ∃ y, y = iv ts k := ⟨_, rfl⟩
      rw [← ht] at ck hfd hst
      clear ht
      have Hlt := Lib.hid hlt
      cases g1 : decide (t < -4398046511104)
      · cases g2 : decide (4398046511104 < t)
        · rw [g1, g2] at hst
          have HR := Lib.hid (hst rfl)
          clear hst hfd hlt
          go_wp2_with fail
          go_roundw
          case rel => exact ⟨k + 1, by go_num, Hlt.out, HR, hb⟩
          case measure => have := Hlt.out; simp [intOf]; omega
        · rw [g1, g2] at hfd
          have HR := Lib.hid (hfd rfl)
          clear hst hfd hlt
          go_wp2_with fail
          go_ret
          exact ⟨ret_bool HR.out.symm, hb⟩
      · rw [g1] at hfd
        have HR := Lib.hid (hfd rfl)
        clear hst hfd hlt
        go_wp2_with fail
        go_ret
        exact ⟨ret_bool HR.out.symm, hb⟩
    obtain rfl : k = ts.length := by omega
    have HF : Hid (ts.any farB = false) := Lib.hid (any_no47 (fun i h => iv_at47 h) HA.out)
    have k0 : decide ((ts.length : Int) < (ts.length : Int)) = false := decide_eq_false (by omega)
    have HT : Hid (∀ j, j < ts.length → -4398046511104 ≤ iv ts j ∧ iv ts j ≤ 4398046511104) := Lib.hid fun j hj => by
      have h5 := HA.out j hj
      unfold farB at h5
      simp only [Bool.or_eq_false_iff, decide_eq_false_iff_not] at h5
      omega
    have HFt : Hid (∀ r, l.all (satB ts) = r → (!ts.any farB && l.all (satB ts)) = r) := Lib.hid fun r h => by rw [HF.out, h]; rfl
    have Hb := Lib.hid hb
    clear hb HA hge hk Hb1
    go_wp2_with fail
    clear k0
    go_loopw [6] (fun i wr => ∃ k : Nat, i = .int .i64 (k : Int) ∧ k ≤ l.length ∧ Hid (∀ j, j < k → satB ts (cho l j) = true) ∧ Below w.heap.size w wr) (fun i _ => l.length - (intOf i).toNat)
    case atStart => exact ⟨0, rfl, Nat.zero_le _, Lib.hid (fun j hj => absurd hj (by omega)), Hb.out⟩
    case round =>
      obtain ⟨k, rfl, hk, HA, hb⟩ := hrel
      rcases Nat.lt_or_ge k l.length with hlt | hge
      rotate_left
      · obtain rfl : k = l.length := by omega
        have k0 : decide ((l.length : Int) < (l.length : Int)) = false := decide_eq_false (by omega)
        have HR := Lib.hid (HFt.out _ (all_of (p := satB ts) (fun i h => cho_at h) HA.out))
        go_wp2_with fail
        go_ret
        exact ⟨ret_bool HR.out.symm, hb⟩
      have k0 : decide ((k : Int) < (l.length : Int)) = true := decide_eq_true (by omega)
      have k1 : IntKind.i64.wrap ((k : Int) + 1) = (k : Int) + 1 := by rw [IntKind.wrap_i64]; have := Hn.out.2.1; omega
      have k2 : (0 : Int) ≤ (k : Int) := by omega
      have k3 : (k : Int) < (l.length : Int) := by omega
      have hsr := Hs.out.below hb
      obtain ⟨g, off, rfl, hbk⟩ := hsr.addr (by omega)
      have hcv := Hn.out.2.2 k hlt
      have hsp := hsr.2 k hlt
      have hno : satB ts (cho l k) = false → l.all (satB ts) = false := fun h => all_not (fun i h => cho_at h) hlt h
      have hye : satB ts (cho l k) = true → ∀ j, j < k + 1 → satB ts (cho l j) = true := fun h j hj => by
        rcases Nat.eq_or_lt_of_le (show j ≤ k by omega) with e | e
        · rw [e]; exact h
        · exact HA.out j e
      have hF : ∀ X, Below w.heap.size w X → X.cell? ⟨g, off + k * 3, none⟩ = some (.int .i64 (cho l k).1) ∧ X.cell? ⟨g, off + k * 3 + 1, none⟩ = some (.int .i64 (cho l k).2.1) ∧ X.cell? ⟨g, off + k * 3 + 2, none⟩ = some (S k) ∧ IsSpans X (S k) (cho l k).2.2 := fun X h => ⟨(Hs.out.below h).c0 k hlt, (Hs.out.below h).c1 k hlt, (Hs.out.below h).c2 k hlt, (Hs.out.below h).2 k hlt⟩
      generalize cho l k = y at hcv hno hye hF hsp
      generalize S k = sv at hF hsp
      obtain ⟨I0, J0, sp⟩ := y
      unfold ChoN at hcv
      simp only at hF hcv hsp
      obtain ⟨v0, v1, v2, v3, v4, v5, v6⟩ := hcv
      obtain ⟨A1, cp, rfl, _, _⟩ := hsp.form
      obtain ⟨p, rfl⟩ : ∃ p : Nat, I0 = (p : Int) := ⟨I0.toNat, by omega⟩
      obtain ⟨q, rfl⟩ : ∃ q : Nat, J0 = (q : Int) := ⟨J0.toNat, by omega⟩
      have hp : p < ts.length := by omega
      have hq : q < ts.length := by omega
      have cp1 := (Ha.out.below hb).c0 p hp
      have cq1 := (Ha.out.below hb).c0 q hq
      obtain ⟨d0, d1, d2, _⟩ := hF _ hb
      have e1 := HT.out p hp
      have e2 := HT.out q hq
      have hsat : satB ts ((p : Int), (q : Int), sp) = sp.any (inSp (iv ts q - iv ts p)) := rfl
      rw [hsat] at hno hye
      have w1 : IntKind.i64.wrap (iv ts q - iv ts p) = iv ts q - iv ts p := by rw [IntKind.wrap_i64]; omega
      have p0 : (p : Int) < (ts.length : Int) := by omega
      have p1 : (0 : Int) ≤ (p : Int) := by omega
      have r0 : (q : Int) < (ts.length : Int) := by omega
      have r1 : (0 : Int) ≤ (q : Int) := by omega
      have HFc := Lib.hid hF; have Hlt := Lib.hid hlt; have H8 := Lib.hid v5; have Hno := Lib.hid hno; have Hye := Lib.hid hye; have Hb := Lib.hid hb
      clear hF hno hye v0 v1 v2 v3 v4 v5 v6 hsr hsp hbk e1 e2 hsat hlt hb hk hp hq
      go_wp2_with fail
      go_quiet (fail)
      obtain ⟨d, hd⟩ : ∃ d, d = iv ts q - iv ts p := ⟨_, rfl⟩
      rw [← hd] at Hno Hye ⊢
      clear d0 d1 d2 cp1 cq1 w1 p0 p1 r0 r1 hd
      go_wp2_with fail
      go_loopw [8, 9] (fun o i wr => ∃ (m : Nat), m ≤ sp.length ∧ i = .int .i64 (m : Int) ∧ o = .bool (anyTo d sp m) ∧ Below w.heap.size w wr) (fun _ i _ => sp.length - (intOf i).toNat)
      case atStart => exact ⟨0, Nat.zero_le _, rfl, rfl, below_dnL Hb.out _⟩
      case round =>
        obtain ⟨m, hm, rfl, rfl, hbm⟩ := hrel
        obtain ⟨d0, d1, d2, hsm⟩ := HFc.out _ hbm
        rcases Nat.lt_or_ge m sp.length with hml | hml
        rotate_left
        · obtain rfl : m = sp.length := by omega
          have m0 : decide ((sp.length : Int) < (sp.length : Int)) = false := decide_eq_false (by omega)
          rw [anyTo_all]
          have Hbm := Lib.hid hbm
          clear hbm hsm hm hml
          cases hr : sp.any (inSp d)
          · have HR := Lib.hid (HFt.out _ (Hno.out hr))
            go_wp2_with fail
            go_ret
            exact ⟨ret_bool HR.out.symm, Hbm.out⟩
          · have HR := Lib.hid (Hye.out hr)
            go_wp2_with fail
            go_roundw
            case rel => exact ⟨k + 1, by go_num, Hlt.out, HR, Hbm.out⟩
            case measure => have := Hlt.out; simp [intOf]; omega
        have m0 : decide ((m : Int) < (sp.length : Int)) = true := decide_eq_true (by omega)
        have m1 : IntKind.i64.wrap ((m : Int) + 1) = (m : Int) + 1 := by rw [IntKind.wrap_i64]; have := H8.out; omega
        have m2 : (0 : Int) ≤ (m : Int) := by omega
        have m3 : (m : Int) < (sp.length : Int) := by omega
        obtain ⟨g2, off2, rfl, _⟩ := hsm.addr (by omega)
        have f0 := hsm.c0 m hml
        have f1 := hsm.c1 m hml
        have hsu := anyTo_succ d sp m
        unfold inSp at hsu
        generalize fr sp m = x0 at f0 hsu
        generalize tt sp m = x1 at f1 hsu
        simp only at hsu
        have Hml := Lib.hid hml; have Hbm := Lib.hid hbm
        clear hbm hml hsm hm
        cases r2 : anyTo d sp m
        · rw [r2] at hsu
          cases r0 : decide (x0 ≤ d)
          · rw [r0] at hsu
            have HR := Lib.hid hsu
            clear hsu r2
            go_wp2_with fail
            go_roundw
            case rel => exact ⟨m + 1, Hml.out, by go_num, by rw [HR.out]; rfl, Hbm.out⟩
            case measure => have := Hml.out; simp [intOf]; omega
          · rw [r0] at hsu
            cases r1 : decide (d < x1)
            all_goals
              rw [r1] at hsu
              have HR := Lib.hid hsu
              clear hsu r2
              go_wp2_with fail
              go_roundw
              case rel => exact ⟨m + 1, Hml.out, by go_num, by rw [HR.out]; rfl, Hbm.out⟩
              case measure => have := Hml.out; simp [intOf]; omega
        · rw [r2] at hsu
          have HR := Lib.hid hsu
          clear hsu r2
          go_wp2_with fail
          go_roundw
          case rel => exact ⟨m + 1, Hml.out, by go_num, by rw [HR.out]; rfl, Hbm.out⟩
          case measure => have := Hml.out; simp [intOf]; omega
end Go.Proofs.YtcppcfinnbeboaaGreat
