/- Law 47: whether times satisfy all choices. -/
import Derived.Test.YtcppcfinnbeboaaGreatDjH
import Derived.Deep.RegionHeld3
namespace Go.Proofs.YtcppcfinnbeboaaGreat
open Go.RowKit Go.Shelf

def satB (at_ : List Int) (c : Cho) : Bool := c.2.2.any (inSp (iv at_ c.2.1.toNat - iv at_ c.1.toNat))
theorem okS47 {l : List Sp} (h : l.all spB = true) : l.all okSpan = true := by
  rw [List.all_eq_true] at h ⊢
  intro s hs
  have := spB_near (h s hs)
  rw [okSpan_iff]
  unfold OkSp
  omega
set_option maxRecDepth 100000 in
set_option maxHeartbeats 4000000 in
theorem djsatisfies_c (v u : Value) (l : List Cho) (ts : List Int) (w : World) (hs : IsChos w v l) (ha : IsInts w u ts) (hl : l.length ≤ 60) (hv : ∀ i, i < l.length → ChoN (ts.length : Int) (cho l i)) (hts : ∀ i, i < ts.length → -4398046511104 ≤ iv ts i ∧ iv ts i ≤ 4398046511104) :
    Calls Tryz.prog 45 #[v, u] w (Ret w (.bool (l.all (satB ts)))) := by
  obtain ⟨S, hs⟩ := hs
  obtain ⟨A, c, rfl, hnc, hc⟩ := hs.form
  obtain ⟨At, ct, rfl, _, _⟩ := ha.form
  have Hs := Lib.hid hs; have Ha := Lib.hid ha; have Hl := Lib.hid hl; have Hv := Lib.hid hv; have Hts := Lib.hid hts
  clear hs ha hl hv hts
  go_enter Tryz.func45, Tryz.ntmps45
  go_wp2_with fail
  go_loopw [10] (fun i wr => ∃ k : Nat, i = .int .i64 (k : Int) ∧ k ≤ l.length ∧ Hid (∀ j, j < k → satB ts (cho l j) = true) ∧ Below w.heap.size w wr) (fun i _ => l.length - (intOf i).toNat)
  case atStart => exact ⟨0, rfl, Nat.zero_le _, Lib.hid (fun j hj => absurd hj (by omega)), Below.refl _ _⟩
  case round =>
    obtain ⟨k, rfl, hk, HA, hb⟩ := hrel
    rcases Nat.lt_or_ge k l.length with hlt | hge
    rotate_left
    · obtain rfl : k = l.length := by omega
      have k0 : decide ((l.length : Int) < (l.length : Int)) = false := decide_eq_false (by omega)
      have HR := Lib.hid (all_of (p := satB ts) (fun i h => cho_at h) HA.out)
      go_wp2_with fail
      go_ret
      exact ⟨ret_bool HR.out.symm, hb⟩
    have k0 : decide ((k : Int) < (l.length : Int)) = true := decide_eq_true (by omega)
    have k1 : IntKind.i64.wrap ((k : Int) + 1) = (k : Int) + 1 := by rw [IntKind.wrap_i64]; have := Hl.out; omega
    have k2 : (0 : Int) ≤ (k : Int) := by omega
    have k3 : (k : Int) < (l.length : Int) := by omega
    have hsr := Hs.out.below hb
    obtain ⟨g, off, rfl, hbk⟩ := hsr.addr (by omega)
    have d0 := hsr.c0 k hlt
    have d1 := hsr.c1 k hlt
    have d2 := hsr.c2 k hlt
    have hsp := hsr.2 k hlt
    have hcv := Hv.out k hlt
    have hno : satB ts (cho l k) = false → l.all (satB ts) = false := fun h => all_not (fun i h => cho_at h) hlt h
    have hye : satB ts (cho l k) = true → ∀ j, j < k + 1 → satB ts (cho l j) = true := fun h j hj => by
      rcases Nat.eq_or_lt_of_le (show j ≤ k by omega) with e | e
      · rw [e]; exact h
      · exact HA.out j e
    generalize cho l k = y at d0 d1 hsp hcv hno hye
    generalize S k = sv at d2 hsp
    obtain ⟨I0, J0, sp⟩ := y
    unfold ChoN at hcv
    simp only at d0 d1 hsp hcv
    obtain ⟨v0, v1, v2, v3, v4, v5, v6⟩ := hcv
    obtain ⟨A1, cp, rfl, _, _⟩ := hsp.form
    obtain ⟨p, rfl⟩ : ∃ p : Nat, I0 = (p : Int) := ⟨I0.toNat, by omega⟩
    obtain ⟨q, rfl⟩ : ∃ q : Nat, J0 = (q : Int) := ⟨J0.toNat, by omega⟩
    have hp : p < ts.length := by omega
    have hq : q < ts.length := by omega
    have hat := Ha.out.below hb
    obtain ⟨bt, ot, rfl, _⟩ := hat.addr (by omega)
    obtain ⟨W, hW⟩ : ∃ y, y = wr.alloc (.cells #[.int .i64 (p : Int), .int .i64 (q : Int), .slice A1 sp.length cp] 31) := ⟨_, rfl⟩
    obtain ⟨b6, hb6⟩ : ∃ y, y = wr.heap.size := ⟨_, rfl⟩
    have hbW : Below wr.heap.size wr W := by rw [hW]; exact (Below.refl _ _).alloc (Nat.le_refl _) _
    have hT : W.heap[b6]? = some (.cells #[.int .i64 (p : Int), .int .i64 (q : Int), .slice A1 sp.length cp] 31 (0, 0)) := by rw [hW, hb6]; exact heap_alloc_new wr _
    have FC : Hid (∀ X, Below W.heap.size W X → X.cell? ⟨b6, 0, none⟩ = some (.int .i64 (p : Int)) ∧ X.cell? ⟨b6, 1, none⟩ = some (.int .i64 (q : Int)) ∧ X.cell? ⟨bt, ot + p, none⟩ = some (.int .i64 (iv ts p)) ∧ X.cell? ⟨bt, ot + q, none⟩ = some (.int .i64 (iv ts q))) := Lib.hid fun X h => by
      have f := (h.block _ (blk_lt hT)).trans hT
      have f2 := (hat.below hbW).below h
      exact ⟨blk_get f 0, blk_get f 1, f2.c0 p hp, f2.c0 q hq⟩
    have FT : Hid (∀ X, Below W.heap.size W X → X.cell? ⟨b6, 2, none⟩ = some (.slice A1 sp.length cp)) := Lib.hid fun X h => blk_get ((h.block _ (blk_lt hT)).trans hT) 2
    have FSp : Hid (∀ X, Below W.heap.size W X → IsSpans X (.slice A1 sp.length cp) sp) := Lib.hid fun X h => (hsp.below hbW).below h
    have hbF := hb.trans (hbW.mono hb.size)
    have FB : Hid (∀ X, Below W.heap.size W X → Below w.heap.size w X) := Lib.hid fun X h => hbF.trans (h.mono hbF.size)
    have e1 := Hts.out p hp
    have e2 := Hts.out q hq
    have hsat : satB ts ((p : Int), (q : Int), sp) = sp.any (inSp (iv ts q - iv ts p)) := rfl
    rw [hsat] at hno hye
    have w1 : IntKind.i64.wrap (iv ts q - iv ts p) = iv ts q - iv ts p := by rw [IntKind.wrap_i64]; omega
    have p0 : (p : Int) < (ts.length : Int) := by omega
    have p1 : (0 : Int) ≤ (p : Int) := by omega
    have q0 : (q : Int) < (ts.length : Int) := by omega
    have q1 : (0 : Int) ≤ (q : Int) := by omega
    have HW := Lib.hid hW; have Hb6 := Lib.hid hb6; have Hlt := Lib.hid hlt; have V6 := Lib.hid (okS47 v6); have Hno := Lib.hid hno; have Hye := Lib.hid hye
    clear hW hb6 hbW hT hsr hsp hlt hk hat hbF hb hno hye hsat v0 v1 v2 v3 v4 v5 v6 hp hq e1 e2 hbk
    go_wp2_with fail
    rw [← HW.out, ← Hb6.out]
    have kb : Below W.heap.size W W.drew := (Below.refl _ _).drew
    go_region_held3 (fun X => X.cell? ⟨b6, 0, none⟩ = some (.int .i64 (p : Int)) ∧ X.cell? ⟨b6, 1, none⟩ = some (.int .i64 (q : Int)) ∧ X.cell? ⟨bt, ot + p, none⟩ = some (.int .i64 (iv ts p)) ∧ X.cell? ⟨bt, ot + q, none⟩ = some (.int .i64 (iv ts q))) ((first | exact FC.out _ kb | exact FC.out _ (kb.alloc kb.size _) | exact FC.out _ (((Below.refl _ _).alloc (Nat.le_refl _) _).drew))) (first | fail)
    obtain ⟨d, hd⟩ : ∃ d, d = iv ts q - iv ts p := ⟨_, rfl⟩
    rw [← hd]
    obtain ⟨W2, hW2⟩ : ∃ y, y = (W.alloc (.cells #[.int .i64 d] 3)).drew := ⟨_, rfl⟩
    obtain ⟨b7, hb7⟩ : ∃ y, y = W.heap.size := ⟨_, rfl⟩
    rw [← hW2, ← hb7]
    have k2' : Below W.heap.size W W2 := by rw [hW2]; exact ((Below.refl _ _).alloc (Nat.le_refl _) _).drew
    have hbx : BoxI b7 d W2 := by
      rw [hW2, hb7]
      exact heap_alloc_new W _
    have KC := slContainsIn_c b7 d _ sp W2 (FSp.out _ k2') hbx V6.out
    have t2 := FT.out _ k2'
    have hno := Hno.out; have hye := Hye.out
    rw [← hd] at hno hye
    have K2 := Lib.hid k2'
    clear hW2 hb7 k2' hbx hd kb
    cases hr : sp.any (inSp d)
    · rw [hr] at KC
      have HR := Lib.hid (hno hr)
      have KC2 := Lib.hid KC
      clear KC hno hye hr
      go_wp2_with fail
      refine KC2.out.mono ?_
      rintro e W3 ⟨rfl, hb3⟩
      have HF := Lib.hid (FB.out _ (K2.out.trans (hb3.mono K2.out.size)))
      clear hb3
      go_wp2_with fail
      go_ret
      exact ⟨ret_bool HR.out.symm, HF.out⟩
    · rw [hr] at KC
      have HR := Lib.hid (hye hr)
      have KC2 := Lib.hid KC
      clear KC hno hye hr
      go_wp2_with fail
      refine KC2.out.mono ?_
      rintro e W3 ⟨rfl, hb3⟩
      have HF := Lib.hid (FB.out _ (K2.out.trans (hb3.mono K2.out.size)))
      clear hb3
      go_wp2_with fail
      go_roundw
      case rel => exact ⟨k + 1, by go_num, Hlt.out, HR, HF.out⟩
      case measure => have := Hlt.out; simp [intOf]; omega
end Go.Proofs.YtcppcfinnbeboaaGreat
