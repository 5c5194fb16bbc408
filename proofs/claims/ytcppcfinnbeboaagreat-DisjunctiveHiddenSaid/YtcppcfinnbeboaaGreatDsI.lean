/- Law 47: a span of a choice more. -/
import Derived.Test.YtcppcfinnbeboaaGreatDsH
namespace Go.Proofs.YtcppcfinnbeboaaGreat
open Go.RowKit Go.Shelf

def AddT (N : Nat) (o : Option Mat) (w : World) (e : Ending) (w' : World) : Prop :=
  match o with
  | none => e = .returned (.tuple #[.slice none 0 0, .int .i64 17]) ∧ Below w.heap.size w w'
  | some P => ∃ v, e = .returned (.tuple #[v, .int .i64 0]) ∧ MatP (w.heap.size ≤ ·) w' v N P ∧ Below w.heap.size w w'
theorem bdAdd_t (v : Value) (N : Nat) (P : Mat) (l : List Bnd) (I J c : Int) (w : World) (hm : MatR w v N P) (hN1 : 1 ≤ N) (hN : N ≤ 24) (hl : l.all (bndB (N : Int)) = true) (ht : tightX N l = some P) (hb : bndB (N : Int) (I, J, c) = true) : Calls Tryz.prog 74 #[v, .agg #[.int .i64 I, .int .i64 J, .int .i64 c]] w (AddT N (tightX N (l ++ [(I, J, c)])) w) := by
  obtain ⟨t1, t2, t3⟩ := tightX_some hN1 hN hl ht
  obtain ⟨a1, a2⟩ := tightX_add (M := P) hN1 hN hl hb ht (fun _ _ _ _ => rfl)
  refine (bdAdd_c v N P I J c w hm hN1 hN t1 t2 hb).mono ?_
  rintro e w' (⟨h1, h2, h3⟩ | ⟨h1, u, h2, h3, h4⟩)
  · rw [a1 h1]
    exact ⟨h2, h3⟩
  · obtain ⟨P', h5, h6⟩ := a2 h1
    rw [h5]
    exact ⟨u, h2, h3.congr h6, h4⟩
/-- The two bounds of a span of a choice. -/
def bnd2 (c : Cho) (s : Sp) : List Bnd := [(c.1, c.2.1, s.2 - 1), (c.2.1, c.1, -s.1)]
theorem bnd2_ok {N : Nat} {c : Cho} {s : Sp} (hc : ChoN (N : Int) c) (hs : spB s = true) : (bnd2 c s).all (bndB (N : Int)) = true := by
  obtain ⟨h1, h2, h3, h4, _⟩ := hc
  have := spB_near hs
  unfold bnd2
  simp only [List.all_cons, List.all_nil, Bool.and_true, Bool.and_eq_true]
  exact ⟨bndB_iff.2 ⟨h1, h2, h3, h4, by simp only; omega, by simp only; omega⟩, bndB_iff.2 ⟨h3, h4, h1, h2, by simp only; omega, by simp only; omega⟩⟩
def NrwT (N : Nat) (o : Option Mat) (w : World) (e : Ending) (w' : World) : Prop :=
  match o with
  | none => e = .returned (.tuple #[.slice none 0 0, .bool false]) ∧ Below w.heap.size w w'
  | some P => ∃ v, e = .returned (.tuple #[v, .bool true]) ∧ MatP (w.heap.size ≤ ·) w' v N P ∧ Below w.heap.size w w'
theorem tight_stop {N : Nat} {l m : List Bnd} (h1 : 1 ≤ N) (hN : N ≤ 24) (hl : l.all (bndB (N : Int)) = true) (hm : m.all (bndB (N : Int)) = true) (h : tightX N l = none) : tightX N (l ++ m) = none := by
  cases ht : tightX N (l ++ m) with
  | none => rfl
  | some P =>
    obtain ⟨x, hx⟩ := tightX_ex h1 hN (by rw [List.all_append, hl, hm]; rfl) ht
    exact absurd ((satL_app _ _ _).1 hx).1 (tightX_none hl h)
set_option maxRecDepth 100000 in
set_option maxHeartbeats 8000000 in
theorem djnarrower_c (v : Value) (N : Nat) (P : Mat) (l : List Bnd) (I J : Int) (u : Value) (sp : List Sp) (f t : Int) (w : World) (hm : MatR w v N P) (hN1 : 1 ≤ N) (hN : N ≤ 24) (hl : l.all (bndB (N : Int)) = true) (ht : tightX N l = some P) (hc : ChoN (N : Int) (I, J, sp)) (hs : spB (f, t) = true) : Calls Tryz.prog 55 #[v, .agg #[.int .i64 I, .int .i64 J, u], .agg #[.int .i64 f, .int .i64 t]] w (NrwT N (tightX N (l ++ bnd2 (I, J, sp) (f, t))) w) := by
  have hb2 := bnd2_ok hc hs
  have hnr := spB_near hs
  simp only at hnr
  have z0 : IntKind.i64.wrap (t - 1) = t - 1 := by rw [IntKind.wrap_i64]; omega
  have z1 : IntKind.i64.wrap (-f) = -f := by rw [IntKind.wrap_i64]; omega
  obtain ⟨W1, hW1⟩ : ∃ y, y = w.alloc (.cells #[.int .i64 I, .int .i64 J, u] 31) := ⟨_, rfl⟩
  obtain ⟨bc, hbc⟩ : ∃ y, y = w.heap.size := ⟨_, rfl⟩
  obtain ⟨W2, hW2⟩ : ∃ y, y = W1.alloc (.cells #[.int .i64 f, .int .i64 t] 48) := ⟨_, rfl⟩
  have hT1 : W1.heap[bc]? = some (.cells #[.int .i64 I, .int .i64 J, u] 31 (0, 0)) := by rw [hW1, hbc]; exact heap_alloc_new w _
  have hB1 : Below w.heap.size w W1 := by rw [hW1]; exact (Below.refl _ _).alloc (Nat.le_refl _) _
  have hB2 : Below W1.heap.size W1 W2 := by rw [hW2]; exact (Below.refl _ _).alloc (Nat.le_refl _) _
  have hT1' : W2.heap[bc]? = some (.cells #[.int .i64 I, .int .i64 J, u] 31 (0, 0)) := (hB2.block _ (blk_lt hT1)).trans hT1
  have hT2 : W2.heap[bc + 1]? = some (.cells #[.int .i64 f, .int .i64 t] 48 (0, 0)) := by rw [hW2, show bc + 1 = W1.heap.size from by rw [hW1, hbc, World.size_alloc]]; exact heap_alloc_new W1 _
  have c0 := blk_get hT1' 0
  have c1 := blk_get hT1' 1
  have s0 := blk_get hT2 0
  have s1 := blk_get hT2 1
  simp at c0 c1 s0 s1
  obtain ⟨W3, hW3⟩ : ∃ y, y = W2.alloc (.cells #[.int .i64 I, .int .i64 J, .int .i64 (t - 1), .int .i64 J, .int .i64 I, .int .i64 (-f)] 90) := ⟨_, rfl⟩
  have hB3 : Below W2.heap.size W2 W3 := by rw [hW3]; exact (Below.refl _ _).alloc (Nat.le_refl _) _
  have hB03 : Below w.heap.size w W3 := hB1.trans ((hB2.trans (hB3.mono hB2.size)).mono hB1.size)
  have hbn : IsBnds W3 (.slice (some ⟨bc + 2, 0, none⟩) 2 2) (bnd2 (I, J, sp) (f, t)) := by
    have e : W2.heap.size = bc + 2 := by rw [hW2, World.size_alloc, hW1, World.size_alloc, hbc]
    rw [hW3, ← e]
    exact two_bnds W2 90 (I, J, t - 1) (J, I, -f)
  have KA : Hid (∀ X vv j PP, j < 2 → MatR X vv N PP → tightX N (l ++ (bnd2 (I, J, sp) (f, t)).take j) = some PP → Calls Tryz.prog 74 #[vv, .agg #[.int .i64 (bnd (bnd2 (I, J, sp) (f, t)) j).1, .int .i64 (bnd (bnd2 (I, J, sp) (f, t)) j).2.1, .int .i64 (bnd (bnd2 (I, J, sp) (f, t)) j).2.2]] X (AddT N (tightX N (l ++ (bnd2 (I, J, sp) (f, t)).take (j + 1))) X)) := Lib.hid fun X vv j PP hj h1 h2 => by
    have hlen : (bnd2 (I, J, sp) (f, t)).length = 2 := rfl
    have hal : (l ++ (bnd2 (I, J, sp) (f, t)).take j).all (bndB (N : Int)) = true := by
      rw [List.all_append, hl, Bool.true_and, List.all_eq_true]
      exact fun b hb => List.all_eq_true.1 hb2 b (List.mem_of_mem_take hb)
    have hbj : bndB (N : Int) (bnd (bnd2 (I, J, sp) (f, t)) j) = true := List.all_eq_true.1 hb2 _ (by rw [← bnd_at (show j < (bnd2 (I, J, sp) (f, t)).length by rw [hlen]; exact hj)]; exact List.getElem_mem _)
    have h := bdAdd_t vv N PP _ (bnd (bnd2 (I, J, sp) (f, t)) j).1 (bnd (bnd2 (I, J, sp) (f, t)) j).2.1 (bnd (bnd2 (I, J, sp) (f, t)) j).2.2 X h1 hN1 hN hal h2 hbj
    rw [List.take_succ_eq_append_getElem (by rw [hlen]; exact hj), bnd_at, ← List.append_assoc]
    exact h
  have HStop : Hid (∀ j, j < 2 → tightX N (l ++ (bnd2 (I, J, sp) (f, t)).take (j + 1)) = none → tightX N (l ++ bnd2 (I, J, sp) (f, t)) = none) := Lib.hid fun j hj h => by
    have e : l ++ bnd2 (I, J, sp) (f, t) = (l ++ (bnd2 (I, J, sp) (f, t)).take (j + 1)) ++ (bnd2 (I, J, sp) (f, t)).drop (j + 1) := by rw [List.append_assoc, List.take_append_drop]
    rw [e]
    refine tight_stop hN1 hN ?_ ?_ h
    · rw [List.all_append, hl, Bool.true_and, List.all_eq_true]
      exact fun b hb => List.all_eq_true.1 hb2 b (List.mem_of_mem_take hb)
    · rw [List.all_eq_true]
      exact fun b hb => List.all_eq_true.1 hb2 b (List.mem_of_mem_drop hb)
  have H0 : Hid (tightX N (l ++ (bnd2 (I, J, sp) (f, t)).take 0) = some P) := Lib.hid (by rw [List.take_zero, List.append_nil]; exact ht)
  have HE : Hid (l ++ (bnd2 (I, J, sp) (f, t)).take 2 = l ++ bnd2 (I, J, sp) (f, t)) := Lib.hid rfl
  have Hm := Lib.hid (hm.below hB03)
  have HBn : Hid (∀ X, Below W3.heap.size W3 X → IsBnds X (.slice (some ⟨bc + 2, 0, none⟩) (bnd2 (I, J, sp) (f, t)).length 2) (bnd2 (I, J, sp) (f, t))) := Lib.hid fun X h => hbn.below h
  have HB03 := Lib.hid hB03; have HW3 := Lib.hid hW3; have HW2 := Lib.hid hW2; have HW1 := Lib.hid hW1; have Hbc := Lib.hid hbc
  have Hz2 : Hid (W2.heap.size = bc + 2) := Lib.hid (by rw [hW2, World.size_alloc, hW1, World.size_alloc, hbc])
  rw [hW2, hW1, hbc] at c0 c1 s0 s1
  clear hm hN1 hN hl ht hc hs hb2 hnr hT1 hT1' hT2 hB1 hB2 hB3 hB03 hbn hW1 hW2 hW3 hbc
  go_enter Tryz.func55, Tryz.ntmps55
  go_wp2_with fail
  rw [← HW1.out, ← HW2.out, ← HW3.out, ← Hbc.out]
  clear c0 c1 s0 s1 z0 z1
  go_loopw [0, 30] (fun vv i wr => ∃ (j : Nat) (PP : Mat), i = .int .i64 (j : Int) ∧ j ≤ 2 ∧ Hid (MatR wr vv N PP) ∧ Hid (0 < j → MatP (w.heap.size ≤ ·) wr vv N PP) ∧ Hid (tightX N (l ++ (bnd2 (I, J, sp) (f, t)).take j) = some PP) ∧ Hid (Below W3.heap.size W3 wr)) (fun _ i _ => 2 - (intOf i).toNat)
  case atStart => exact ⟨0, P, rfl, by omega, Hm, Lib.hid (fun h => absurd h (by omega)), H0, Lib.hid (Below.refl _ _)⟩
  case round =>
    obtain ⟨j, PP, rfl, hj, HMt, HMp, HT, HB⟩ := hrel
    rcases Nat.lt_or_ge j 2 with hlt | hge
    rotate_left
    · obtain rfl : j = 2 := by omega
      go_wp2_with fail
      go_ret2
      have HT' := HT.out
      rw [HE.out] at HT'
      refine (show NrwT N (tightX N (l ++ bnd2 (I, J, sp) (f, t))) w _ _ from ?_)
      rw [HT']
      exact ⟨_, rfl, HMp.out (by omega), HB03.out.trans (HB.out.mono HB03.out.size)⟩
    have k0 : decide ((j : Int) < 2) = true := decide_eq_true (by omega)
    have k1 : IntKind.i64.wrap ((j : Int) + 1) = (j : Int) + 1 := by rw [IntKind.wrap_i64]; omega
    have k2 : (0 : Int) ≤ (j : Int) := by omega
    have k3 : (j : Int) < 2 := by omega
    have hbr := HBn.out _ HB.out
    have d0 := hbr.c0 j hlt
    have d1 := hbr.c1 j hlt
    have d2 := hbr.c2 j hlt
    obtain ⟨bj, hbj⟩ : ∃ y, y = bnd (bnd2 (I, J, sp) (f, t)) j := ⟨_, rfl⟩
    rw [← hbj] at d0 d1 d2
    have K1 : Hid (∀ X, MatR X u0 N PP → Calls Tryz.prog 74 #[u0, .agg #[.int .i64 bj.1, .int .i64 bj.2.1, .int .i64 bj.2.2]] X (AddT N (tightX N (l ++ (bnd2 (I, J, sp) (f, t)).take (j + 1))) X)) := Lib.hid fun X hX => by rw [hbj]; exact KA.out X u0 j PP hlt hX HT.out
    have HS1 := Lib.hid (HStop.out j hlt)
    have Hlt := Lib.hid hlt
    simp only [Nat.zero_add, show bc + 2 = bc + 1 + 1 from rfl] at d0 d1 d2
    obtain ⟨TT, hTT⟩ : ∃ y, y = tightX N (l ++ (bnd2 (I, J, sp) (f, t)).take (j + 1)) := ⟨_, rfl⟩
    rw [← hTT] at K1 HS1
    have HTT := Lib.hid hTT
    clear hTT hbj hbr hlt hj
    have HbA := Lib.hid ((Below.refl wr.heap.size wr).alloc (Nat.le_refl _) (.cells #[.int .i64 bj.1, .int .i64 bj.2.1, .int .i64 bj.2.2] 90))
    go_wp2_with fail
    refine (K1.out _ (HMt.out.below HbA.out)).mono ?_
    intro e w2 hA
    cases hc : TT with
    | none =>
      rw [hc] at hA
      obtain ⟨rfl, hb2⟩ := hA
      have HR : Hid (NrwT N (tightX N (l ++ bnd2 (I, J, sp) (f, t))) w (.returned (.tuple #[.slice none 0 0, .bool false])) w2) := Lib.hid (by
        rw [HS1.out hc]
        have h1 := HB.out.trans ((HbA.out.trans (hb2.mono HbA.out.size)).mono HB.out.size)
        exact ⟨rfl, HB03.out.trans (h1.mono HB03.out.size)⟩)
      clear hb2 hc
      go_wp2_with fail
      go_ret2
      exact HR.out
    | some P2 =>
      rw [hc] at hA
      obtain ⟨v2, rfl, hm2, hb2⟩ := hA
      have HB2 : Hid (Below W3.heap.size W3 w2) := Lib.hid (HB.out.trans ((HbA.out.trans (hb2.mono HbA.out.size)).mono HB.out.size))
      have Hm2 := Lib.hid hm2.mat
      have Hp2 : Hid (0 < j + 1 → MatP (w.heap.size ≤ ·) w2 v2 N P2) := Lib.hid fun _ => hm2.mono fun _ _ h => Nat.le_trans (Nat.le_trans HB03.out.size (Nat.le_trans HB.out.size HbA.out.size)) h
      have HT2 : Hid (tightX N (l ++ (bnd2 (I, J, sp) (f, t)).take (j + 1)) = some P2) := Lib.hid (by rw [← HTT.out, hc])
      clear hb2 hm2 hc
      go_wp2_with fail
      go_roundw
      case rel => exact ⟨j + 1, P2, by go_num, Hlt.out, Hm2, Hp2, HT2, HB2⟩
      case measure => have := Hlt.out; simp [intOf]; omega
end Go.Proofs.YtcppcfinnbeboaaGreat
