/- Law 47: bounds.Tight; the hulls of choices. -/
import Derived.Test.YtcppcfinnbeboaaGreatDjT
namespace Go.Proofs.YtcppcfinnbeboaaGreat
open Go.RowKit Go.Shelf

theorem MatAt.loosen {w : World} {base base' b m n : Nat} {G C : Nat → Nat} {M : Mat} (h : MatAt w base b m n G C M) (hb : base' ≤ base) : MatAt w base' b m n G C M := by
  obtain ⟨h1, h2, h3, h4, h5, h6, h7⟩ := h
  exact ⟨h1, h2, h3, h4, Nat.le_trans hb h5, fun i hi => Nat.le_trans hb (h6 i hi), h7⟩
/-- What Tight answers: a matrix of its own, or an error's number. -/
def TightRet (n : Nat) (o : Option Mat) (w : World) (e : Ending) (w' : World) : Prop :=
  match o with
  | none => e = .returned (.tuple #[.slice none 0 0, .int .i64 17]) ∧ Below w.heap.size w w'
  | some M => ∃ b G C, e = .returned (.tuple #[.slice (some ⟨b, 0, none⟩) n n, .int .i64 0]) ∧ MatAt w' w.heap.size b n n G C M ∧ Below w.heap.size w w'
theorem bdTight_c (n : Nat) (v : Value) (l : List Bnd) (w : World) (hs : IsBnds w v l) (hn : n < 24) (hl : l.all (bndB ((n + 1 : Nat) : Int)) = true) (hl2 : l.length ≤ 200) : Calls Tryz.prog 40 #[.int .i64 ((n + 1 : Nat) : Int), v] w (TightRet (n + 1) (tightF (n + 1) l) w) := by
  have hv : bndsB ((n + 1 : Nat) : Int) l = true := by
    unfold bndsB
    rw [hl, decide_eq_true (by omega), decide_eq_true (by omega), decide_eq_true (by omega)]
    rfl
  have KV := Lib.hid (bdValid_c ((n + 1 : Nat) : Int) v l w hs)
  rw [hv] at KV
  have KT : Hid (∀ X, Below w.heap.size w X → Calls Tryz.prog 58 #[.int .i64 ((n + 1 : Nat) : Int), v] X (TightAt (n + 1) (tightF (n + 1) l) X)) := Lib.hid fun X h => bdtight_c n v l X (hs.below h) hn hl hl2
  obtain ⟨N, hN⟩ : ∃ N, N = n + 1 := ⟨_, rfl⟩
  rw [← hN] at KV KT ⊢
  clear hN hv hs hl hl2 hn
  cases ho : tightF N l with
  | none =>
    rw [ho] at KT
    clear ho
    go_enter Tryz.func40, Tryz.ntmps40
    go_wp2_with fail
    refine KV.out.mono ?_
    rintro e w1 ⟨rfl, hb⟩
    go_wp2_with fail
    refine (KT.out _ hb).mono ?_
    rintro e w2 ⟨rfl, hb2⟩
    have HF := Lib.hid (hb.trans (hb2.mono hb.size))
    clear hb hb2
    go_wp2_with fail
    go_ret2
    exact ⟨rfl, HF.out⟩
  | some M =>
    rw [ho] at KT
    clear ho
    go_enter Tryz.func40, Tryz.ntmps40
    go_wp2_with fail
    refine KV.out.mono ?_
    rintro e w1 ⟨rfl, hb⟩
    go_wp2_with fail
    refine (KT.out _ hb).mono ?_
    rintro e w2 ⟨b, G, C, rfl, hm, hb2⟩
    have HF := Lib.hid (hb.trans (hb2.mono hb.size))
    have Hm := Lib.hid (hm.loosen hb.size)
    clear hb hb2 hm
    go_wp2_with fail
    go_ret2
    exact ⟨b, G, C, rfl, Hm.out, HF.out⟩
/-! ### hulls -/
/-- The least and the greatest end of some spans. -/
def loH (l : List Sp) : Nat → Int
  | 0 => fr l 0
  | k + 1 => min (loH l k) (fr l k)
def hiH (l : List Sp) : Nat → Int
  | 0 => tt l 0
  | k + 1 => max (hiH l k) (tt l k)
def hull2 (c : Cho) : List Bnd := [(c.1, c.2.1, hiH c.2.2 c.2.2.length - 1), (c.2.1, c.1, -loH c.2.2 c.2.2.length)]
def hullsF (l : List Cho) : Nat → List Bnd
  | 0 => []
  | k + 1 => hullsF l k ++ hull2 (cho l k)
theorem hullsF_len (l : List Cho) : ∀ k, (hullsF l k).length = 2 * k
  | 0 => rfl
  | k + 1 => by rw [hullsF, List.length_append, hullsF_len l k]; simp [hull2]; omega
theorem spB_near {s : Sp} (h : spB s = true) : -1073741824 ≤ s.1 ∧ s.1 < s.2 ∧ s.2 ≤ 1073741824 := by
  unfold spB nearB at h
  simp only [Bool.and_eq_true, decide_eq_true_eq] at h
  omega
theorem loH_near {l : List Sp} (h : l.all spB = true) (h0 : 0 < l.length) : ∀ k, k ≤ l.length → -1073741824 ≤ loH l k ∧ loH l k ≤ 1073741824
  | 0, _ => by have := spB_near (List.all_eq_true.1 h _ (idx_mem h0)); simp only at this; show _ ≤ fr l 0 ∧ fr l 0 ≤ _; omega
  | k + 1, hk => by
    have h1 := loH_near h h0 k (by omega)
    have := spB_near (List.all_eq_true.1 h _ (idx_mem (show k < l.length by omega)))
    simp only at this
    show _ ≤ min _ _ ∧ min _ _ ≤ _
    omega
theorem hiH_near {l : List Sp} (h : l.all spB = true) (h0 : 0 < l.length) : ∀ k, k ≤ l.length → -1073741823 ≤ hiH l k ∧ hiH l k ≤ 1073741824
  | 0, _ => by have := spB_near (List.all_eq_true.1 h _ (idx_mem h0)); simp only at this; show _ ≤ tt l 0 ∧ tt l 0 ≤ _; omega
  | k + 1, hk => by
    have h1 := hiH_near h h0 k (by omega)
    have := spB_near (List.all_eq_true.1 h _ (idx_mem (show k < l.length by omega)))
    simp only at this
    show _ ≤ max _ _ ∧ max _ _ ≤ _
    omega
/-- A choice that the narrowing meets. -/
def ChoN (n : Int) (c : Cho) : Prop := 0 ≤ c.1 ∧ c.1 < n ∧ 0 ≤ c.2.1 ∧ c.2.1 < n ∧ 1 ≤ c.2.2.length ∧ c.2.2.length ≤ 8 ∧ c.2.2.all spB = true
/-- What is known of a choice that is valid. -/
theorem choB_N {n : Int} {c : Cho} (h : choB n c = true) : ChoN n c := by
  unfold choB at h
  simp only [Bool.and_eq_true, decide_eq_true_eq] at h
  obtain ⟨⟨⟨⟨⟨⟨h1, h2⟩, h3⟩, h4⟩, h5⟩, h6⟩, h7⟩ := h
  exact ⟨h1, h2, h3, h4, h5, h6, h7⟩
theorem choB_iff {n : Int} {c : Cho} (h : choB n c = true) : 0 ≤ c.1 ∧ c.1 < n ∧ 0 ≤ c.2.1 ∧ c.2.1 < n ∧ 1 ≤ c.2.2.length ∧ c.2.2.length ≤ 8 ∧ c.2.2.all spB = true := by
  unfold choB at h
  simp only [Bool.and_eq_true, decide_eq_true_eq] at h
  obtain ⟨⟨⟨⟨⟨⟨h1, h2⟩, h3⟩, h4⟩, h5⟩, h6⟩, h7⟩ := h
  exact ⟨h1, h2, h3, h4, h5, h6, h7⟩
theorem tBoundInfo : (Tryz.prog.info? 90).map (fun i => (i.zero, i.size, i.bytes)) = some (some (.agg #[.int .i64 0, .int .i64 0, .int .i64 0]), 3, 24) := by kernel_rfl
def HullRet (l : List Cho) (w : World) (e : Ending) (w' : World) : Prop := ∃ v, e = .returned v ∧ IsBnds w' v (hullsF l l.length) ∧ Below w.heap.size w w'
set_option maxRecDepth 100000 in
set_option maxHeartbeats 4000000 in
theorem djhulls_c (n : Int) (v : Value) (l : List Cho) (w : World) (hs : IsChos w v l) (hl : l.length ≤ 60) (hv : ∀ i, i < l.length → ChoN n (cho l i)) : Calls Tryz.prog 41 #[v] w (HullRet l w) := by
  obtain ⟨S, hs⟩ := hs
  obtain ⟨A, c, rfl, hnc, hc⟩ := hs.form
  have Hs := Lib.hid hs; have Hl := Lib.hid hl; have Hv := Lib.hid hv
  clear hs hl hv
  go_enter Tryz.func41, Tryz.ntmps41
  go_wp2_with fail
  go_loopw [3, 12] (fun o i wr => ∃ k : Nat, i = .int .i64 (k : Int) ∧ k ≤ l.length ∧ OwnsB wr w.heap.size 90 o (hullsF l k) ∧ Below w.heap.size w wr) (fun _ i _ => l.length - (intOf i).toNat)
  case atStart => exact ⟨0, rfl, Nat.zero_le _, OwnsB.nil, Below.refl _ _⟩
  case round =>
    obtain ⟨k, rfl, hk, ho, hb⟩ := hrel
    rcases Nat.lt_or_ge k l.length with hlt | hge
    rotate_left
    · obtain rfl : k = l.length := by omega
      have k0 : decide ((l.length : Int) < (l.length : Int)) = false := decide_eq_false (by omega)
      have Ho := Lib.hid ho.bnds; have Hb := Lib.hid hb
      clear ho hb
      go_wp2_with fail
      go_ret
      exact ⟨_, rfl, Ho.out, Hb.out⟩
    have k0 : decide ((k : Int) < (l.length : Int)) = true := decide_eq_true (by omega)
    have k1 : IntKind.i64.wrap ((k : Int) + 1) = (k : Int) + 1 := by rw [IntKind.wrap_i64]; have := Hl.out; omega
    have k2 : (0 : Int) ≤ (k : Int) := by omega
    have k3 : (k : Int) < (l.length : Int) := by omega
    have hsr := Hs.out.below hb
    obtain ⟨g, off, rfl, hbk⟩ := hsr.addr (by omega)
    have d0 := hsr.c0 k hlt
    have d1 := hsr.c1 k hlt
    have d2 := hsr.c2 k hlt
    have hsp := hsr.2 k hlt
    have hcv := Hv.out k hlt
    unfold ChoN at hcv
    have hnx : hullsF l (k + 1) = hullsF l k ++ hull2 (cho l k) := rfl
    have hlen := hullsF_len l k
    obtain ⟨L2, hL2⟩ : ∃ y, y = hullsF l (k + 1) := ⟨_, rfl⟩
    rw [← hL2] at hnx
    have HL2 := Lib.hid hL2
    clear hL2
    generalize hullsF l k = L1 at ho hnx hlen
    generalize cho l k = y at d0 d1 d2 hsp hcv hnx
    generalize S k = sv at d2 hsp
    obtain ⟨c0, c1, sp⟩ := y
    simp only at d0 d1 d2 hsp hcv
    obtain ⟨A1, cp, rfl, _, hcp⟩ := hsp.form
    obtain ⟨v0, v1, v2, v3, v4, v5, v6⟩ := hcv
    obtain ⟨b1, off1, rfl, hb1⟩ := hsp.addr (by omega)
    obtain ⟨W, hW⟩ : ∃ y, y = wr.alloc (.cells #[.int .i64 c0, .int .i64 c1, .slice (some ⟨b1, off1, none⟩) sp.length cp] 31) := ⟨_, rfl⟩
    obtain ⟨b5, hb5⟩ : ∃ y, y = wr.heap.size := ⟨_, rfl⟩
    have hbW : Below wr.heap.size wr W := by rw [hW]; exact (Below.refl _ _).alloc (Nat.le_refl _) _
    have hT : W.heap[b5]? = some (.cells #[.int .i64 c0, .int .i64 c1, .slice (some ⟨b1, off1, none⟩) sp.length cp] 31 (0, 0)) := by rw [hW, hb5]; exact heap_alloc_new wr _
    have FT : Hid (∀ X, Below W.heap.size W X → X.heap[b5]? = some (.cells #[.int .i64 c0, .int .i64 c1, .slice (some ⟨b1, off1, none⟩) sp.length cp] 31 (0, 0))) := Lib.hid fun X h => (h.block _ (blk_lt hT)).trans hT
    have hspW := hsp.below hbW
    have FS : Hid (∀ X, Below W.heap.size W X → IsSpans X (.slice (some ⟨b1, off1, none⟩) sp.length cp) sp) := Lib.hid fun X h => hspW.below h
    have FO : Hid (∀ X, Below W.heap.size W X → OwnsB X w.heap.size 90 u3 L1) := Lib.hid fun X h => (ho.below hbW).below h
    have hbF := hb.trans (hbW.mono hb.size)
    have FB : Hid (∀ X, Below W.heap.size W X → Below w.heap.size w X) := Lib.hid fun X h => hbF.trans (h.mono hbF.size)
    have HW := Lib.hid hW; have Hb5 := Lib.hid hb5; have Hlt := Lib.hid hlt; have Hnx := Lib.hid hnx; have Hlen := Lib.hid hlen
    have e0 := loH_near v6 (by omega)
    have e1 := hiH_near v6 (by omega)
    have H0 := Lib.hid e0; have H1 := Lib.hid e1; have H8 := Lib.hid v5; have Hp := Lib.hid (show 0 < sp.length by omega)
    have fd := FT.out _ (Below.refl _ _).drew
    have f2 := blk_get fd 2
    have f4 := (FS.out _ (Below.refl _ _).drew).c0 0 Hp.out
    have f5 := (FS.out _ (Below.refl _ _).drew).c1 0 Hp.out
    simp at f2 f4 f5
    have s0 : (0 : Int) < (sp.length : Int) := by omega
    have s1 : 0 < sp.length := by omega
    have s2 : ¬ sp = [] := fun h => by rw [h] at s1; cases s1
    clear hW hb5 hbW hT hspW hbF ho hb hsp hlt hk hnx hlen e0 e1 v5 v4 hsr hbk fd
    go_wp2_with fail
    rw [← HW.out, ← Hb5.out]
    clear d0 d1 d2
    go_still (by kernel_rfl)
    change Exit.then _ _ Exit.normal _ W.drew
    clear f2 f4 f5 s0 s1 s2
    have kd : Below W.heap.size W W.drew := (Below.refl _ _).drew
    obtain ⟨W2, hW2⟩ : ∃ y, y = W.drew := ⟨_, rfl⟩
    rw [← hW2] at kd ⊢
    clear hW2
    have g2 := blk_get (FT.out _ kd) 2
    simp at g2
    have Kd := Lib.hid kd
    clear kd
    go_wp2_with fail
    clear g2
    go_loopw [6, 7, 29] (fun a z i wq => ∃ m : Nat, i = .int .i64 (m : Int) ∧ m ≤ sp.length ∧ a = .int .i64 (loH sp m) ∧ z = .int .i64 (hiH sp m) ∧ Below W.heap.size W wq) (fun _ _ i _ => sp.length - (intOf i).toNat)
    case atStart => exact ⟨0, rfl, Nat.zero_le _, rfl, rfl, Kd.out⟩
    case round =>
      obtain ⟨m, rfl, hm, rfl, rfl, hbm⟩ := hrel
      rcases Nat.lt_or_ge m sp.length with hml | hml
      · have m0 : decide ((m : Int) < (sp.length : Int)) = true := decide_eq_true (by omega)
        have m1 : IntKind.i64.wrap ((m : Int) + 1) = (m : Int) + 1 := by rw [IntKind.wrap_i64]; have := H8.out; omega
        have m2 : (0 : Int) ≤ (m : Int) := by omega
        have m3 : (m : Int) < (sp.length : Int) := by omega
        have hsm := FS.out _ hbm
        have r0 := hsm.c0 m hml
        have r1 := hsm.c1 m hml
        have n0 : min (loH sp m) (fr sp m) = loH sp (m + 1) := rfl
        have n1 : max (hiH sp m) (tt sp m) = hiH sp (m + 1) := rfl
        obtain ⟨Z, hZ⟩ : ∃ y, y = wr.alloc (.cells #[.int .i64 (fr sp m), .int .i64 (tt sp m)] 48) := ⟨_, rfl⟩
        obtain ⟨b9, hb9⟩ : ∃ y, y = wr.heap.size := ⟨_, rfl⟩
        have hTz : Z.drew.heap[b9]? = some (.cells #[.int .i64 (fr sp m), .int .i64 (tt sp m)] 48 (0, 0)) := by rw [hZ, hb9]; exact heap_alloc_new wr _
        have hbz : Below W.heap.size W Z.drew := by rw [hZ]; exact (hbm.alloc hbm.size _).drew
        have z0 := blk_get hTz 0
        have z1 := blk_get hTz 1
        simp at z0 z1
        have HZ := Lib.hid hZ; have Hb9 := Lib.hid hb9; have Hbz := Lib.hid hbz; have Hml := Lib.hid hml; have N0 := Lib.hid n0; have N1 := Lib.hid n1
        clear hsm hZ hb9 hTz hbz hml hbm hm n0 n1
        go_wp2_with fail
        rw [← HZ.out, ← Hb9.out]
        go_still (by kernel_rfl)
        go_wp2_with fail
        go_roundw
        case rel => exact ⟨m + 1, by go_num, Hml.out, by first | rfl | (rw [N0.out]), by first | rfl | (rw [N1.out]), Hbz.out⟩
        case measure => have := Hml.out; simp [intOf]; omega
      · obtain rfl : m = sp.length := by omega
        have m0 : decide ((sp.length : Int) < (sp.length : Int)) = false := decide_eq_false (by omega)
        have e0 := H0.out sp.length (Nat.le_refl _)
        have e1 := H1.out sp.length (Nat.le_refl _)
        have hnx := Hnx.out
        unfold hull2 at hnx
        simp only at hnx
        generalize loH sp sp.length = a at e0 hnx ⊢
        generalize hiH sp sp.length = z at e1 hnx ⊢
        have w0 : IntKind.i64.wrap (z - 1) = z - 1 := by rw [IntKind.wrap_i64]; omega
        have w1 : IntKind.i64.wrap (-a) = -a := by rw [IntKind.wrap_i64]; omega
        have fT := FT.out _ hbm
        have x0 := blk_get fT 0
        have x1 := blk_get fT 1
        simp at x0 x1
        have hoo := FO.out _ hbm
        have hbb := FB.out _ hbm
        have hal := (Below.refl wr.heap.size wr).alloc (Nat.le_refl _) (.cells #[.int .i64 c0, .int .i64 c1, .int .i64 (z - 1), .int .i64 c1, .int .i64 c0, .int .i64 (-a)] 90)
        have hoA := hoo.below hal
        have hsz : w.heap.size ≤ (wr.alloc (.cells #[.int .i64 c0, .int .i64 c1, .int .i64 (z - 1), .int .i64 c1, .int .i64 c0, .int .i64 (-a)] 90)).heap.size := Nat.le_trans hbb.size hal.size
        have hbA := hbb.trans (hal.mono hbb.size)
        have htw := two_bnds wr 90 (c0, c1, z - 1) (c1, c0, -a)
        have hln : L1.length + 2 < 900000000 := by have := Hlen.out; have := Hlt.out; have := Hl.out; omega
        have HoA := Lib.hid hoA; have Hsz := Lib.hid hsz; have HbA := Lib.hid hbA; have Htw := Lib.hid htw; have Hln := Lib.hid hln; have Hnx2 := Lib.hid hnx
        clear fT hoo hbb hal hoA hsz hbA htw hln hnx hbm hm hml e0 e1
        go_wp2_with (at_builtin; refine append_bndsG Tryz.underlying70 tBoundInfo rfl _ _ rfl w.heap.size _ L1 [(c0, c1, z - 1), (c1, c0, -a)] ⟨wr.heap.size, 0, none⟩ 2 rfl HoA.out rfl Htw.out Hln.out Hsz.out ?_; intro v2 W5 h1 h2; rw [← Hnx2.out, HL2.out] at h1; have H1' := Lib.hid h1; have H2' := Lib.hid (HbA.out.trans h2); clear h1 h2)
        go_roundw
        case rel => exact ⟨k + 1, by go_num, Hlt.out, H1'.out, H2'.out⟩
        case measure => have := Hlt.out; simp [intOf]; omega
end Go.Proofs.YtcppcfinnbeboaaGreat
