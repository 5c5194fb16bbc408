/- Law 47: matrices that are only read; open, above; when a matrix is closed, as the code asks. -/
import Derived.Test.YtcppcfinnbeboaaGreatDkP
import Derived.Test.YtcppcfinnbeboaaGreatDkI
namespace Go.Proofs.YtcppcfinnbeboaaGreat
open Go.RowKit Go.Shelf

/-- A square matrix, to be read. -/
def MatR (W : World) (v : Value) (N : Nat) (M : Mat) : Prop := ∃ (b c : Nat) (G C : Nat → Nat), v = .slice (some ⟨b, 0, none⟩) N c ∧ N ≤ c ∧ c ≤ 9223372036854775807 ∧ b < W.heap.size ∧
  (∀ i, i < N → W.cell? ⟨b, i, none⟩ = some (.slice (some ⟨G i, 0, none⟩) N (C i)) ∧ G i < W.heap.size ∧ N ≤ C i ∧ C i ≤ 9223372036854775807 ∧ ∀ j, j < N → W.cell? ⟨G i, j, none⟩ = some (.int .i64 (M i j)))
theorem MatR.below {W W' : World} {v : Value} {N : Nat} {M : Mat} (h : MatR W v N M) (hb : Below W.heap.size W W') : MatR W' v N M := by
  obtain ⟨b, c, G, C, h1, h2, h3, h4, h5⟩ := h
  refine ⟨b, c, G, C, h1, h2, h3, Nat.lt_of_lt_of_le h4 hb.size, fun i hi => ?_⟩
  obtain ⟨k1, k2, k3, k4, k5⟩ := h5 i hi
  exact ⟨(hb.cell (p := ⟨b, i, none⟩) h4).trans k1, Nat.lt_of_lt_of_le k2 hb.size, k3, k4, fun j hj => (hb.cell (p := ⟨G i, j, none⟩) k2).trans (k5 j hj)⟩
theorem MatR.congr {W : World} {v : Value} {N : Nat} {M M' : Mat} (h : MatR W v N M) (he : ∀ i j, i < N → j < N → M i j = M' i j) : MatR W v N M' := by
  obtain ⟨b, c, G, C, h1, h2, h3, h4, h5⟩ := h
  refine ⟨b, c, G, C, h1, h2, h3, h4, fun i hi => ?_⟩
  obtain ⟨k1, k2, k3, k4, k5⟩ := h5 i hi
  exact ⟨k1, k2, k3, k4, fun j hj => by rw [k5 j hj, he i j hi hj]⟩
theorem MatAt.read {W : World} {base b N : Nat} {G C : Nat → Nat} {M : Mat} (h : MatAt W base b N N G C M) (hN : N ≤ 1000) : MatR W (.slice (some ⟨b, 0, none⟩) N N) N M :=
  ⟨b, N, G, C, rfl, Nat.le_refl _, by omega, h.lt, fun i hi => ⟨h.head i hi, (h.rows i hi).lt, (h.cap i hi).1, (h.cap i hi).2, fun j hj => h.cell i j hi hj⟩⟩
/-- A matrix all of whose blocks are of a kind. -/
def MatP (p : Nat → Prop) (W : World) (v : Value) (N : Nat) (M : Mat) : Prop := ∃ (b c : Nat) (G C : Nat → Nat), v = .slice (some ⟨b, 0, none⟩) N c ∧ N ≤ c ∧ c ≤ 9223372036854775807 ∧ b < W.heap.size ∧
  (∀ i, i < N → W.cell? ⟨b, i, none⟩ = some (.slice (some ⟨G i, 0, none⟩) N (C i)) ∧ G i < W.heap.size ∧ N ≤ C i ∧ C i ≤ 9223372036854775807 ∧ ∀ j, j < N → W.cell? ⟨G i, j, none⟩ = some (.int .i64 (M i j))) ∧ p b ∧ ∀ i, i < N → p (G i)
theorem MatP.mat {p : Nat → Prop} {W : World} {v : Value} {N : Nat} {M : Mat} (h : MatP p W v N M) : MatR W v N M := by
  obtain ⟨b, c, G, C, h1, h2, h3, h4, h5, _⟩ := h
  exact ⟨b, c, G, C, h1, h2, h3, h4, h5⟩
theorem MatP.congr {p : Nat → Prop} {W : World} {v : Value} {N : Nat} {M M' : Mat} (h : MatP p W v N M) (he : ∀ i j, i < N → j < N → M i j = M' i j) : MatP p W v N M' := by
  obtain ⟨b, c, G, C, h1, h2, h3, h4, h5, h6⟩ := h
  refine ⟨b, c, G, C, h1, h2, h3, h4, fun i hi => ?_, h6⟩
  obtain ⟨k1, k2, k3, k4, k5⟩ := h5 i hi
  exact ⟨k1, k2, k3, k4, fun j hj => by rw [k5 j hj, he i j hi hj]⟩
theorem MatP.mono {p q : Nat → Prop} {W : World} {v : Value} {N : Nat} {M : Mat} (h : MatP p W v N M) (hq : ∀ b, b < W.heap.size → p b → q b) : MatP q W v N M := by
  obtain ⟨b, c, G, C, h1, h2, h3, h4, h5, h6, h7⟩ := h
  exact ⟨b, c, G, C, h1, h2, h3, h4, h5, hq b h4 h6, fun i hi => hq _ (h5 i hi).2.1 (h7 i hi)⟩
/-- What is kept: its blocks. -/
theorem MatP.keep {p : Nat → Prop} {W W' : World} {v : Value} {N : Nat} {M : Mat} (h : MatP p W v N M) (hs : W.heap.size ≤ W'.heap.size) (hk : ∀ b, b < W.heap.size → p b → W'.heap[b]? = W.heap[b]?) : MatP p W' v N M := by
  obtain ⟨b, c, G, C, h1, h2, h3, h4, h5, h6, h7⟩ := h
  refine ⟨b, c, G, C, h1, h2, h3, Nat.lt_of_lt_of_le h4 hs, fun i hi => ?_, h6, h7⟩
  obtain ⟨k1, k2, k3, k4, k5⟩ := h5 i hi
  refine ⟨?_, Nat.lt_of_lt_of_le k2 hs, k3, k4, fun j hj => ?_⟩
  · rw [← k1]; unfold World.cell?; simp only [hk b h4 h6]
  · rw [← k5 j hj]; unfold World.cell?; simp only [hk _ k2 (h7 i hi)]
theorem MatP.below {p : Nat → Prop} {W W' : World} {v : Value} {N : Nat} {M : Mat} (h : MatP p W v N M) (hb : Below W.heap.size W W') : MatP p W' v N M := h.keep hb.size fun b h1 _ => hb.block b h1
theorem MatAt.readP {W : World} {base b N : Nat} {G C : Nat → Nat} {M : Mat} (h : MatAt W base b N N G C M) (hN : N ≤ 1000) : MatP (base ≤ ·) W (.slice (some ⟨b, 0, none⟩) N N) N M :=
  ⟨b, N, G, C, rfl, Nat.le_refl _, by omega, h.lt, fun i hi => ⟨h.head i hi, (h.rows i hi).lt, (h.cap i hi).1, (h.cap i hi).2, fun j hj => h.cell i j hi hj⟩, h.lob, h.log⟩
def rowL (M : Mat) (N i : Nat) : List Int := (List.range N).map (M i)
theorem rowL_len (M : Mat) (N i : Nat) : (rowL M N i).length = N := by unfold rowL; simp
theorem rowL_iv (M : Mat) (N i : Nat) {j : Nat} (hj : j < N) : iv (rowL M N i) j = M i j := by
  rw [← iv_at (by rw [rowL_len]; exact hj)]
  unfold rowL
  simp
theorem cells_ints {W : World} {g n c : Nat} {l : List Int} (hg : g < W.heap.size) (hl : l.length = n) (h1 : n ≤ c) (h2 : c ≤ 9223372036854775807) (h : ∀ j, j < n → W.cell? ⟨g, j, none⟩ = some (.int .i64 (iv l j))) : IsInts W (.slice (some ⟨g, 0, none⟩) n c) l := by
  refine ⟨some ⟨g, 0, none⟩, c, by rw [hl], by omega, h2, fun _ => ⟨g, 0, rfl, hg, fun i j hi hj => ?_⟩⟩
  obtain rfl : j = 0 := by omega
  rw [hl] at hi
  unfold intCell
  have := h i hi
  simpa using this
/-! ### above -/
def sizeN (l : List Cho) : Nat → Nat
  | 0 => 1
  | k + 1 => sizeN l k * (cho l k).2.2.length
theorem sizeN_pos {l : List Cho} (h : ∀ i, i < l.length → 1 ≤ (cho l i).2.2.length) : ∀ k, k ≤ l.length → 1 ≤ sizeN l k
  | 0, _ => Nat.le_refl _
  | k + 1, hk => Nat.mul_pos (sizeN_pos h k (by omega)) (h k (by omega))
theorem sizeN_mono {l : List Cho} (h : ∀ i, i < l.length → 1 ≤ (cho l i).2.2.length) (k : Nat) : ∀ d, k + d ≤ l.length → sizeN l k ≤ sizeN l (k + d)
  | 0, _ => Nat.le_refl _
  | d + 1, hd => Nat.le_trans (sizeN_mono h k d (by omega)) (by
      show _ ≤ sizeN l (k + d) * _
      exact Nat.le_mul_of_pos_right _ (h (k + d) (by omega)))
def aboveB (l : List Cho) (most : Nat) : Bool := decide (most < sizeN l l.length)
set_option maxRecDepth 100000 in
set_option maxHeartbeats 4000000 in
theorem djabove_c (v : Value) (l : List Cho) (most : Nat) (w : World) (hs : IsChos w v l) (hl : l.length ≤ 1000) (hp : ∀ i, i < l.length → 1 ≤ (cho l i).2.2.length ∧ (cho l i).2.2.length ≤ 8) (hm : most ≤ 1000000) (hm0 : 1 ≤ most) : Calls Tryz.prog 53 #[v, .int .i64 (most : Int)] w (Ret w (.bool (aboveB l most))) := by
  obtain ⟨S, hs⟩ := hs
  obtain ⟨A, c, rfl, hnc, hc⟩ := hs.form
  have Hs := Lib.hid hs; have Hl := Lib.hid hl; have Hp := Lib.hid hp; have Hm := Lib.hid hm
  have Hm0 := Lib.hid hm0
  clear hs hl hp hm hm0
  go_enter Tryz.func53, Tryz.ntmps53
  go_wp2_with fail
  go_loopw [5, 10] (fun z i wr => ∃ k : Nat, i = .int .i64 (k : Int) ∧ k ≤ l.length ∧ z = .int .i64 (sizeN l k : Nat) ∧ Hid (sizeN l k ≤ most) ∧ Below w.heap.size w wr) (fun _ i _ => l.length - (intOf i).toNat)
  case atStart => exact ⟨0, rfl, Nat.zero_le _, rfl, Lib.hid (by have := Hm0.out; show 1 ≤ most; omega), Below.refl _ _⟩
  case round =>
    obtain ⟨k, rfl, hk, rfl, HA, hb⟩ := hrel
    rcases Nat.lt_or_ge k l.length with hlt | hge
    rotate_left
    · obtain rfl : k = l.length := by omega
      have k0 : decide ((l.length : Int) < (l.length : Int)) = false := decide_eq_false (by omega)
      have HR : Hid (aboveB l most = false) := Lib.hid (decide_eq_false (by have := HA.out; omega))
      go_wp2_with fail
      go_ret
      exact ⟨ret_bool HR.out.symm, hb⟩
    have k0 : decide ((k : Int) < (l.length : Int)) = true := decide_eq_true (by omega)
    have k1 : IntKind.i64.wrap ((k : Int) + 1) = (k : Int) + 1 := by rw [IntKind.wrap_i64]; have := Hl.out; omega
    have k2 : (0 : Int) ≤ (k : Int) := by omega
    have k3 : (k : Int) < (l.length : Int) := by omega
    have hsr := Hs.out.below hb
    obtain ⟨g, off, rfl, hbk⟩ := hsr.addr (by omega)
    have d0 := hsr.c0 k hlt
    have d1 := hsr.c1 k hlt
    have d2 := hsr.c2 k hlt
    have hsp := hsr.2 k hlt
    have hcv := Hp.out k hlt
    have hst : sizeN l (k + 1) = sizeN l k * (cho l k).2.2.length := rfl
    have hmono : most < sizeN l (k + 1) → aboveB l most = true := fun h => by
      have := sizeN_mono (fun i hi => (Hp.out i hi).1) (k + 1) (l.length - (k + 1)) (by omega)
      rw [show k + 1 + (l.length - (k + 1)) = l.length from by omega] at this
      exact decide_eq_true (by omega)
    have hbd : sizeN l k * (cho l k).2.2.length ≤ 1000000 * 8 := Nat.mul_le_mul (by have := HA.out; have := Hm.out; omega) hcv.2
    generalize cho l k = y at d0 d1 d2 hsp hcv hst hbd
    generalize S k = sv at d2 hsp
    obtain ⟨c0, c1, sp⟩ := y
    simp only at d0 d1 d2 hsp hst hbd
    obtain ⟨A1, cp, rfl, _, hcp⟩ := hsp.form
    have z1 : IntKind.i64.wrap (((sizeN l k : Nat) : Int) * (sp.length : Int)) = ((sizeN l k * sp.length : Nat) : Int) := by rw [← Int.natCast_mul, IntKind.wrap_i64]; omega
    obtain ⟨sz, hsz⟩ : ∃ y, y = sizeN l k * sp.length := ⟨_, rfl⟩
    rw [← hsz] at z1 hst
    have hB := Lib.hid (hb.alloc hb.size (.cells #[.int .i64 c0, .int .i64 c1, .slice A1 sp.length cp] 31))
    have Hlt := Lib.hid hlt; have Hst := Lib.hid hst; have Hmono := Lib.hid hmono
    clear hsr hbk hlt hsp hcv hst hmono hbd hb hk hsz
    cases q0 : decide ((most : Int) < (sz : Int))
    · have q1 : decide (most < sz) = false := decide_eq_false (by have := of_decide_eq_false q0; omega)
      have HA2 : Hid (sizeN l (k + 1) ≤ most) := Lib.hid (by rw [Hst.out]; have := of_decide_eq_false q0; omega)
      go_wp2_with fail
      go_roundw
      case rel => exact ⟨k + 1, by go_num, Hlt.out, by rw [Hst.out], HA2, hB.out⟩
      case measure => have := Hlt.out; simp [intOf]; omega
    · have q1 : decide (most < sz) = true := decide_eq_true (by have := of_decide_eq_true q0; omega)
      have HR := Lib.hid (Hmono.out (by rw [Hst.out]; have := of_decide_eq_true q0; omega))
      go_wp2_with fail
      go_ret
      exact ⟨ret_bool HR.out.symm, hB.out⟩
/-! ### an own table of rows -/
def tabL (N : Nat) (G C : Nat → Nat) (k : Nat) : List Value := (List.range k).map fun i => .slice (some ⟨G i, 0, none⟩) N (C i)
theorem tabL_len (N : Nat) (G C : Nat → Nat) (k : Nat) : (tabL N G C k).length = k := by unfold tabL; simp
structure OwnT (w : World) (base : Nat) (v : Value) (N k : Nat) (G C : Nat → Nat) (M : Mat) : Prop where
  own : w.ownsRow base 25 1 v k (tabL N G C k)
  rows : ∀ i, i < k → RowAt w (G i) N (M i)
  cap : ∀ i, i < k → N ≤ C i ∧ C i ≤ 9223372036854775807
  off : ∀ i, i < k → v.ownBlock ≠ some (G i)
  low : ∀ i, i < k → base ≤ G i
theorem OwnT.below {w w' : World} {base N k : Nat} {v : Value} {G C : Nat → Nat} {M : Mat} (h : OwnT w base v N k G C M) (hb : Below w.heap.size w w') : OwnT w' base v N k G C M :=
  ⟨own_below h.own hb (Nat.le_refl _), fun i hi => (h.rows i hi).below hb, h.cap, h.off, h.low⟩
theorem OwnT.read {w : World} {base N : Nat} {v : Value} {G C : Nat → Nat} {M : Mat} (h : OwnT w base v N N G C M) (hN : 1 ≤ N) : MatR w v N M := by
  rcases h.own.2 with ⟨rfl, h0⟩ | ⟨g, cap, cur, rfl, hg, hh, h4, h5, h6, h7⟩
  · omega
  · refine ⟨g, cap, G, C, rfl, h4, by unfold maxLen at h5; exact h5, blk_lt hh, fun i hi => ⟨?_, (h.rows i hi).lt, (h.cap i hi).1, (h.cap i hi).2, fun j hj => (h.rows i hi).cell j hj⟩⟩
    rw [blk_get hh]
    have e : (tabL N G C N)[i]? = some (.slice (some ⟨G i, 0, none⟩) N (C i)) := by unfold tabL; simp [hi]
    rw [← h7, List.getElem?_take_of_lt (by omega), Array.getElem?_toList] at e
    exact e
theorem OwnT.readP {w : World} {base N : Nat} {v : Value} {G C : Nat → Nat} {M : Mat} (h : OwnT w base v N N G C M) (hN : 1 ≤ N) : MatP (base ≤ ·) w v N M := by
  rcases h.own.2 with ⟨rfl, h0⟩ | ⟨g, cap, cur, rfl, hg, hh, h4, h5, h6, h7⟩
  · omega
  · refine ⟨g, cap, G, C, rfl, h4, by unfold maxLen at h5; exact h5, blk_lt hh, fun i hi => ⟨?_, (h.rows i hi).lt, (h.cap i hi).1, (h.cap i hi).2, fun j hj => (h.rows i hi).cell j hj⟩, hg, h.low⟩
    rw [blk_get hh]
    have e : (tabL N G C N)[i]? = some (.slice (some ⟨G i, 0, none⟩) N (C i)) := by unfold tabL; simp [hi]
    rw [← h7, List.getElem?_take_of_lt (by omega), Array.getElem?_toList] at e
    exact e
theorem OwnT.form {w : World} {base N k : Nat} {v : Value} {G C : Nat → Nat} {M : Mat} (h : OwnT w base v N k G C M) : ∃ A c, v = .slice A k c := by
  rcases h.own.2 with ⟨rfl, h0⟩ | ⟨g, cap, cur, rfl, _⟩
  · exact ⟨none, 0, by rw [h0]⟩
  · exact ⟨_, _, rfl⟩
theorem OwnT.setCell {w : World} {base N k : Nat} {v : Value} {G C : Nat → Nat} {M : Mat} (h : OwnT w base v N k G C M) (g j : Nat) (h1 : v.ownBlock ≠ some g) (h2 : ∀ i, i < k → G i ≠ g) (u : Value) : OwnT (w.setCell ⟨g, j, none⟩ u) base v N k G C M :=
  ⟨ownsRow_setCell_other h.own (a := ⟨g, j, none⟩) h1 u, fun i hi => (h.rows i hi).block (blk_oth (h2 i hi) _ _), h.cap, h.off, h.low⟩
theorem tIntsInfo1 : (Tryz.prog.info? 25).map (fun i => (i.zero, i.size, i.bytes)) = some (some (.slice none 0 0), 1, 24) := by kernel_rfl
set_option maxRecDepth 100000 in
theorem append_rowG {ops : Array Oper} {rest : List Oper} {o : Oper} {a : Act} {Q : Exit → Act → World → Prop} (hgd : o.guard = none) (s x : Operand)
    (ho : o.op = .call { callee := .builtin .append, args := #[s, x], argTypes := #[57, 57] })
    {w : World} (base : Nat) (v : Value) (N k : Nat) (G C : Nat → Nat) (M : Mat) (g c : Nat) (f : Nat → Int) (hs : a.eval s = v) (hown : OwnT w base v N k G C M)
    (hx : a.eval x = .slice (some ⟨w.heap.size, 0, none⟩) 1 1) (hr : RowAt w g N f) (hc : N ≤ c ∧ c ≤ 9223372036854775807) (hlow : base ≤ g) (hub : v.ownBlock ≠ some g) (hlen : k < 100000000) (hbase : base ≤ w.heap.size)
    (h : ∀ v' w', OwnT w' base v' N (k + 1) (fun i => if i = k then g else G i) (fun i => if i = k then c else C i) (fun i => if i = k then f else M i) → Below base w w' → wpList Tryz.prog ops Q rest (a.put o.dst v') w') :
    wpList Tryz.prog ops Q (o :: rest) a (w.alloc (.cells #[.slice (some ⟨g, 0, none⟩) N c] 25)) := by
  obtain ⟨i, hi, hz, hsz, hby⟩ := info_parts tIntsInfo1
  refine wpList_append_own_at (w.alloc (.cells #[.slice (some ⟨g, 0, none⟩) N c] 25)) hgd s x 57 ho base 25 i _ 1 24 Tryz.underlying57 hi hz hsz hby rfl (by omega) v k (tabL N G C k) hs (hown.own.alloc _) ⟨w.heap.size, 0, none⟩ 1 1
    [.slice (some ⟨g, 0, none⟩) N c] hx rfl ?_ (by simp [Value.oneCell']) (by unfold maxLen; omega) (by omega) (by simp; omega) ?_
  · intro j q hq
    rcases j with _ | j <;> simp at hq
    subst hq; simp [Addr.add]
  · intro v' w' hown' hg _ hob
    have hblk : ∀ b, b < w.heap.size → v.ownBlock ≠ some b → w'.heap[b]? = w.heap[b]? ∧ v'.ownBlock ≠ some b := fun b hb hne => by
      refine ⟨?_, ?_⟩
      · exact (hg.block b (by simp; omega) (fun e => hne e.symm)).trans (((Below.refl w.heap.size w).alloc (Nat.le_refl _) _).block b hb)
      · rcases hob with e | e
        · rw [e]; exact hne
        · rw [e]; intro e'; have := Option.some.inj e'; simp at this; omega
    refine h v' w' ⟨?_, fun q hq => ?_, fun q hq => ?_, fun q hq => ?_, fun q hq => ?_⟩ ?_
    · have e : tabL N (fun i => if i = k then g else G i) (fun i => if i = k then c else C i) (k + 1) = tabL N G C k ++ [.slice (some ⟨g, 0, none⟩) N c] := by
        unfold tabL
        rw [List.range_succ, List.map_append, List.map_singleton]
        simp only [if_true]
        congr 1
        refine List.map_congr_left fun i hi => ?_
        have := List.mem_range.1 hi
        rw [if_neg (by omega), if_neg (by omega)]
      rw [e]
      exact hown'
    · by_cases e : q = k
      · subst e
        simp only [if_true]
        exact hr.block (hblk g hr.lt hub).1
      · simp only [e, if_false]
        have hrq := hown.rows q (by omega)
        exact hrq.block (hblk (G q) hrq.lt (hown.off q (by omega))).1
    · by_cases e : q = k
      · simp only [e, if_true]; exact hc
      · simp only [e, if_false]; exact hown.cap q (by omega)
    · by_cases e : q = k
      · simp only [e, if_true]; exact (hblk g hr.lt hub).2
      · simp only [e, if_false]; exact (hblk (G q) (hown.rows q (by omega)).lt (hown.off q (by omega))).2
    · by_cases e : q = k
      · simp only [e, if_true]; exact hlow
      · simp only [e, if_false]; exact hown.low q (by omega)
    · refine ((Below.refl base w).alloc hbase _).grown hg (by simp; omega) ?_
      intro k hk
      exact (hown.own.lt k hk).1
def MatOut (N : Nat) (M : Mat) (w : World) (e : Ending) (w' : World) : Prop := ∃ v, e = .returned v ∧ MatP (w.heap.size ≤ ·) w' v N M ∧ Below w.heap.size w w'
set_option maxRecDepth 100000 in
set_option maxHeartbeats 8000000 in
theorem djopen_c (N : Nat) (w : World) (hN : N ≤ 24) (hN1 : 1 ≤ N) : Calls Tryz.prog 54 #[.int .i64 (N : Int)] w (MatOut N openM w) := by
  have hmi := fun X => made_intN X N (by omega)
  have HN := Lib.hid hN; have HN1 := Lib.hid hN1
  clear hN hN1
  go_enter Tryz.func54, Tryz.ntmps54
  go_wp2_with fail
  go_loopw [3, 8] (fun o i wr => ∃ (k : Nat) (G C : Nat → Nat), i = .int .i64 (k : Int) ∧ k ≤ N ∧ OwnT wr w.heap.size o N k G C openM ∧ Below w.heap.size w wr) (fun _ i _ => N - (intOf i).toNat)
  case atStart => exact ⟨0, fun _ => 0, fun _ => 0, rfl, Nat.zero_le _, ⟨⟨rfl, .inl ⟨rfl, rfl⟩⟩, fun i hi => absurd hi (by omega), fun i hi => absurd hi (by omega), fun i hi => absurd hi (by omega), fun i hi => absurd hi (by omega)⟩, Below.refl _ _⟩
  case round =>
    obtain ⟨k, G, C, rfl, hk, hO, hb⟩ := hrel
    obtain ⟨Ao, co, rfl⟩ := hO.form
    rcases Nat.lt_or_ge k N with hlt | hge
    rotate_left
    · obtain rfl : N = k := by omega
      have k0 : decide ((N : Int) < (N : Int)) = false := decide_eq_false (by omega)
      have HR := Lib.hid (hO.readP HN1.out); have HB := Lib.hid hb
      clear hO hb hge hk
      go_wp2_with fail
      go_ret
      exact ⟨_, rfl, HR.out, HB.out⟩
    have k0 : decide ((k : Int) < (N : Int)) = true := decide_eq_true (by omega)
    have k00 : decide (k < N) = true := decide_eq_true (by omega)
    have k1 : IntKind.i64.wrap ((k : Int) + 1) = (k : Int) + 1 := by rw [IntKind.wrap_i64]; have := HN.out; omega
    obtain ⟨g, hg⟩ : ∃ y, y = wr.heap.size := ⟨_, rfl⟩
    obtain ⟨W, hW⟩ : ∃ y, y = wr.alloc (.cells (Array.replicate N (.int .i64 0)) 3) := ⟨_, rfl⟩
    have hbW0 : Below wr.heap.size wr W := by rw [hW]; exact (Below.refl _ _).alloc (Nat.le_refl _) _
    have hr : RowAt W g N (rowM k 0 k) := ⟨Array.replicate N (.int .i64 0), by rw [hW, hg]; exact heap_alloc_new wr _, by simp, fun j hj => by simp [hj, rowM]⟩
    have hO2 := hO.below hbW0
    have hne : (∀ y, (Value.slice Ao k co).ownBlock = some y → y < g) ∧ ∀ i, i < k → G i < g := ⟨fun y hy => by rw [hg]; exact (hO.own.lt y hy).2, fun i hi => by rw [hg]; exact (hO.rows i hi).lt⟩
    have hbW := hb.trans (hbW0.mono hb.size)
    have HO := Lib.hid hO2; have Hr := Lib.hid hr; have HW := Lib.hid hW; have Hg := Lib.hid hg; have Hb := Lib.hid hbW; have Hlt := Lib.hid hlt; have Hne := Lib.hid hne
    have Hwg : Hid (w.heap.size ≤ g) := Lib.hid (by rw [hg]; exact hb.size)
    clear hO hb hW hg hbW0 hr hO2 hbW hlt hk hne
    go_wp2_with fail
    rw [← HW.out, ← Hg.out]
    go_loopw [15] (fun i wq => ∃ j : Nat, i = .int .i64 (j : Int) ∧ j ≤ N ∧ RowAt wq g N (rowM k j k) ∧ OwnT wq w.heap.size (.slice Ao k co) N k G C openM ∧ Below w.heap.size w wq) (fun i _ => N - (intOf i).toNat)
    case atStart => exact ⟨0, rfl, Nat.zero_le _, Hr.out, HO.out, Hb.out⟩
    case round =>
      obtain ⟨j, rfl, hj, hrow, hO, hb⟩ := hrel
      rcases Nat.lt_or_ge j N with hjl | hjl
      rotate_left
      · obtain rfl : N = j := by omega
        have j0 : decide ((N : Int) < (N : Int)) = false := decide_eq_false (by omega)
        have hrow2 := hrow.congr (f' := openM k) fun b hb => by
          unfold rowM openM
          by_cases e2 : b = k
          · rw [if_pos rfl, if_neg (by omega), if_pos e2.symm]
          · rw [if_pos rfl, if_pos ⟨hb, e2⟩, if_neg (fun h => e2 h.symm)]
        have HO2 := Lib.hid hO; have Hb2 := Lib.hid hb; have Hr2 := Lib.hid hrow2
        clear hO hb hrow hrow2 hj hjl
        go_wp2_with (at_builtin; refine append_rowG rfl _ _ rfl w.heap.size _ N k G C openM g N (openM k) (by rfl) HO2.out (by rfl) Hr2.out ⟨Nat.le_refl _, by have := HN.out; omega⟩ Hwg.out (fun e => by have := Hne.out.1 g e; omega) (by have := HN.out; have := Hlt.out; omega) Hb2.out.size ?_; intro v3 w3 hown3 hb3; have HO3 := Lib.hid hown3; have HB3 := Lib.hid (Hb2.out.trans hb3); clear hown3 hb3)
        go_roundw
        case rel => exact ⟨k + 1, _, _, by go_num, Hlt.out, ⟨HO3.out.own, fun i hi => (HO3.out.rows i hi).congr fun j _ => by by_cases e : i = k <;> simp [e], HO3.out.cap, HO3.out.off, HO3.out.low⟩, HB3.out⟩
        case measure => have := Hlt.out; simp [intOf]; omega
      have j0 : decide ((j : Int) < (N : Int)) = true := decide_eq_true (by omega)
      have j00 : decide (j < N) = true := decide_eq_true (by omega)
      have j1 : IntKind.i64.wrap ((j : Int) + 1) = (j : Int) + 1 := by rw [IntKind.wrap_i64]; have := HN.out; omega
      have j2 : (0 : Int) ≤ (j : Int) := by omega
      have j3 : (j : Int) < (N : Int) := by omega
      cases hkj : ((j : Int) != (k : Int))
      · have e : k = j := by simp at hkj; omega
        have HrA := Lib.hid (hrow.congr (f' := rowM k (j + 1) k) fun b hb => by
          unfold rowM
          rw [if_pos rfl, if_pos rfl]
          by_cases e3 : b < j ∧ b ≠ k
          · rw [if_pos e3, if_pos ⟨by omega, e3.2⟩]
          · rw [if_neg e3, if_neg (by omega)])
        have HbA := Lib.hid hb; have Hjl := Lib.hid hjl; have HOA := Lib.hid hO
        clear hrow hb hj hjl e hO
        go_wp2_with fail
        go_roundw
        case rel => exact ⟨j + 1, by go_num, Hjl.out, HrA.out, HOA.out, HbA.out⟩
        case measure => have := Hjl.out; simp [intOf]; omega
      · have e : k ≠ j := fun e => by rw [e] at hkj; simp at hkj
        have a0 := hrow.cell j hjl
        have a1 := hrow.soft j
        have hset := (hrow.set j hjl noneD).congr (f' := rowM k (j + 1) k) fun b hb => by
          unfold rowM
          by_cases e3 : b = j
          · rw [if_pos e3, if_pos rfl, if_pos (by omega)]
          · rw [if_neg e3, if_pos rfl, if_pos rfl]
            by_cases e4 : b < j ∧ b ≠ k
            · rw [if_pos e4, if_pos ⟨by omega, e4.2⟩]
            · rw [if_neg e4, if_neg (by omega)]
        have hbs := hb.setCell (p := ⟨g, j, none⟩) Hwg.out (.int .i64 noneD)
        have hos := hO.setCell g j (fun e => by have := Hne.out.1 g e; omega) (fun i hi e => by have := Hne.out.2 i hi; omega) (.int .i64 noneD)
        have Hset := Lib.hid hset; have Hbs := Lib.hid hbs; have Hjl := Lib.hid hjl; have Hos := Lib.hid hos
        unfold noneD at Hset Hbs Hos
        clear hset hbs hos hrow hb hj hjl e hO
        go_wp2_with fail
        go_roundw
        case rel => exact ⟨j + 1, by go_num, Hjl.out, Hset.out, Hos.out, Hbs.out⟩
        case measure => have := Hjl.out; simp [intOf]; omega
end Go.Proofs.YtcppcfinnbeboaaGreat
