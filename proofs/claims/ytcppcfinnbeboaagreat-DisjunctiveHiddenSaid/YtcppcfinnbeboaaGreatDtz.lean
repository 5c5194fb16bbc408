/- Texts joined: DtA, DtB, DtC, DtE, DtF, DtG. -/
import Derived.Test.YtcppcfinnbeboaaGreatDsz
import Derived.Test.YtcppcfinnbeboaaGreatDkC
import Derived.Test.YtcppcfinnbeboaaGreatDkI
import Derived.Test.YtcppcfinnbeboaaGreatLayD
import Derived.Test.YtcppcfinnbeboaaGreatDjL

/- Law 47: the reference's size. -/
namespace Go.Proofs.YtcppcfinnbeboaaGreat
open Go.RowKit Go.Shelf

def sizeR (l : List Cho) (most : Nat) : Nat := if aboveB l most then most + 1 else sizeN l l.length
set_option maxRecDepth 100000 in
set_option maxHeartbeats 4000000 in
theorem r47Size_c (v : Value) (l : List Cho) (most : Nat) (w : World) (hs : IsChos w v l) (hl : l.length ≤ 1000) (hp : ∀ i, i < l.length → 1 ≤ (cho l i).2.2.length ∧ (cho l i).2.2.length ≤ 8) (hm : most ≤ 2000000) (hm0 : 1 ≤ most) : Calls Tryz.prog 15 #[v, .int .i64 (most : Int)] w (Ret w (.int .i64 (sizeR l most : Nat))) := by
  obtain ⟨S, hs⟩ := hs
  obtain ⟨A, c, rfl, hnc, hc⟩ := hs.form
  obtain ⟨R, hR⟩ : ∃ y, y = sizeR l most := ⟨_, rfl⟩
  rw [← hR]
  have HR := Lib.hid hR
  have Hs := Lib.hid hs; have Hl := Lib.hid hl; have Hp := Lib.hid hp; have Hm := Lib.hid hm
  have Hm0 := Lib.hid hm0
  clear hs hl hp hm hm0 hR
  go_enter Tryz.func15, Tryz.ntmps15
  go_wp2_with fail
  go_loopw [5, 6] (fun z i wr => ∃ k : Nat, i = .int .i64 (k : Int) ∧ k ≤ l.length ∧ z = .int .i64 (sizeN l k : Nat) ∧ Hid (sizeN l k ≤ most) ∧ Below w.heap.size w wr) (fun _ i _ => l.length - (intOf i).toNat)
  case atStart => exact ⟨0, rfl, Nat.zero_le _, rfl, Lib.hid (by have := Hm0.out; show 1 ≤ most; omega), Below.refl _ _⟩
  case round =>
    obtain ⟨k, rfl, hk, rfl, HA, hb⟩ := hrel
    rcases Nat.lt_or_ge k l.length with hlt | hge
    rotate_left
    · obtain rfl : k = l.length := by omega
      have k0 : decide ((l.length : Int) < (l.length : Int)) = false := decide_eq_false (by omega)
      have HQ : Hid (sizeN l l.length = R) := Lib.hid (by rw [HR.out]; unfold sizeR aboveB; rw [decide_eq_false (by have := HA.out; omega)]; rfl)
      go_wp2_with fail
      go_ret
      exact ⟨by rw [← HQ.out]; rfl, hb⟩
    have k0 : decide ((k : Int) < (l.length : Int)) = true := decide_eq_true (by omega)
    have k1 : IntKind.i64.wrap ((k : Int) + 1) = (k : Int) + 1 := by rw [IntKind.wrap_i64]; have := Hl.out; omega
    have k2 : (0 : Int) ≤ (k : Int) := by omega
    have k3 : (k : Int) < (l.length : Int) := by omega
    have k4 : IntKind.i64.wrap ((most : Int) + 1) = (most : Int) + 1 := by rw [IntKind.wrap_i64]; have := Hm.out; omega
    have hsr := Hs.out.below hb
    obtain ⟨g, off, rfl, hbk⟩ := hsr.addr (by omega)
    have d2 := hsr.c2 k hlt
    have hsp := hsr.2 k hlt
    have hcv := Hp.out k hlt
    have hst : sizeN l (k + 1) = sizeN l k * (cho l k).2.2.length := rfl
    have hmono : most < sizeN l (k + 1) → R = most + 1 := fun h => by
      have := sizeN_mono (fun i hi => (Hp.out i hi).1) (k + 1) (l.length - (k + 1)) (by omega)
      rw [show k + 1 + (l.length - (k + 1)) = l.length from by omega] at this
      rw [HR.out]
      unfold sizeR aboveB
      rw [decide_eq_true (by omega)]
      rfl
    have hbd : sizeN l k * (cho l k).2.2.length ≤ 2000000 * 8 := Nat.mul_le_mul (by have := HA.out; have := Hm.out; omega) hcv.2
    generalize cho l k = y at d2 hsp hcv hst hbd
    generalize S k = sv at d2 hsp
    obtain ⟨c0, c1, sp⟩ := y
    simp only at d2 hsp hst hbd
    obtain ⟨A1, cp, rfl, _, hcp⟩ := hsp.form
    have z1 : IntKind.i64.wrap (((sizeN l k : Nat) : Int) * (sp.length : Int)) = ((sizeN l k * sp.length : Nat) : Int) := by rw [← Int.natCast_mul, IntKind.wrap_i64]; omega
    obtain ⟨sz, hsz⟩ : ∃ y, y = sizeN l k * sp.length := ⟨_, rfl⟩
    rw [← hsz] at z1 hst
    have hB := Lib.hid hb
    have Hlt := Lib.hid hlt; have Hst := Lib.hid hst; have Hmono := Lib.hid hmono
    clear hsr hbk hlt hsp hcv hst hmono hbd hb hk hsz
    cases q0 : decide ((most : Int) < (sz : Int))
    · have q1 : decide (most < sz) = false := decide_eq_false (by have := of_decide_eq_false q0; omega)
      have HA2 : Hid (sizeN l (k + 1) ≤ most) := Lib.hid (by rw [Hst.out]; have := of_decide_eq_false q0; omega)
      go_wp2_with fail
      go_roundw
      case rel => exact ⟨k + 1, by go_num, Hlt.out, by rw [Hst.out], HA2, hB.out⟩
      case measure => have := Hlt.out; simp [intOf]; omega
    · have q1 : decide (most < sz) = true := decide_eq_true (by have := of_decide_eq_true q0; omega)
      have HQ : Hid ((most : Int) + 1 = (R : Int)) := Lib.hid (by rw [Hmono.out (by rw [Hst.out]; have := of_decide_eq_true q0; omega)]; omega)
      go_wp2_with fail
      go_ret
      exact ⟨by rw [← HQ.out]; rfl, hB.out⟩
end Go.Proofs.YtcppcfinnbeboaaGreat

/- Law 47: selections by their numbers, the least time, schedules, parts (plain). -/
namespace Go.Proofs.YtcppcfinnbeboaaGreat
open Go.RowKit Go.Shelf

/-! ### the bounds of a selection, by its number -/
def selJ (l : List Cho) (num k : Nat) : Nat := (num / sizeN l k) % (cho l k).2.2.length
def selB (l : List Cho) (num : Nat) : Nat → List Bnd
  | 0 => []
  | k + 1 => selB l num k ++ bnd2 (cho l k) (spanJ (cho l k) (selJ l num k))
theorem selB_len (l : List Cho) (num : Nat) : ∀ k, (selB l num k).length = 2 * k
  | 0 => rfl
  | k + 1 => by
    unfold selB
    rw [List.length_append, selB_len l num k]
    show 2 * k + 2 = _
    omega
theorem spanJ_ok {n : Nat} {c : Cho} (h : ChoN (n : Int) c) {j : Nat} (hj : j < c.2.2.length) : spB (spanJ c j) = true := by
  have h7 := h.2.2.2.2.2.2
  have e : c.2.2[j] = spanJ c j := by
    unfold spanJ fr tt
    rw [List.getD_eq_getElem?_getD, List.getElem?_eq_getElem hj]
    rfl
  rw [← e]
  exact List.all_eq_true.1 h7 _ (List.getElem_mem _)
theorem selJ_lt {n : Nat} {l : List Cho} {num k : Nat} (h : ChoN (n : Int) (cho l k)) : selJ l num k < (cho l k).2.2.length := Nat.mod_lt _ (by have := h.2.2.2.2.1; omega)
theorem selB_ok {n : Nat} {l : List Cho} {num : Nat} (h : ∀ i, i < l.length → ChoN (n : Int) (cho l i)) : ∀ k, k ≤ l.length → (selB l num k).all (bndB (n : Int)) = true
  | 0, _ => rfl
  | k + 1, hk => by
    unfold selB
    rw [List.all_append, selB_ok h k (by omega), bnd2_ok (h k (by omega)) (spanJ_ok (h k (by omega)) (selJ_lt (h k (by omega))))]
    rfl
theorem sel_sat {l : List Cho} {num : Nat} (x : Nat → Int) : ∀ k, SatL (selB l num k) x ↔ ∀ i, i < k → (spanJ (cho l i) (selJ l num i)).1 ≤ difC (cho l i) x ∧ difC (cho l i) x < (spanJ (cho l i) (selJ l num i)).2
  | 0 => ⟨fun _ i hi => absurd hi (by omega), fun _ => satL_nil x⟩
  | k + 1 => by
    unfold selB
    rw [satL_app, sel_sat x k, satL_bnd2]
    constructor
    · rintro ⟨a, b⟩ i hi
      by_cases e : i < k
      · exact a i e
      · obtain rfl : i = k := by omega
        exact b
    · exact fun h => ⟨fun i hi => h i (by omega), h k (by omega)⟩
theorem sel_satN {n : Nat} {l : List Cho} {num : Nat} (h : ∀ i, i < l.length → ChoN (n : Int) (cho l i)) {x : Nat → Int} (hx : SatL (selB l num l.length) x) : SatN l x := fun i hi =>
  mem_spanJ (selJ_lt (h i hi)) ((sel_sat x l.length).1 hx i hi)
/-! ### each choice of spans has a number -/
def radN (l : List Cho) (f : Nat → Nat) : Nat → Nat
  | 0 => 0
  | k + 1 => radN l f k + f k * sizeN l k
theorem sizeN_dvd (l : List Cho) (i : Nat) : ∀ d, ∃ t, sizeN l (i + d) = sizeN l i * t
  | 0 => ⟨1, by rw [Nat.mul_one]; rfl⟩
  | d + 1 => by
    obtain ⟨t, ht⟩ := sizeN_dvd l i d
    refine ⟨t * (cho l (i + d)).2.2.length, ?_⟩
    show sizeN l (i + d) * (cho l (i + d)).2.2.length = _
    rw [ht, Nat.mul_assoc]
theorem radN_lt {l : List Cho} {f : Nat → Nat} : ∀ k, (∀ i, i < k → f i < (cho l i).2.2.length) → radN l f k < sizeN l k
  | 0, _ => Nat.zero_lt_one
  | k + 1, h => by
    have h1 := radN_lt k fun i hi => h i (by omega)
    have h2 := h k (by omega)
    show radN l f k + f k * sizeN l k < sizeN l k * (cho l k).2.2.length
    have h3 : sizeN l k * (f k + 1) ≤ sizeN l k * (cho l k).2.2.length := Nat.mul_le_mul_left _ h2
    rw [Nat.mul_add, Nat.mul_one, Nat.mul_comm (sizeN l k) (f k)] at h3
    omega
theorem sizeN_pos' {n : Nat} {l : List Cho} (h : ∀ i, i < l.length → ChoN (n : Int) (cho l i)) {k : Nat} (hk : k ≤ l.length) : 1 ≤ sizeN l k := sizeN_pos (fun i hi => (h i hi).2.2.2.2.1) k hk
theorem radN_get {l : List Cho} {f : Nat → Nat} {L : Nat} (hp : ∀ i, i ≤ L → 1 ≤ sizeN l i) (hf : ∀ i, i < L → f i < (cho l i).2.2.length) : ∀ k, k ≤ L → ∀ i, i < k → selJ l (radN l f k) i = f i
  | 0, _, i, hi => absurd hi (by omega)
  | k + 1, hk, i, hi => by
    have h1 := radN_lt k fun i hi => hf i (by omega)
    by_cases e : i < k
    · have ih := radN_get hp hf k (by omega) i e
      obtain ⟨t, ht⟩ := sizeN_dvd l (i + 1) (k - (i + 1))
      rw [show i + 1 + (k - (i + 1)) = k from by omega] at ht
      unfold selJ at ih ⊢
      show (radN l f k + f k * sizeN l k) / sizeN l i % (cho l i).2.2.length = f i
      have e1 : f k * sizeN l k = ((cho l i).2.2.length * (t * f k)) * sizeN l i := by
        rw [ht]
        show f k * (sizeN l i * (cho l i).2.2.length * t) = _
        generalize sizeN l i = a
        generalize (cho l i).2.2.length = b
        generalize f k = c
        rw [Nat.mul_comm a b, Nat.mul_assoc b a t, Nat.mul_comm a t, ← Nat.mul_assoc b t a, Nat.mul_comm c, Nat.mul_assoc (b * t) a c, Nat.mul_comm a c, ← Nat.mul_assoc, Nat.mul_assoc b t c]
      rw [e1, Nat.add_mul_div_right _ _ (hp i (by omega)), Nat.add_mul_mod_self_left]
      exact ih
    · obtain rfl : i = k := by omega
      unfold selJ
      show (radN l f i + f i * sizeN l i) / sizeN l i % (cho l i).2.2.length = f i
      rw [Nat.add_mul_div_right _ _ (hp i (by omega)), Nat.div_eq_of_lt h1, Nat.zero_add, Nat.mod_eq_of_lt (hf i (by omega))]
theorem sel_ex {n : Nat} {l : List Cho} (h : ∀ i, i < l.length → ChoN (n : Int) (cho l i)) {x : Nat → Int} (hx : SatN l x) : ∃ num, num < sizeN l l.length ∧ SatL (selB l num l.length) x := by
  have hj : ∀ i, ∃ j, i < l.length → j < (cho l i).2.2.length ∧ (spanJ (cho l i) j).1 ≤ difC (cho l i) x ∧ difC (cho l i) x < (spanJ (cho l i) j).2 := fun i => by
    by_cases hi : i < l.length
    · obtain ⟨j, a, b⟩ := mem_ex (hx i hi)
      exact ⟨j, fun _ => ⟨a, b⟩⟩
    · exact ⟨0, fun c => absurd c hi⟩
  obtain ⟨f, hf⟩ := Classical.axiomOfChoice hj
  refine ⟨radN l f l.length, radN_lt _ fun i hi => (hf i hi).1, (sel_sat x l.length).2 fun i hi => ?_⟩
  rw [radN_get (fun i hi => sizeN_pos' h hi) (fun i hi => (hf i hi).1) l.length (Nat.le_refl _) i hi]
  exact (hf i hi).2
theorem sel_div {l : List Cho} {num k : Nat} : num / sizeN l k / (cho l k).2.2.length = num / sizeN l (k + 1) := Nat.div_div_eq_div_mul _ _ _
/-! ### the least time: in the words of solutions -/
def EarlyS (l : List Cho) (e most : Nat) (x c : Int) : Prop :=
  (x = 0 ∧ c = 7 ∧ ∀ K : Int, 0 ≤ K → ∃ y, SatN l y ∧ y e - y 0 ≤ -K) ∨ (x = 0 ∧ c = 18 ∧ aboveB l most = true) ∨ (x = 0 ∧ c = 17 ∧ ∀ y, ¬ SatN l y) ∨
    (c = 0 ∧ (∃ y, SatN l y ∧ y e - y 0 = x) ∧ ∀ y, SatN l y → x ≤ y e - y 0)
theorem early_s {N : Nat} {l : List Cho} {e most : Nat} {x c : Int} (h1 : 1 ≤ N) (hN : N ≤ 24) (he : e < N) (h : EarlyOk N l e most x c) : EarlyS l e most x c := by
  have h0 : 0 < N := h1
  rcases h with ⟨rfl, rfl, P, ⟨bl, p1, p2, p3⟩, p4⟩ | h2 | h2 | ⟨rfl, ⟨P, ⟨bl, p1, p2, p3⟩, p4, rfl⟩, h3⟩
  · refine .inl ⟨rfl, rfl, fun K hK => ?_⟩
    obtain ⟨q1, q2, q3⟩ := tightX_some h1 hN p1 p2
    obtain ⟨y, y1, y2⟩ := clo_exact q1 q2 (by omega) he K hK
    have y3 := (y2 0 h0).2 p4
    exact ⟨y, p3 y ((q3 y).1 y1), by omega⟩
  · exact .inr (.inl h2)
  · exact .inr (.inr (.inl h2))
  · refine .inr (.inr (.inr ⟨rfl, ?_, h3⟩))
    obtain ⟨q1, q2, q3⟩ := tightX_some h1 hN p1 p2
    obtain ⟨y, y1, y2⟩ := clo_exact q1 q2 (by omega) he 0 (by omega)
    have y3 := (y2 0 h0).1 p4
    exact ⟨y, p3 y ((q3 y).1 y1), by omega⟩
theorem early_one {l : List Cho} {e m m' : Nat} {x c x' c' : Int} (h : EarlyS l e m x c) (h' : EarlyS l e m' x' c') (hm : c ≠ 18) (hm' : c' ≠ 18) : x = x' ∧ c = c' := by
  rcases h with ⟨rfl, rfl, a⟩ | ⟨rfl, rfl, a⟩ | ⟨rfl, rfl, a⟩ | ⟨rfl, ⟨y, a1, a2⟩, a3⟩
  · rcases h' with ⟨rfl, rfl, b⟩ | ⟨rfl, rfl, b⟩ | ⟨rfl, rfl, b⟩ | ⟨rfl, ⟨z, b1, b2⟩, b3⟩
    · exact ⟨rfl, rfl⟩
    · exact absurd rfl hm'
    · obtain ⟨y, hy, _⟩ := a 0 (Int.le_refl _)
      exact absurd hy (b y)
    · obtain ⟨y, hy, h2⟩ := a (x'.natAbs + 1) (by omega)
      have := b3 y hy
      omega
  · exact absurd rfl hm
  · rcases h' with ⟨rfl, rfl, b⟩ | ⟨rfl, rfl, b⟩ | ⟨rfl, rfl, b⟩ | ⟨rfl, ⟨z, b1, b2⟩, b3⟩
    · obtain ⟨y, hy, _⟩ := b 0 (Int.le_refl _)
      exact absurd hy (a y)
    · exact absurd rfl hm'
    · exact ⟨rfl, rfl⟩
    · exact absurd b1 (a z)
  · rcases h' with ⟨rfl, rfl, b⟩ | ⟨rfl, rfl, b⟩ | ⟨rfl, rfl, b⟩ | ⟨rfl, ⟨z, b1, b2⟩, b3⟩
    · obtain ⟨y, hy, h2⟩ := b (x.natAbs + 1) (by omega)
      have := a3 y hy
      omega
    · exact absurd rfl hm'
    · exact absurd a1 (b y)
    · have := a3 z b1
      have := b3 y a1
      exact ⟨by omega, rfl⟩
/-! ### the schedule -/
def schL (P : Mat) (N : Nat) : List Int := (List.range N).map (schF P N)
theorem schL_len (P : Mat) (N : Nat) : (schL P N).length = N := by unfold schL; simp
theorem schL_iv (P : Mat) (N : Nat) {j : Nat} (hj : j < N) : iv (schL P N) j = schF P N j := by
  unfold schL iv
  simp [hj]
theorem satN_congr {N : Nat} {l : List Cho} (h : StOk N l) {x y : Nat → Int} (he : ∀ j, j < N → x j = y j) (hx : SatN l x) : SatN l y := fun i hi => by
  obtain ⟨a1, a2, a3, a4, _⟩ := h.2 i hi
  rw [← he _ (by omega), ← he _ (by omega)]
  exact hx i hi
theorem sch_ok {N : Nat} {l : List Cho} {P : Mat} (h1 : 1 ≤ N) (hN : N ≤ 24) (hst : StOk N l) (h : SolOk N l P) : SatN l (schF P N) ∧ l.all (satB (schL P N)) = true ∧ iv (schL P N) 0 = 0 ∧ ∀ x ∈ schL P N, -26843545600 ≤ x ∧ x ≤ 26843545600 := by
  obtain ⟨bl, p1, p2, p3⟩ := h
  obtain ⟨q1, q2, q3⟩ := tightX_some h1 hN p1 p2
  have hs : SatM N P (schF P N) := fun i j hi hj hf => by
    have := sch_sat q1 i j hi hj hf
    simp only at this
    unfold schF
    omega
  have hl : SatN l (schF P N) := p3 _ ((q3 _).1 hs)
  refine ⟨hl, all_sat.2 (satN_congr hst (fun j hj => (schL_iv P N hj).symm) hl), ?_, fun x hx => ?_⟩
  · rw [schL_iv P N h1]
    unfold schF
    omega
  · unfold schL at hx
    obtain ⟨j, hj, rfl⟩ := List.mem_map.1 hx
    have hj := List.mem_range.1 hj
    have a := schT_low q2 hj N (Nat.le_refl _)
    have b := schT_low q2 h1 N (Nat.le_refl _)
    unfold schF
    omega
theorem sol_ex {N : Nat} {l : List Cho} {P : Mat} (h1 : 1 ≤ N) (hN : N ≤ 24) (h : SolOk N l P) : ∃ y, SatN l y := by
  obtain ⟨bl, p1, p2, p3⟩ := h
  obtain ⟨y, hy⟩ := tightX_ex h1 hN p1 p2
  exact ⟨y, p3 y hy⟩
/-! ### parts of a network -/
def partC (l : List Cho) (ks : List Nat) : List Cho := ks.map (cho l)
theorem part_len (l : List Cho) (ks : List Nat) : (partC l ks).length = ks.length := by unfold partC; simp
theorem part_get (l : List Cho) (ks : List Nat) {i : Nat} (hi : i < ks.length) : cho (partC l ks) i = cho l (ks.getD i 0) := by
  rw [← cho_at (by rw [part_len]; exact hi)]
  unfold partC
  simp [List.getD_eq_getElem?_getD, hi]
theorem part_all (l : List Cho) : partC l (List.range l.length) = l := by
  have key : ∀ m, m = l.length → (List.range m).map (cho l) = l := fun m hm => List.ext_getElem (by simp [hm]) fun i h1 h2 => by
    simp only [List.getElem_map, List.getElem_range]
    exact (cho_at h2).symm
  exact key _ rfl
theorem part_sub {l : List Cho} {ks js : List Nat} (h : ks.Sublist js) : (partC l ks).Sublist (partC l js) := h.map _
theorem sub_lt {l : List Cho} {ks : List Nat} (h : ks.Sublist (List.range l.length)) : ∀ k ∈ ks, k < l.length := fun _ hk => List.mem_range.1 (h.subset hk)
theorem satN_mem {l : List Cho} {x : Nat → Int} : SatN l x ↔ ∀ c ∈ l, mem c.2.2 (difC c x) = true := by
  constructor
  · intro h c hc
    obtain ⟨i, hi, rfl⟩ := List.getElem_of_mem hc
    have := h i hi
    rw [← cho_at hi] at this
    exact this
  · intro h i hi
    rw [← cho_at hi]
    exact h _ (List.getElem_mem _)
theorem sat_sub {a b : List Cho} (h : a.Sublist b) {x : Nat → Int} (hx : SatN b x) : SatN a x := satN_mem.2 fun c hc => satN_mem.1 hx c (h.subset hc)
theorem st_sub {N : Nat} {a b : List Cho} (h : a.Sublist b) (hb : StOk N b) : StOk N a := by
  refine ⟨Nat.le_trans h.length_le hb.1, fun i hi => ?_⟩
  have h1 : cho a i ∈ b := h.subset (by rw [← cho_at hi]; exact List.getElem_mem _)
  obtain ⟨j, hj, e⟩ := List.getElem_of_mem h1
  rw [← e, cho_at hj]
  exact hb.2 j hj
theorem prod_sub : ∀ {a b : List Nat}, a.Sublist b → (∀ x ∈ b, 1 ≤ x) → a.foldr (· * ·) 1 ≤ b.foldr (· * ·) 1 := fun h => by
  induction h with
  | slnil => intro _; exact Nat.le_refl _
  | cons x h ih =>
    intro hp
    have h1 := ih fun y hy => hp y (List.mem_cons_of_mem _ hy)
    have h2 := hp x (List.mem_cons_self ..)
    simp only [List.foldr_cons]
    exact Nat.le_trans h1 (Nat.le_mul_of_pos_left _ h2)
  | cons_cons x h ih =>
    intro hp
    have h1 := ih fun y hy => hp y (List.mem_cons_of_mem _ hy)
    simp only [List.foldr_cons]
    exact Nat.mul_le_mul_left _ h1
theorem size_sub {N : Nat} {a b : List Cho} (h : a.Sublist b) (hb : StOk N b) : sizeN a a.length ≤ sizeN b b.length := by
  rw [sizeN_prod a _ (Nat.le_refl _), sizeN_prod b _ (Nat.le_refl _), List.take_length, List.take_length]
  refine prod_sub (h.map _) fun x hx => ?_
  obtain ⟨c, hc, rfl⟩ := List.mem_map.1 hx
  obtain ⟨i, hi, rfl⟩ := List.getElem_of_mem hc
  rw [cho_at hi]
  exact (hb.2 i hi).2.2.2.2.1
theorem above_sub {N : Nat} {a b : List Cho} (h : a.Sublist b) (hb : StOk N b) {m : Nat} (ha : aboveB a m = true) : aboveB b m = true := by
  have h1 := size_sub h hb
  have h2 := of_decide_eq_true ha
  exact decide_eq_true (by omega)
end Go.Proofs.YtcppcfinnbeboaaGreat

/- Law 47: the reference's tight matrix of a selection. -/
namespace Go.Proofs.YtcppcfinnbeboaaGreat
open Go.RowKit Go.Shelf

def SelRet (N : Nat) (l : List Cho) (num : Nat) (w : World) (e : Ending) (w' : World) : Prop :=
  ∃ b M, e = .returned (.tuple #[.slice (some ⟨b, 0, none⟩) N N, .bool (tightX N (selB l num l.length)).isSome]) ∧ MatR w' (.slice (some ⟨b, 0, none⟩) N N) N M ∧ (∀ P, tightX N (selB l num l.length) = some P → M = P) ∧ Below w.heap.size w w'
theorem sel_step (l : List Cho) (num k p q : Nat) (sp : List Sp) (hc : cho l k = ((p : Int), (q : Int), sp)) : startF (selB l num (k + 1)) (2 * (k + 1)) = bind2 (startF (selB l num k) (2 * k)) p q (fr sp (selJ l num k)) (tt sp (selJ l num k) - 1) := by
  have e := selB_len l num k
  rw [selB, show 2 * (k + 1) = (selB l num k).length + 2 from by omega, ← e]
  unfold bnd2 spanJ
  rw [startF_two, hc]
  simp only
  unfold bind2 bindF
  simp only [Int.toNat_natCast]
def MatChgF (base b n : Nat) (G C : Nat → Nat) (v : Value) (M : Mat) (g h : Nat) (w : World) (e : Ending) (w' : World) : Prop := e = .returned v ∧ MatAt w' base b n n G C M ∧ Below base w w' ∧ ∀ k, k ≠ g → k ≠ h → w'.heap[k]? = w.heap[k]?
set_option maxRecDepth 100000 in
set_option maxHeartbeats 8000000 in
theorem r47bindF_c (base b N : Nat) (G C : Nat → Nat) (M : Mat) (p q : Nat) (lo hi : Int) (w : World) (hm : MatAt w base b N N G C M) (hp : p < N) (hq : q < N) (_ : N ≤ 24) (hlo : -9223372036854775807 ≤ lo ∧ lo ≤ 9223372036854775807) : Calls Tryz.prog 49 #[.slice (some ⟨b, 0, none⟩) N N, .int .i64 (p : Int), .int .i64 (q : Int), .int .i64 lo, .int .i64 hi] w (MatChgF base b N G C (.tuple #[]) (bind2 M p q lo hi) (G p) (G q) w) := by
  have hm0 := hm.drew
  have hm1 := hm0.set p q hp hq (min (M p q) hi)
  have hb1 : Below base w (w.drew.setCell ⟨G p, q, none⟩ (.int .i64 (min (M p q) hi))) := ((below_drew base w)).setCell (p := ⟨G p, q, none⟩) (hm.log p hp) _
  have hm1d := hm1.drew
  have hm2 := hm1d.set q p hq hp (min (upd M p q (min (M p q) hi) q p) (-lo))
  have hb2 := (hb1.drew).setCell (p := ⟨G q, p, none⟩) (hm.log q hq) (.int .i64 (min (upd M p q (min (M p q) hi) q p) (-lo)))
  have hf : ∀ k, k ≠ G p → k ≠ G q → ((w.drew.setCell ⟨G p, q, none⟩ (.int .i64 (min (M p q) hi))).drew.setCell ⟨G q, p, none⟩ (.int .i64 (min (upd M p q (min (M p q) hi) q p) (-lo)))).heap[k]? = w.heap[k]? := fun k h1 h2 => (blk_oth h2 _ _).trans (blk_oth (W := w.drew) h1 _ _)
  have p0 : (p : Int) < (N : Int) := by omega
  have p1 : (0 : Int) ≤ (p : Int) := by omega
  have q0 : (q : Int) < (N : Int) := by omega
  have q1 : (0 : Int) ≤ (q : Int) := by omega
  have z1 : IntKind.i64.wrap (-lo) = -lo := by rw [IntKind.wrap_i64]; omega
  have a0 := hm0.head p hp
  have a1 := hm0.cell p q hp hq
  have a2 := hm0.soft p q hp
  obtain ⟨w1, hw1⟩ : ∃ y, y = w.drew.setCell ⟨G p, q, none⟩ (.int .i64 (min (M p q) hi)) := ⟨_, rfl⟩
  rw [← hw1] at hm1d hm2 hb2 hf
  obtain ⟨M1, hM1⟩ : ∃ y, y = upd M p q (min (M p q) hi) := ⟨_, rfl⟩
  rw [← hM1] at hm1d hm2 hb2 hf
  have c0 := hm1d.head q hq
  have c1 := hm1d.cell q p hq hp
  have c2 := hm1d.soft q p hq
  have Hf := Lib.hid hf; have Hm2 := Lib.hid hm2; have Hb2 := Lib.hid hb2; have Hw1 := Lib.hid hw1; have HM1 := Lib.hid hM1
  clear hf hm hm0 hm1 hb1 hm1d hm2 hb2 hw1 hM1 hlo
  go_enter Tryz.func49, Tryz.ntmps49
  go_wp2_with fail
  go_still_tail 15, (by kernel_rfl)
  change wpList _ _ _ _ _ w.drew
  generalize w.drew = w5 at a0 a1 a2 Hw1 ⊢
  go_wp2_with fail
  rw [← Hw1.out]
  clear a0 a1 a2
  go_still_tail 16, (by kernel_rfl)
  change wpList _ _ _ _ _ w1.drew
  generalize w1.drew = w6 at c0 c1 c2 Hm2 Hb2 Hf ⊢
  go_wp2_with fail
  go_end0
  refine ⟨rfl, ?_, Hb2.out, Hf.out⟩
  unfold bind2
  rw [← HM1.out]
  exact Hm2.out
set_option maxRecDepth 100000 in
set_option maxHeartbeats 8000000 in
theorem r47Selection_c (N : Nat) (v : Value) (l : List Cho) (num : Nat) (w : World) (hs : IsChos w v l) (h1 : 1 ≤ N) (hN : N ≤ 24) (hst : StOk N l) (hnum : num ≤ 2000000) : Calls Tryz.prog 31 #[.int .i64 (N : Int), v, .int .i64 (num : Int)] w (SelRet N l num w) := by
  have KM := Lib.hid (r47matrix_c N w hN)
  obtain ⟨S, hs⟩ := hs
  obtain ⟨A, c, rfl, hnc, hcc⟩ := hs.form
  have Hs : Hid (∀ X, Below w.heap.size w X → ChosIn X (.slice A l.length c) l S) := Lib.hid fun X h => hs.below h
  have HN := Lib.hid (And.intro h1 hN); have Hst := Lib.hid hst; have Hnum := Lib.hid hnum
  clear hs h1 hN hst hnum hnc hcc
  go_enter Tryz.func31, Tryz.ntmps31
  go_wp2_with fail
  refine KM.out.mono ?_
  rintro e w3 ⟨b, G, C, rfl, hm, hb3⟩
  have Hm3 := Lib.hid hm; have Hb3 := Lib.hid hb3
  clear hm hb3
  go_wp2_with fail
  go_loopw [2, 9] (fun q i wq => ∃ k : Nat, i = .int .i64 (k : Int) ∧ q = .int .i64 ((num / sizeN l k : Nat) : Int) ∧ k ≤ l.length ∧ MatAt wq w.heap.size b N N G C (startF (selB l num k) (2 * k)) ∧ Below w.heap.size w wq) (fun _ i _ => l.length - (intOf i).toNat)
  case atStart => exact ⟨0, rfl, by show _ = Value.int .i64 ((num / 1 : Nat) : Int); rw [Nat.div_one], Nat.zero_le _, Hm3.out, Hb3.out⟩
  case round =>
    obtain ⟨k, rfl, rfl, hk, hm, hb⟩ := hrel
    rcases Nat.lt_or_ge k l.length with hlt | hge
    rotate_left
    · obtain rfl : k = l.length := by omega
      have k0 : decide ((l.length : Int) < (l.length : Int)) = false := decide_eq_false (by omega)
      have k00 : decide (l.length < l.length) = false := decide_eq_false (by omega)
      have hok := selB_ok (num := num) Hst.out.2 l.length (Nat.le_refl _)
      have hmd := start_mod hok
      have hlen := selB_len l num l.length
      rw [← hlen] at hm
      have KT := r47tight_c w.heap.size b N G C _ wr hm HN.out.2 hmd.1 (fun i _ => hmd.2 i)
      obtain ⟨T, hT⟩ : ∃ y, y = tightX N (selB l num l.length) := ⟨_, rfl⟩
      have hT2 : fwX (startF (selB l num l.length) (selB l num l.length).length) N N = T := hT.symm
      rw [hT2] at KT
      have KT := Lib.hid KT
      have HT := Lib.hid hT
      have Hb := Lib.hid hb
      clear hok hmd hlen hm hT hT2 hb hk hge
      go_wp2_with fail
      refine KT.out.mono ?_
      rintro e w4 ⟨rfl, ⟨M, hM, hMo⟩, hb4⟩
      have HM := Lib.hid hM; have HMo := Lib.hid hMo; have Hb4 := Lib.hid (Hb.out.trans hb4)
      clear hM hMo hb4
      obtain ⟨z, hz⟩ : ∃ z, z = T.isSome := ⟨_, rfl⟩
      rw [← hz]
      have Hz := Lib.hid hz
      clear hz
      go_wp2_with fail
      go_ret2
      refine ⟨b, M, ?_, HM.out.read (by have := HN.out.2; omega), fun P hP => HMo.out P (HT.out.trans hP), Hb4.out⟩
      rw [← HT.out, ← Hz.out]
      rfl
    · have k0 : decide ((k : Int) < (l.length : Int)) = true := decide_eq_true (by omega)
      have k00 : decide (k < l.length) = true := decide_eq_true hlt
      have k1 : IntKind.i64.wrap ((k : Int) + 1) = (k : Int) + 1 := by have := Hst.out.1; rw [IntKind.wrap_i64]; omega
      have k2 : (0 : Int) ≤ (k : Int) := by omega
      have k3 : (k : Int) < (l.length : Int) := by omega
      have hsr := Hs.out _ hb
      obtain ⟨g, off, rfl, hbk⟩ := hsr.addr (by omega)
      have hcv := Hst.out.2 k hlt
      have hjl := selJ_lt (num := num) hcv
      have hstep := fun p q sp h => sel_step l num k p q sp h
      have hj : selJ l num k = (num / sizeN l k) % (cho l k).2.2.length := rfl
      have hq : num / sizeN l (k + 1) = (num / sizeN l k) / (cho l k).2.2.length := sel_div.symm
      have hqn : num / sizeN l k ≤ num := Nat.div_le_self _ _
      have hF : ∀ X, Below w.heap.size w X → X.cell? ⟨g, off + k * 3, none⟩ = some (.int .i64 (cho l k).1) ∧ X.cell? ⟨g, off + k * 3 + 1, none⟩ = some (.int .i64 (cho l k).2.1) ∧ X.cell? ⟨g, off + k * 3 + 2, none⟩ = some (S k) ∧ IsSpans X (S k) (cho l k).2.2 := fun X h => ⟨(Hs.out X h).c0 k hlt, (Hs.out X h).c1 k hlt, (Hs.out X h).c2 k hlt, (Hs.out X h).2 k hlt⟩
      have hpos := hcv.2.2.2.2.1
      have hmxs := hcv.2.2.2.2.2.1
      have hsok := spanJ_ok hcv hjl
      generalize selJ l num k = j at hjl hstep hj hsok
      generalize num / sizeN l k = x at hj hq hqn ⊢
      obtain ⟨y, hy⟩ : ∃ y, y = num / sizeN l (k + 1) := ⟨_, rfl⟩
      rw [← hy] at hq
      have Hy := Lib.hid hy
      clear hy
      unfold ChoN at hcv
      obtain ⟨v0, v1, v2, v3, _⟩ := hcv
      generalize cho l k = cc at *
      generalize S k = sv at *
      obtain ⟨I0, J0, sp⟩ := cc
      simp only at hF v0 v1 v2 v3 hpos hmxs hj hq hjl
      obtain ⟨A1, cp, rfl, _, _⟩ := (hF _ hb).2.2.2.form
      obtain ⟨p, rfl⟩ : ∃ p : Nat, I0 = (p : Int) := ⟨I0.toNat, by omega⟩
      obtain ⟨q, rfl⟩ : ∃ q : Nat, J0 = (q : Int) := ⟨J0.toNat, by omega⟩
      obtain ⟨b1, o1, rfl, _⟩ := (hF _ hb).2.2.2.addr (show 0 < sp.length by omega)
      have hstep2 := hstep p q sp rfl
      have hsn : -1073741824 ≤ fr sp j ∧ fr sp j ≤ 1073741824 ∧ -1073741824 ≤ tt sp j ∧ tt sp j ≤ 1073741824 := by
        have := spB_near hsok
        unfold spanJ at this
        simp only at this
        omega
      have hF2 : ∀ X, Below w.heap.size w X → X.cell? ⟨g, off + k * 3, none⟩ = some (.int .i64 (p : Int)) ∧ X.cell? ⟨g, off + k * 3 + 1, none⟩ = some (.int .i64 (q : Int)) ∧ X.cell? ⟨g, off + k * 3 + 2, none⟩ = some (.slice (some ⟨b1, o1, none⟩) sp.length cp) ∧ X.cell? ⟨b1, o1 + j * 2, none⟩ = some (.int .i64 (fr sp j)) ∧ X.cell? ⟨b1, o1 + j * 2 + 1, none⟩ = some (.int .i64 (tt sp j)) := fun X h => by
        obtain ⟨a0, a1, a2, a3⟩ := hF X h
        exact ⟨a0, a1, a2, a3.c0 j hjl, a3.c1 j hjl⟩
      have HF := Lib.hid hF2
      obtain ⟨d0, d1, d2, x0, x1⟩ := hF2 _ hb
      have r0 : ¬ (sp.length : Int) = 0 := by omega
      have r1 : ¬ sp.length = 0 := by omega
      have r2 : Int.tmod (x : Int) (sp.length : Int) = (j : Int) := by rw [hj]; exact (Int.ofNat_tmod _ _).symm
      have r3 : x % sp.length = j := hj.symm
      have r4 : Int.tdiv (x : Int) (sp.length : Int) = (y : Int) := by rw [hq]; exact (Int.ofNat_tdiv _ _).symm
      have r5 : x / sp.length = y := hq.symm
      have hyx : y ≤ x := by rw [hq]; exact Nat.div_le_self _ _
      have r6 : IntKind.i64.wrap (y : Int) = (y : Int) := by have := Hnum.out; rw [IntKind.wrap_i64]; omega
      have r7 : (0 : Int) ≤ (j : Int) := by omega
      have r8 : (j : Int) < (sp.length : Int) := by omega
      have r9 : IntKind.i64.wrap (j : Int) = (j : Int) := by rw [IntKind.wrap_i64]; omega
      have t0 : IntKind.i64.wrap (tt sp j - 1) = tt sp j - 1 := by rw [IntKind.wrap_i64]; omega
      have Hp := Lib.hid (show p < N by omega); have Hq := Lib.hid (show q < N by omega)
      have Hstep := Lib.hid hstep2; have Hm := Lib.hid hm; have Hb := Lib.hid hb; have Hlt := Lib.hid hlt; have Hsn := Lib.hid hsn
      obtain ⟨fj, hfj⟩ : ∃ y, y = fr sp j := ⟨_, rfl⟩
      obtain ⟨tj, htj⟩ : ∃ y, y = tt sp j := ⟨_, rfl⟩
      rw [← hfj, ← htj] at HF Hstep Hsn
      rw [← hfj] at x0
      rw [← htj] at x1 t0
      obtain ⟨m3, hm3⟩ : ∃ y, y = sp.length := ⟨_, rfl⟩
      rw [← hm3] at HF d2 r0 r1 r2 r3 r4 r5 r8 hjl
      clear hfj htj hm3 hsr hbk hF hF2 hstep hstep2 hj hq hqn hyx hpos hmxs hsok v0 v1 v2 v3 hm hb hlt hk hsn
      go_wp2_with fail
      go_region_held3 (fun X => X.cell? ⟨g, off + k * 3 + 2, none⟩ = some (.slice (some ⟨b1, o1, none⟩) m3 cp) ∧ X.cell? ⟨b1, o1 + j * 2, none⟩ = some (.int .i64 fj) ∧ X.cell? ⟨b1, o1 + j * 2 + 1, none⟩ = some (.int .i64 tj)) (go_keep) (first | fail)
      obtain ⟨w5, hw5⟩ : ∃ y, y = (wr.alloc (.cells #[.int .i64 fj, .int .i64 tj] 48)).drew := ⟨_, rfl⟩
      have hb5 : Below wr.heap.size wr w5 := by rw [hw5]; exact ((Below.refl _ _).alloc (Nat.le_refl _) _).drew
      have hT5 : w5.heap[wr.heap.size]? = some (.cells #[.int .i64 fj, .int .i64 tj] 48 (0, 0)) := by rw [hw5]; exact heap_alloc_new wr _
      have hbw5 : Below w.heap.size w w5 := Hb.out.trans (hb5.mono Hb.out.size)
      have hm5 := Hm.out.below hb5
      obtain ⟨bs, hbs⟩ : ∃ y, y = wr.heap.size := ⟨_, rfl⟩
      rw [← hw5]
      rw [← hbs] at hT5 ⊢
      have KB : Hid (∀ X, MatAt X w.heap.size b N N G C (startF (selB l num k) (2 * k)) → Calls Tryz.prog 49 #[.slice (some ⟨b, 0, none⟩) N N, .int .i64 (p : Int), .int .i64 (q : Int), .int .i64 fj, .int .i64 (tj - 1)] X (MatChgF w.heap.size b N G C (.tuple #[]) (startF (selB l num (k + 1)) (2 * (k + 1))) (G p) (G q) X)) := Lib.hid fun X h => by rw [Hstep.out]; exact r47bindF_c _ b N G C _ p q fj (tj - 1) X h Hp.out Hq.out HN.out.2 (by have := Hsn.out; omega)
      have FC : Hid (∀ X, Below w.heap.size w X → X.heap[bs]? = w5.heap[bs]? → X.cell? ⟨g, off + k * 3, none⟩ = some (.int .i64 (p : Int)) ∧ X.cell? ⟨g, off + k * 3 + 1, none⟩ = some (.int .i64 (q : Int)) ∧ X.cell? ⟨bs, 0, none⟩ = some (.int .i64 fj) ∧ X.cell? ⟨bs, 1, none⟩ = some (.int .i64 tj)) := Lib.hid fun X h hx => by
        obtain ⟨a0, a1, _⟩ := HF.out X h
        have hT := hx.trans hT5
        have a3 := blk_get hT 0
        have a4 := blk_get hT 1
        simp at a3 a4
        exact ⟨a0, a1, a3, a4⟩
      have Hbp : Hid (bs ≠ G p ∧ bs ≠ G q) := Lib.hid (by
        have e1 := (Hm.out.rows p Hp.out).lt
        have e2 := (Hm.out.rows q Hq.out).lt
        rw [hbs]
        exact ⟨by omega, by omega⟩)
      have d2 := (HF.out _ hbw5).2.2.1
      have Hbw5 := Lib.hid hbw5; have Hm5 := Lib.hid hm5
      clear hw5 hb5 hT5 hbw5 hm5 hbs d0 d1 x0 x1 r2 r7 r8 r9
      have kc : Below w.heap.size w w5.drew := Hbw5.out.drew
      have kf : w5.drew.heap[bs]? = w5.heap[bs]? := rfl
      have km := Hm5.out.drew
      go_wp2_with fail
      clear d2 r0 r1 r3 r4 r5 r6
      go_region_held3 (fun X => X.cell? ⟨g, off + k * 3, none⟩ = some (.int .i64 (p : Int)) ∧ X.cell? ⟨g, off + k * 3 + 1, none⟩ = some (.int .i64 (q : Int)) ∧ X.cell? ⟨bs, 0, none⟩ = some (.int .i64 fj) ∧ X.cell? ⟨bs, 1, none⟩ = some (.int .i64 tj)) ((first | exact FC.out _ kc kf)) (first
        | (go_at_call 49; (with_reducible refine (KB.out _ km).mono ?_); rintro e Wa ⟨rfl, hma, hba, hfa⟩; have kc := kc.trans hba; have kf := (hfa _ Hbp.out.1 Hbp.out.2).trans kf; clear hba km hfa)
        | fail)
      have Kb := Lib.hid kc; have Hma := Lib.hid hma
      clear kc kf hma
      go_wp2_with fail
      go_roundw
      case rel => exact ⟨k + 1, by go_num, by rw [← Hy.out], Hlt.out, Hma.out, Kb.out⟩
      case measure => have := Hlt.out; simp [intOf]; omega
end Go.Proofs.YtcppcfinnbeboaaGreat

/- Law 47: the reference: is a network consistent, and the least time. -/
namespace Go.Proofs.YtcppcfinnbeboaaGreat
open Go.RowKit Go.Shelf

def ConR (l : List Cho) (w : World) (e : Ending) (w' : World) : Prop := ∃ b : Bool, e = .returned (.bool b) ∧ (b = true ↔ ∃ x, SatN l x) ∧ Below w.heap.size w w'
theorem sel_some {N : Nat} {l : List Cho} {num : Nat} (h1 : 1 ≤ N) (hN : N ≤ 24) (hst : StOk N l) (h : (tightX N (selB l num l.length)).isSome = true) : ∃ x, SatN l x := by
  obtain ⟨P, hP⟩ := Option.isSome_iff_exists.1 h
  obtain ⟨x, hx⟩ := tightX_ex h1 hN (selB_ok hst.2 _ (Nat.le_refl _)) hP
  exact ⟨x, sel_satN hst.2 hx⟩
theorem sel_none {N : Nat} {l : List Cho} (hst : StOk N l) (h : ∀ num, num < sizeN l l.length → tightX N (selB l num l.length) = none) : ¬ ∃ x, SatN l x := fun ⟨x, hx⟩ => by
  obtain ⟨num, h1, h2⟩ := sel_ex hst.2 hx
  exact tightX_none (selB_ok hst.2 _ (Nat.le_refl _)) (h num h1) h2
theorem sizeR_small {l : List Cho} {m : Nat} (h : sizeN l l.length ≤ m) : sizeR l m = sizeN l l.length := by
  unfold sizeR aboveB
  rw [decide_eq_false (by omega)]
  rfl
set_option maxRecDepth 100000 in
set_option maxHeartbeats 4000000 in
theorem r47Consistent_c (N : Nat) (v : Value) (l : List Cho) (w : World) (hs : IsChos w v l) (h1 : 1 ≤ N) (hN : N ≤ 24) (hst : StOk N l) (hsz : sizeN l l.length ≤ 1000000) : Calls Tryz.prog 11 #[.int .i64 (N : Int), v] w (ConR l w) := by
  have KZ := r47Size_c v l 1048576 w hs (by have := hst.1; omega) (fun i hi => ⟨(hst.2 i hi).2.2.2.2.1, (hst.2 i hi).2.2.2.2.2.1⟩) (by omega) (by omega)
  rw [sizeR_small (by omega)] at KZ
  have KZ := Lib.hid KZ
  have KS : Hid (∀ X (num : Nat), Below w.heap.size w X → num ≤ 2000000 → Calls Tryz.prog 31 #[.int .i64 (N : Int), v, .int .i64 (num : Int)] X (SelRet N l num X)) := Lib.hid fun X num hb hn => r47Selection_c N v l num X (hs.below hb) h1 hN hst hn
  obtain ⟨S, hs⟩ := hs
  obtain ⟨A, c, rfl, _, _⟩ := hs.form
  have Hso : Hid (∀ num, (tightX N (selB l num l.length)).isSome = true → ∃ x, SatN l x) := Lib.hid fun num h => sel_some h1 hN hst h
  have Hno : Hid ((∀ num, num < sizeN l l.length → tightX N (selB l num l.length) = none) → ¬ ∃ x, SatN l x) := Lib.hid fun h => sel_none hst h
  obtain ⟨Z, hZ⟩ : ∃ z, z = sizeN l l.length := ⟨_, rfl⟩
  rw [← hZ] at KZ hsz Hno
  have Hsz := Lib.hid hsz
  clear hs h1 hN hst hZ hsz
  go_enter Tryz.func11, Tryz.ntmps11
  go_wp2_with fail
  refine KZ.out.mono ?_
  rintro e w1 ⟨rfl, hb⟩
  have Hb1 := Lib.hid hb
  clear hb KZ
  go_wp2_with fail
  go_loopw [6] (fun i wr => ∃ k : Nat, i = .int .i64 (k : Int) ∧ k ≤ Z ∧ Hid (∀ num, num < k → tightX N (selB l num l.length) = none) ∧ Below w.heap.size w wr) (fun i _ => Z - (intOf i).toNat)
  case atStart => exact ⟨0, rfl, Nat.zero_le _, Lib.hid (fun _ h => absurd h (by omega)), Hb1.out⟩
  case round =>
    obtain ⟨k, rfl, hk, HA, hb⟩ := hrel
    have Hb := Lib.hid hb
    clear hb
    rcases Nat.lt_or_ge k Z with hlt | hge
    · have k0 : decide ((k : Int) < (Z : Int)) = true := decide_eq_true (by omega)
      have k00 : decide (k < Z) = true := decide_eq_true hlt
      have k1 : IntKind.i64.wrap ((k : Int) + 1) = (k : Int) + 1 := by have := Hsz.out; rw [IntKind.wrap_i64]; omega
      have K := Lib.hid (KS.out wr k Hb.out (by have := Hsz.out; omega))
      have Hlt := Lib.hid hlt
      obtain ⟨T, hT⟩ : ∃ y, y = tightX N (selB l k l.length) := ⟨_, rfl⟩
      have HT := Lib.hid hT
      clear hlt hk hT
      go_wp2_with fail
      refine K.out.mono ?_
      rintro e w2 ⟨b, M, rfl, _, _, hb2⟩
      rw [← HT.out]
      obtain ⟨z, hz⟩ : ∃ z, z = T.isSome := ⟨_, rfl⟩
      rw [← hz]
      have Hz := Lib.hid hz
      have Hb2 := Lib.hid (Hb.out.trans (hb2.mono Hb.out.size))
      clear hz hb2
      cases z
      · go_wp2_with fail
        go_roundw
        case rel => exact ⟨k + 1, by go_num, Hlt.out, Lib.hid (fun num hn => by
            rcases Nat.eq_or_lt_of_le (show num ≤ k by omega) with e | e
            · subst e
              have h1 := Hz.out.symm
              rw [← HT.out]
              cases T with
              | none => rfl
              | some _ => cases h1
            · exact HA.out num e), Hb2.out⟩
        case measure => have := Hlt.out; simp [intOf]; omega
      · go_wp2_with fail
        go_ret
        exact ⟨true, rfl, ⟨fun _ => Hso.out k (by rw [← HT.out]; exact Hz.out.symm), fun _ => rfl⟩, Hb2.out⟩
    · obtain rfl : k = Z := by omega
      have k0 : decide ((k : Int) < (k : Int)) = false := decide_eq_false (by omega)
      have k00 : decide (k < k) = false := decide_eq_false (by omega)
      have HR := Lib.hid (Hno.out HA.out)
      clear HA hk hge
      go_wp2_with fail
      go_ret
      exact ⟨false, rfl, ⟨fun h => absurd h (by decide), fun h => absurd h HR.out⟩, Hb.out⟩
/-! ### the least time -/
def ErI (N : Nat) (l : List Cho) (e k : Nat) (best : Int) (found free : Bool) : Prop :=
  (free = true ∧ found = true ∧ ∃ P, SolOk N l P ∧ ¬ P e 0 < noneD) ∨ (free = false ∧ found = false ∧ ∀ num, num < k → tightX N (selB l num l.length) = none) ∨
    (free = false ∧ found = true ∧ (∃ P, SolOk N l P ∧ P e 0 < noneD ∧ best = -(P e 0)) ∧ ∀ num, num < k → ∀ P, tightX N (selB l num l.length) = some P → P e 0 < noneD ∧ best ≤ -(P e 0))
theorem sel_sol {N : Nat} {l : List Cho} {num : Nat} {P : Mat} (hst : StOk N l) (h : tightX N (selB l num l.length) = some P) : SolOk N l P := ⟨_, selB_ok hst.2 _ (Nat.le_refl _), h, fun _ hx => sel_satN hst.2 hx⟩
section
variable {N : Nat} {l : List Cho} {e k : Nat} {best : Int} {found free : Bool} {P : Mat}
theorem ErI.zero : ErI N l e 0 0 false false := .inr (.inl ⟨rfl, rfl, fun _ h => absurd h (by omega)⟩)
theorem ErI.skip (h : ErI N l e k best found free) (ht : tightX N (selB l k l.length) = none) : ErI N l e (k + 1) best found free := by
  have key : ∀ num, num < k + 1 → num = k ∨ num < k := fun num h => by omega
  rcases h with h | ⟨h1, h2, h3⟩ | ⟨h1, h2, h3, h4⟩
  · exact .inl h
  · refine .inr (.inl ⟨h1, h2, fun num hn => ?_⟩)
    rcases key num hn with e | e
    · rw [e]; exact ht
    · exact h3 num e
  · refine .inr (.inr ⟨h1, h2, h3, fun num hn P hP => ?_⟩)
    rcases key num hn with e | e
    · rw [e, ht] at hP
      cases hP
    · exact h4 num e P hP
theorem ErI.fre (hst : StOk N l) (ht : tightX N (selB l k l.length) = some P) (hx : ¬ P e 0 < noneD) : ErI N l e (k + 1) best true true := .inl ⟨rfl, rfl, P, sel_sol hst ht, hx⟩
theorem ErI.bst (hst : StOk N l) (h : ErI N l e k best found free) (ht : tightX N (selB l k l.length) = some P) (hx : P e 0 < noneD) (hb : found = false ∨ -(P e 0) < best) : ErI N l e (k + 1) (-(P e 0)) true free := by
  rcases h with ⟨h1, h2, h3⟩ | ⟨h1, h2, h3⟩ | ⟨h1, h2, h3, h4⟩
  · exact .inl ⟨h1, rfl, h3⟩
  · refine .inr (.inr ⟨h1, rfl, ⟨P, sel_sol hst ht, hx, rfl⟩, fun num hn Q hQ => ?_⟩)
    rcases (show num = k ∨ num < k by omega) with c | c
    · rw [c, ht] at hQ
      cases hQ
      exact ⟨hx, Int.le_refl _⟩
    · rw [h3 num c] at hQ
      cases hQ
  · refine .inr (.inr ⟨h1, rfl, ⟨P, sel_sol hst ht, hx, rfl⟩, fun num hn Q hQ => ?_⟩)
    rcases (show num = k ∨ num < k by omega) with c | c
    · rw [c, ht] at hQ
      cases hQ
      exact ⟨hx, Int.le_refl _⟩
    · have h5 := h4 num c Q hQ
      have : -(P e 0) < best := by
        rcases hb with hb | hb
        · rw [h2] at hb; cases hb
        · exact hb
      exact ⟨h5.1, by omega⟩
theorem ErI.stay (h : ErI N l e k best true free) (ht : tightX N (selB l k l.length) = some P) (hx : P e 0 < noneD) (hb : ¬ -(P e 0) < best) : ErI N l e (k + 1) best true free := by
  rcases h with h | ⟨h1, h2, h3⟩ | ⟨h1, h2, h3, h4⟩
  · exact .inl h
  · cases h2
  · refine .inr (.inr ⟨h1, h2, h3, fun num hn Q hQ => ?_⟩)
    rcases (show num = k ∨ num < k by omega) with c | c
    · rw [c, ht] at hQ
      cases hQ
      exact ⟨hx, by omega⟩
    · exact h4 num c Q hQ
theorem ErI.end_ (h1 : 1 ≤ N) (hN : N ≤ 24) (hst : StOk N l) (he : e < N) (h : ErI N l e (sizeN l l.length) best found free) :
    EarlyOk N l e (sizeN l l.length) (if found = true ∧ free = false then best else 0) (if found = false then 17 else if free = true then 7 else 0) := by
  rcases h with ⟨rfl, rfl, h3⟩ | ⟨rfl, rfl, h3⟩ | ⟨rfl, rfl, h3, h4⟩
  · exact .inl ⟨rfl, rfl, h3⟩
  · exact .inr (.inr (.inl ⟨rfl, rfl, fun y hy => sel_none hst h3 ⟨y, hy⟩⟩))
  · refine .inr (.inr (.inr ⟨rfl, h3, fun y hy => ?_⟩))
    obtain ⟨num, a1, a2⟩ := sel_ex hst.2 hy
    have hok := selB_ok (num := num) hst.2 l.length (Nat.le_refl _)
    cases ht : tightX N (selB l num l.length) with
    | none => exact absurd a2 (tightX_none hok ht)
    | some Q =>
      obtain ⟨b1, b2⟩ := h4 num a1 Q ht
      have b3 := ((tightX_some h1 hN hok ht).2.2 y).2 a2 e 0 he h1 b1
      show best ≤ _
      omega
end
def EarR (N : Nat) (l : List Cho) (ev : Nat) (w : World) (e : Ending) (w' : World) : Prop := ∃ x c, e = .returned (.tuple #[.int .i64 x, .int .i64 c]) ∧ EarlyOk N l ev (sizeN l l.length) x c ∧ Below w.heap.size w w'
set_option maxRecDepth 100000 in
set_option maxHeartbeats 8000000 in
theorem r47Earliest_c (N : Nat) (v : Value) (l : List Cho) (ev : Nat) (w : World) (hs : IsChos w v l) (h1 : 1 ≤ N) (hN : N ≤ 24) (hst : StOk N l) (hsz : sizeN l l.length ≤ 1000000) (he : ev < N) : Calls Tryz.prog 16 #[.int .i64 (N : Int), v, .int .i64 (ev : Int)] w (EarR N l ev w) := by
  have KZ := r47Size_c v l 1048576 w hs (by have := hst.1; omega) (fun i hi => ⟨(hst.2 i hi).2.2.2.2.1, (hst.2 i hi).2.2.2.2.2.1⟩) (by omega) (by omega)
  rw [sizeR_small (by omega)] at KZ
  have KZ := Lib.hid KZ
  have KS : Hid (∀ X (num : Nat), Below w.heap.size w X → num ≤ 2000000 → Calls Tryz.prog 31 #[.int .i64 (N : Int), v, .int .i64 (num : Int)] X (SelRet N l num X)) := Lib.hid fun X num hb hn => r47Selection_c N v l num X (hs.below hb) h1 hN hst hn
  obtain ⟨S, hs⟩ := hs
  obtain ⟨A, c, rfl, _, _⟩ := hs.form
  have HE : Hid (∀ best found free, ErI N l ev (sizeN l l.length) best found free → EarlyOk N l ev (sizeN l l.length) (if found = true ∧ free = false then best else 0) (if found = false then 17 else if free = true then 7 else 0)) := Lib.hid fun _ _ _ h => h.end_ h1 hN hst he
  have HNr : Hid (∀ num P, tightX N (selB l num l.length) = some P → P ev 0 ≤ noneD ∧ (P ev 0 < noneD → -26843545600 ≤ P ev 0 ∧ P ev 0 ≤ 26843545600)) := Lib.hid fun num P h => (tightX_some h1 hN (selB_ok hst.2 _ (Nat.le_refl _)) h).2.1 ev 0 he h1
  obtain ⟨Z, hZ⟩ : ∃ z, z = sizeN l l.length := ⟨_, rfl⟩
  rw [← hZ] at KZ hsz HE
  have Hsz := Lib.hid hsz; have Hst := Lib.hid hst; have He := Lib.hid he; have HN1 := Lib.hid h1; have HZ := Lib.hid hZ
  clear hs h1 hN hst hZ hsz he
  go_enter Tryz.func16, Tryz.ntmps16
  go_wp2_with fail
  refine KZ.out.mono ?_
  rintro e w1 ⟨rfl, hb⟩
  have Hb1 := Lib.hid hb
  clear hb KZ
  go_wp2_with fail
  go_loopw [9, 10, 11, 12] (fun bv fv rv i wr => ∃ (k : Nat) (best : Int) (found free : Bool), i = .int .i64 (k : Int) ∧ bv = .int .i64 best ∧ fv = .bool found ∧ rv = .bool free ∧ k ≤ Z ∧ Hid (ErI N l ev k best found free) ∧ Below w.heap.size w wr) (fun _ _ _ i _ => Z - (intOf i).toNat)
  case atStart => exact ⟨0, 0, false, false, rfl, rfl, rfl, rfl, Nat.zero_le _, Lib.hid .zero, Hb1.out⟩
  case round =>
    obtain ⟨k, best, found, free, rfl, rfl, rfl, rfl, hk, HI, hb⟩ := hrel
    have Hb := Lib.hid hb
    clear hb
    rcases Nat.lt_or_ge k Z with hlt | hge
    · have k0 : decide ((k : Int) < (Z : Int)) = true := decide_eq_true (by omega)
      have k00 : decide (k < Z) = true := decide_eq_true hlt
      have k1 : IntKind.i64.wrap ((k : Int) + 1) = (k : Int) + 1 := by have := Hsz.out; rw [IntKind.wrap_i64]; omega
      have K := KS.out wr k Hb.out (by have := Hsz.out; omega)
      have Hlt := Lib.hid hlt
      unfold SelRet at K
      cases hT : tightX N (selB l k l.length) with
      | none =>
        rw [hT] at K
        have HI2 := Lib.hid (HI.out.skip hT)
        have K := Lib.hid K
        clear hT hlt hk HI
        go_wp2_with fail
        refine K.out.mono ?_
        rintro e w2 ⟨b, M, rfl, _, _, hb2⟩
        have Hb2 := Lib.hid (Hb.out.trans (hb2.mono Hb.out.size))
        clear hb2
        have z0 : (none : Option Mat).isSome = false := rfl
        rw [z0]
        clear z0
        go_wp2_with fail
        go_roundw
        case rel => exact ⟨k + 1, best, found, free, by go_num, rfl, rfl, rfl, Hlt.out, HI2, Hb2.out⟩
        case measure => have := Hlt.out; simp [intOf]; omega
      | some P =>
        rw [hT] at K
        have hnr := HNr.out k P hT
        have K := Lib.hid K; have HT := Lib.hid hT
        obtain ⟨x, hx⟩ : ∃ x, x = P ev 0 := ⟨_, rfl⟩
        rw [← hx] at hnr
        have Hx := Lib.hid hx
        clear hT hlt hk hx
        go_wp2_with fail
        refine K.out.mono ?_
        rintro e w2 ⟨b, M, rfl, hm, hMP, hb2⟩
        obtain rfl := hMP P rfl
        obtain ⟨b', c', G, C, hv, hNc, hc2, hbl, hrow⟩ := hm
        injection hv with hv1 hv2 hv3
        cases hv1
        subst hv3
        obtain ⟨a0, a1, a2, a3, a4⟩ := hrow ev He.out
        have a5 := a4 0 HN1.out
        rw [← Hx.out] at a5
        have i0 : (0 : Int) ≤ (ev : Int) := by omega
        have i1 : (ev : Int) < (N : Int) := by have := He.out; omega
        have i2 : ev < N := He.out
        have i3 : (0 : Int) < (N : Int) := by have := HN1.out; omega
        have i4 : 0 < N := HN1.out
        have z0 : (some M : Option Mat).isSome = true := rfl
        rw [z0]
        have Hb2 := Lib.hid (Hb.out.trans (hb2.mono Hb.out.size))
        clear hb2 z0 hMP hNc hc2 hbl hrow a1 a2 a3 a4 hv2
        rcases Int.lt_or_le x noneD with hf | hf
        · have hxb := hnr.2 hf
          have q0 : (x == 4398046511104) = false := by rw [beq_eq_false_iff_ne]; unfold noneD at hf; omega
          have q1 : ¬ x = 4398046511104 := by unfold noneD at hf; omega
          have q2 : IntKind.i64.wrap (-x) = -x := by rw [IntKind.wrap_i64]; omega
          have Hf := Lib.hid hf
          clear hnr hf hxb
          cases found
          · have HI2 := Lib.hid (HI.out.bst Hst.out HT.out (by rw [← Hx.out]; exact Hf.out) (.inl rfl))
            rw [← Hx.out] at HI2
            clear HI
            go_wp2_with fail
            go_roundw
            case rel => exact ⟨k + 1, -x, true, free, by go_num, rfl, rfl, rfl, Hlt.out, HI2, Hb2.out⟩
            case measure => have := Hlt.out; simp [intOf]; omega
          · cases q3 : decide (-x < best)
            · have HI2 := Lib.hid (HI.out.stay HT.out (by rw [← Hx.out]; exact Hf.out) (by rw [← Hx.out]; exact of_decide_eq_false q3))
              clear HI
              go_wp2_with fail
              go_roundw
              case rel => exact ⟨k + 1, best, true, free, by go_num, rfl, rfl, rfl, Hlt.out, HI2, Hb2.out⟩
              case measure => have := Hlt.out; simp [intOf]; omega
            · have HI2 := Lib.hid (HI.out.bst Hst.out HT.out (by rw [← Hx.out]; exact Hf.out) (.inr (by rw [← Hx.out]; exact of_decide_eq_true q3)))
              rw [← Hx.out] at HI2
              clear HI
              go_wp2_with fail
              go_roundw
              case rel => exact ⟨k + 1, -x, true, free, by go_num, rfl, rfl, rfl, Hlt.out, HI2, Hb2.out⟩
              case measure => have := Hlt.out; simp [intOf]; omega
        · have HI2 : Hid (ErI N l ev (k + 1) best true true) := Lib.hid (ErI.fre Hst.out HT.out (by rw [← Hx.out]; omega))
          obtain rfl : x = 4398046511104 := by have := hnr.1; unfold noneD at this hf; omega
          clear hnr hf HI
          go_wp2_with fail
          go_roundw
          case rel => exact ⟨k + 1, best, true, true, by go_num, rfl, rfl, rfl, Hlt.out, HI2, Hb2.out⟩
          case measure => have := Hlt.out; simp [intOf]; omega
    · obtain rfl : k = Z := by omega
      have k0 : decide ((k : Int) < (k : Int)) = false := decide_eq_false (by omega)
      have k00 : decide (k < k) = false := decide_eq_false (by omega)
      have HR := HE.out _ _ _ HI.out
      rw [HZ.out] at HR
      have HR := Lib.hid HR
      clear HI hk hge
      cases found
      · go_wp2_with fail
        go_ret2
        exact ⟨0, 17, rfl, HR.out, Hb.out⟩
      · cases free
        · go_wp2_with fail
          go_ret2
          exact ⟨best, 0, rfl, HR.out, Hb.out⟩
        · go_wp2_with fail
          go_ret2
          exact ⟨0, 7, rfl, HR.out, Hb.out⟩
end Go.Proofs.YtcppcfinnbeboaaGreat

/- Law 47: disjunctive.Minimal. -/
namespace Go.Proofs.YtcppcfinnbeboaaGreat
open Go.RowKit Go.Shelf
open Go.Sort (Holds putRow holds_putRow mapBlock putCells onCells)

def DelRow (g n cap k : Nat) (f : Nat → Int) (w : World) (e : Ending) (w' : World) : Prop := e = .returned (.slice (some ⟨g, 0, none⟩) (n - 1) cap) ∧ RowAt w' g (n - 1) (fun i => if i < k then f i else f (i + 1)) ∧ Below g w w'
theorem slDeleteRow_c (g n cap k : Nat) (f : Nat → Int) (w : World) (hr : RowAt w g n f) (hk : k < n) (hc : n ≤ cap) (hc2 : cap ≤ 9223372036854775807) : Calls Tryz.prog 29 #[.slice (some ⟨g, 0, none⟩) n cap, .int .i64 (k : Int), .int .i64 ((k + 1 : Nat) : Int)] w (DelRow g n cap k f w) := by
  obtain ⟨zs, hzs⟩ : ∃ zs, zs = (List.range n).map f := ⟨_, rfl⟩
  have hlen : zs.length = n := by rw [hzs]; simp
  have hget : ∀ j, j < n → zs[j]? = some (f j) := fun j hj => by rw [hzs]; simp [hj]
  have hget2 : ∀ j, j < n → zs.toArray[j]! = f j := fun j hj => by
    rw [getElem!_pos _ j (by simp; omega)]
    have := hget j hj
    rw [List.getElem?_eq_getElem (by omega)] at this
    simpa using this
  have hH : Holds (Value.int .i64) w g 0 zs.toArray := fun j hj => by
    have hj : j < n := by simpa [hlen] using hj
    rw [hget2 j hj, Nat.zero_add]
    exact ⟨hr.cell j hj, hr.soft j⟩
  have K := AnyG.slices_Delete_int lay_deleteInt g 0 cap k (k + 1) zs w hH (by omega) hc2 (by omega) (by omega)
  rw [hlen] at K
  refine K.mono ?_
  rintro e w' ⟨rfl, q, rfl⟩
  obtain ⟨d, hd⟩ : ∃ d, d = (zs.take k ++ zs.drop (k + 1) ++ List.replicate (k + 1 - k) (0 : Int)).toArray := ⟨_, rfl⟩
  rw [← hd]
  have hds : d.size = n := by rw [hd]; simp [hlen]; omega
  have hdg : ∀ j, j < n - 1 → d[j]? = some (if j < k then f j else f (j + 1)) := fun j hj => by
    rw [hd, List.getElem?_toArray, List.getElem?_append_left (by simp [hlen]; omega)]
    by_cases e : j < k
    · rw [if_pos e, List.getElem?_append_left (by simp [hlen]; omega), List.getElem?_take_of_lt e, hget j (by omega)]
    · rw [if_neg e, List.getElem?_append_right (by simp [hlen]; omega), List.getElem?_drop]
      have : k + 1 + (j - (zs.take k).length) = j + 1 := by simp [hlen]; omega
      rw [this, hget (j + 1) (by omega)]
  have hH' : Holds (Value.int .i64) (putRow (Value.int .i64) (Sort.ahead w q) g 0 d) g 0 d := holds_putRow _ _ g 0 zs.toArray d (fun j hj => hH j hj) (by rw [hds]; simp [hlen])
  obtain ⟨cs, h1, h2, h3⟩ := hr
  have hb : (putRow (Value.int .i64) (Sort.ahead w q) g 0 d).heap[g]? = some (.cells (putCells (Value.int .i64) 0 d cs) 3 (0, 0)) := by
    simp [putRow, mapBlock, Sort.ahead, Array.getElem?_modify, h1, onCells]
  refine ⟨by rw [show k + 1 - k = 1 from by omega], ⟨_, hb, by simp [putCells]; omega, fun j hj => ?_⟩, ⟨rfl, rfl, rfl, by simp [putRow, mapBlock, Sort.ahead], fun i hi => ?_⟩⟩
  · have h4 := (hH' j (by omega)).1
    rw [Nat.zero_add, blk_get hb] at h4
    rw [h4, getElem!_pos _ j (by omega)]
    have h5 := hdg j hj
    rw [Array.getElem?_eq_getElem (by omega)] at h5
    rw [Option.some.inj h5]
  · have hi2 : i ≠ g := by omega
    simp [putRow, mapBlock, Sort.ahead, Array.getElem?_modify, Ne.symm hi2]
/-! ### the part that is kept -/
def natL (ks : List Nat) : List Int := ks.map fun k : Nat => (k : Int)
theorem natL_len (ks : List Nat) : (natL ks).length = ks.length := by unfold natL; simp
theorem natL_iv (ks : List Nat) {i : Nat} (hi : i < ks.length) : iv (natL ks) i = ((ks.getD i 0 : Nat) : Int) := by
  unfold natL iv
  simp [List.getD_eq_getElem?_getD, hi]
def KeptI (l : List Cho) (ks : List Nat) (k : Nat) : Prop := ks.Sublist (List.range l.length) ∧ (∀ y, ¬ SatN (partC l ks) y) ∧ ∀ i, i < k → ∃ y, SatN (partC l (ks.eraseIdx i)) y
theorem erase_erase : ∀ (ks : List Nat) (i j : Nat), j < i → ((ks.eraseIdx i).eraseIdx j).Sublist (ks.eraseIdx j)
  | [], _, _, _ => by simp
  | a :: t, 0, j, h => absurd h (by omega)
  | a :: t, i + 1, 0, _ => by
    simp only [List.eraseIdx_cons_succ, List.eraseIdx_cons_zero]
    exact List.eraseIdx_sublist _ _
  | a :: t, i + 1, j + 1, h => by
    simp only [List.eraseIdx_cons_succ]
    exact (erase_erase t i j (by omega)).cons_cons a
theorem KeptI.start {l : List Cho} (h : ∀ y, ¬ SatN l y) : KeptI l (List.range l.length) 0 := ⟨List.Sublist.refl _, by rw [part_all]; exact h, fun i hi => absurd hi (by omega)⟩
theorem KeptI.next {l : List Cho} {ks : List Nat} {k : Nat} (h : KeptI l ks k) (hx : ∃ y, SatN (partC l (ks.eraseIdx k)) y) : KeptI l ks (k + 1) := ⟨h.1, h.2.1, fun i hi => by
  rcases (show i = k ∨ i < k by omega) with e | e
  · rw [e]; exact hx
  · exact h.2.2 i e⟩
theorem KeptI.del {l : List Cho} {ks : List Nat} {k : Nat} (h : KeptI l ks k) (hx : ∀ y, ¬ SatN (partC l (ks.eraseIdx k)) y) : KeptI l (ks.eraseIdx k) k := ⟨(List.eraseIdx_sublist _ _).trans h.1, hx, fun i hi => by
  obtain ⟨y, hy⟩ := h.2.2 i hi
  exact ⟨y, sat_sub (part_sub (erase_erase ks k i hi)) hy⟩⟩
theorem erase_get (ks : List Nat) (k i : Nat) : (ks.eraseIdx k).getD i 0 = if i < k then ks.getD i 0 else ks.getD (i + 1) 0 := by
  rw [List.getD_eq_getElem?_getD, List.getElem?_eraseIdx]
  split <;> rw [List.getD_eq_getElem?_getD]
theorem part_take (l : List Cho) (ks : List Nat) {j : Nat} (hj : j < ks.length) : partC l (ks.take (j + 1)) = partC l (ks.take j) ++ [cho l (ks.getD j 0)] := by
  rw [List.take_succ_eq_append_getElem hj]
  unfold partC
  rw [List.map_append, List.getD_eq_getElem?_getD, List.getElem?_eq_getElem hj]
  rfl
def MinRet (n : Int) (l : List Cho) (most : Int) (w : World) (e : Ending) (w' : World) : Prop := Below w.heap.size w w' ∧
  ((budE n l most ≠ 0 ∧ e = .returned (.tuple #[.slice none 0 0, .int .i64 (budE n l most)])) ∨
   (budE n l most = 0 ∧ e = .returned (.tuple #[.slice none 0 0, .int .i64 18]) ∧ aboveB l most.toNat = true) ∨
   (budE n l most = 0 ∧ e = .returned (.tuple #[.slice none 0 0, .int .i64 7]) ∧ ∃ y, SatN l y) ∨
   (budE n l most = 0 ∧ ∃ ks v, e = .returned (.tuple #[v, .int .i64 0]) ∧ IsInts w' v (natL ks) ∧ KeptI l ks ks.length))
theorem idx_ne {l : List Cho} (h : ∀ y, ¬ SatN l y) : 0 < l.length := by
  rcases Nat.eq_zero_or_pos l.length with e | e
  · exact absurd (fun i hi => absurd hi (by omega)) (h fun _ => 0)
  · exact e
def slLen : Value → Nat
  | .slice _ n _ => n
  | _ => 0
def ksF (ks : List Nat) (i : Nat) : Int := ((ks.getD i 0 : Nat) : Int)
set_option maxRecDepth 100000 in
set_option maxHeartbeats 8000000 in
theorem djMinimal_c (n most : Int) (v : Value) (l : List Cho) (w : World) (hs : IsChos w v l) : Calls Tryz.prog 10 #[.int .i64 n, v, .int .i64 most] w (MinRet n l most w) := by
  have KB := Lib.hid (djbudget_c n most v l w hs)
  have hsA := hs
  obtain ⟨S, hs⟩ := hs
  obtain ⟨A, c, rfl, _, _⟩ := hs.form
  by_cases hbd : budE n l most = 0
  rotate_left
  · have q0 : (budE n l most != 0) = true := by simpa using hbd
    obtain ⟨z, hz⟩ : ∃ z, z = budE n l most := ⟨_, rfl⟩
    rw [← hz] at KB q0 hbd
    have Hz := Lib.hid hz; have Hbd := Lib.hid hbd
    clear hz hs hsA
    go_enter Tryz.func10, Tryz.ntmps10
    go_wp2_with fail
    refine KB.out.mono ?_
    rintro e w1 ⟨rfl, hb1⟩
    have Hb1 := Lib.hid hb1
    clear hb1
    go_wp2_with fail
    go_ret2
    exact ⟨Hb1.out, .inl ⟨by rw [← Hz.out]; exact Hbd.out, by rw [← Hz.out]; rfl⟩⟩
  rw [hbd] at KB
  obtain ⟨hnet, hm1, hm2⟩ := bud_ok hbd
  obtain ⟨N, rfl, hN1, hN, hst⟩ := net_ok hnet
  obtain ⟨M, rfl⟩ : ∃ M : Nat, most = (M : Int) := ⟨most.toNat, by omega⟩
  have KSv : Hid (∀ X u ks, IsChos X u (partC l ks) → ks.Sublist (List.range l.length) → Calls Tryz.prog 28 #[.int .i64 (N : Int), u, .int .i64 (M : Int)] X (SolveRet N (partC l ks) M X)) := Lib.hid fun X u ks h hk => djsolve_c N u _ M X h hN1 hN (st_sub (by have := part_sub (l := l) hk; rw [part_all] at this; exact this) hst) (by omega) (by omega)
  have KS0 : Hid (∀ X, Below w.heap.size w X → Calls Tryz.prog 28 #[.int .i64 (N : Int), .slice A l.length c, .int .i64 (M : Int)] X (SolveRet N l M X)) := Lib.hid fun X h => djsolve_c N _ _ M X (hsA.below h) hN1 hN hst (by omega) (by omega)
  have Hs : Hid (∀ X, Below w.heap.size w X → ChosIn X (.slice A l.length c) l S) := Lib.hid fun X h => hs.below h
  have HN := Lib.hid (And.intro hN1 hN); have Hst := Lib.hid hst; have Hbd := Lib.hid hbd
  clear hs hsA hN1 hN hst hnet hm1 hm2 hbd
  go_enter Tryz.func10, Tryz.ntmps10
  go_wp2_with fail
  refine KB.out.mono ?_
  rintro e w1 ⟨rfl, hb1⟩
  have Hb1 := Lib.hid hb1
  clear hb1 KB
  go_wp2_with fail
  refine (KS0.out _ Hb1.out).mono ?_
  rintro e w2 ⟨hb2, ⟨rfl, hab⟩ | ⟨rfl, hno⟩ | ⟨P, g, cc, rfl, hsol, _⟩⟩
  · have Hb2 := Lib.hid (Hb1.out.trans (hb2.mono Hb1.out.size)); have Hab := Lib.hid hab
    clear hb2 hab
    go_wp2_with fail
    go_ret2
    exact ⟨Hb2.out, .inr (.inl ⟨Hbd.out, rfl, Hab.out⟩)⟩
  rotate_left
  · have Hb2 := Lib.hid (Hb1.out.trans (hb2.mono Hb1.out.size)); have Hsol := Lib.hid (sol_ex HN.out.1 HN.out.2 hsol)
    clear hb2 hsol
    go_wp2_with fail
    go_ret2
    exact ⟨Hb2.out, .inr (.inr (.inl ⟨Hbd.out, rfl, Hsol.out⟩))⟩
  have Hb2 := Lib.hid (Hb1.out.trans (hb2.mono Hb1.out.size)); have Hno := Lib.hid hno
  have hpos := idx_ne hno
  have Hpos := Lib.hid hpos
  clear hb2 hno
  have Hl60 := Lib.hid Hst.out.1
  obtain ⟨m0, hm0⟩ : ∃ m, m = l.length := ⟨_, rfl⟩
  have Hm0 := Lib.hid hm0
  have hmk := fun X => made_intN X m0 (by have := Hst.out.1; omega)
  rw [← hm0] at hpos
  have Hpos := Lib.hid hpos
  obtain ⟨W, hW⟩ : ∃ y, y = w2.alloc (.cells (Array.replicate m0 (.int .i64 0)) 3) := ⟨_, rfl⟩
  obtain ⟨g0, hg0⟩ : ∃ y, y = w2.heap.size := ⟨_, rfl⟩
  have hr0 : RowAt W g0 m0 (fun i => if i < 0 then (i : Int) else 0) := ⟨_, by rw [hW, hg0]; exact heap_alloc_new w2 _, by simp, fun j hj => by simp [hj]⟩
  have hbW : Below w.heap.size w W := by rw [hW]; exact Hb2.out.alloc Hb2.out.size _
  have Hr0 := Lib.hid hr0; have HbW := Lib.hid hbW; have HW := Lib.hid hW; have Hg0 := Lib.hid hg0
  have Hgw : Hid (w.heap.size ≤ g0) := Lib.hid (by rw [hg0]; exact Hb2.out.size)
  rw [hm0] at hmk
  clear hpos hr0 hbW hW hg0 hm0
  go_wp2_with fail
  rw [← Hm0.out, ← HW.out, ← Hg0.out]
  clear hmk
  go_loopw [45] (fun i wr => ∃ j : Nat, i = .int .i64 (j : Int) ∧ j ≤ m0 ∧ RowAt wr g0 m0 (fun i => if i < j then (i : Int) else 0) ∧ Below w.heap.size w wr) (fun i _ => m0 - (intOf i).toNat)
  case atStart => exact ⟨0, rfl, Nat.zero_le _, Hr0.out, HbW.out⟩
  case round =>
    obtain ⟨j, rfl, hj, hr, hb⟩ := hrel
    rcases Nat.lt_or_ge j m0 with hjl | hjl
    · have j0 : decide ((j : Int) < (m0 : Int)) = true := decide_eq_true (by omega)
      have j00 : decide (j < m0) = true := decide_eq_true hjl
      have j1 : IntKind.i64.wrap ((j : Int) + 1) = (j : Int) + 1 := by rw [IntKind.wrap_i64]; have := Hl60.out; have := Hm0.out; omega
      have j2 : (0 : Int) ≤ (j : Int) := by omega
      have j3 : (j : Int) < (m0 : Int) := by omega
      have a0 := hr.cell j hjl
      have a1 := hr.soft j
      rw [if_neg (by omega)] at a0
      have Hset := Lib.hid ((hr.set j hjl (j : Int)).congr (f' := fun i => if i < j + 1 then (i : Int) else 0) (fun i hi => by
        by_cases e : i = j
        · subst e; rw [if_pos rfl, if_pos (by omega)]
        · rw [if_neg e]
          by_cases e5 : i < j
          · rw [if_pos e5, if_pos (by omega)]
          · rw [if_neg e5, if_neg (by omega)]))
      have Hbs := Lib.hid (hb.setCell (p := ⟨g0, j, none⟩) Hgw.out (.int .i64 (j : Int)))
      have Hjl := Lib.hid hjl
      clear hr hb hjl hj
      go_wp2_with fail
      go_roundw
      case rel => exact ⟨j + 1, by go_num, Hjl.out, Hset.out, Hbs.out⟩
      case measure => have := Hjl.out; simp [intOf]; omega
    · obtain rfl : j = m0 := by omega
      have e0 := Hm0.out
      subst e0
      have j0 : decide ((l.length : Int) < (l.length : Int)) = false := decide_eq_false (by omega)
      have j00 : decide (l.length < l.length) = false := decide_eq_false (by omega)
      have hr1 : RowAt wr g0 l.length (ksF (List.range l.length)) := hr.congr fun i hi => by
        unfold ksF
        rw [if_pos hi, List.getD_eq_getElem?_getD, List.getElem?_range hi]
        rfl
      have Hr1 := Lib.hid hr1; have Hb1 := Lib.hid hb
      have Hk0 := Lib.hid (KeptI.start Hno.out)
      clear hr hr1 hb hj hjl Hr0 HbW HW
      go_wp2_with fail
      clear j0 j00
      go_loopw [11, 13] (fun kv i wq => ∃ (ks : List Nat) (g cap k : Nat), kv = .slice (some ⟨g, 0, none⟩) ks.length cap ∧ i = .int .i64 (k : Int) ∧ k ≤ ks.length ∧ ks.length ≤ 60 ∧ ks.length ≤ cap ∧ cap ≤ 9223372036854775807 ∧ RowAt wq g ks.length (ksF ks) ∧ w.heap.size ≤ g ∧ Hid (KeptI l ks k) ∧ Below w.heap.size w wq) (fun kv i _ => slLen kv - (intOf i).toNat)
      case atStart =>
        have e := List.length_range (n := l.length)
        have e3 := Hl60.out
        refine ⟨List.range l.length, g0, l.length, 0, by rw [e], rfl, Nat.zero_le _, by omega, by omega, by omega, ?_, Hgw.out, Hk0, Hb1.out⟩
        have e4 := Hr1.out
        rw [← e] at e4
        rw [e] at e4 ⊢
        exact e4
      case round =>
        obtain ⟨ks, g, cap, k, rfl, rfl, hk, hk60, hcap, hcap2, hr, hg, HK, hb⟩ := hrel
        have Hk60 := Lib.hid hk60; have Hr := Lib.hid hr; have Hg := Lib.hid hg; have Hb := Lib.hid hb; have Hcap := Lib.hid (And.intro hcap hcap2)
        have HI := Lib.hid (cells_ints hr.lt (natL_len ks) hcap hcap2 (fun j hj => by rw [natL_iv ks hj]; exact hr.cell j hj))
        clear hr hg hb hk60 hcap hcap2
        rcases Nat.lt_or_ge k ks.length with hkl | hkl
        rotate_left
        · obtain rfl : k = ks.length := by omega
          have k0 : decide ((ks.length : Int) < (ks.length : Int)) = false := decide_eq_false (by omega)
          have k00 : decide (ks.length < ks.length) = false := decide_eq_false (by omega)
          clear hk hkl
          go_wp2_with fail
          go_ret2
          exact ⟨Hb.out, .inr (.inr (.inr ⟨Hbd.out, ks, _, rfl, HI.out, HK.out⟩))⟩
        · have k0 : decide ((k : Int) < (ks.length : Int)) = true := decide_eq_true (by omega)
          have k00 : decide (k < ks.length) = true := decide_eq_true hkl
          have k1 : IntKind.i64.wrap ((k : Int) + 1) = (k : Int) + 1 := by rw [IntKind.wrap_i64]; have := Hk60.out; omega
          have hk60 := Hk60.out
          have KC := Lib.hid (slCloneRow_c g ks.length cap (natL ks) _ HI.out (natL_len ks) (by omega) (by omega))
          have Hkl := Lib.hid hkl
          obtain ⟨js, hjs⟩ : ∃ y, y = ks.eraseIdx k := ⟨_, rfl⟩
          have hjl : ks.length - 1 = js.length := by rw [hjs, List.length_eraseIdx_of_lt hkl]
          have Hjs := Lib.hid hjs; have Hjl := Lib.hid hjl
          have Hsub : Hid (js.Sublist (List.range l.length)) := Lib.hid (by rw [hjs]; exact (List.eraseIdx_sublist _ _).trans HK.out.1)
          clear hk hkl hk60 hjs
          go_wp2_with fail
          refine KC.out.mono ?_
          rintro e w3 ⟨g2, c2, rfl, hr2, hg2, hc2, hc3, hb3⟩
          have KD := slDeleteRow_c g2 ks.length c2 k (iv (natL ks)) w3 hr2 Hkl.out hc2 hc3
          unfold DelRow at KD
          rw [hjl] at KD
          have KD := Lib.hid KD
          have Hg2 := Lib.hid hg2; have Hb3 := Lib.hid hb3; have Hc2 := Lib.hid (And.intro hc2 hc3)
          clear hr2 hg2 hc2 hc3 hb3 hjl KC
          go_wp2_with fail
          refine KD.out.mono ?_
          rintro e w4 ⟨rfl, hr4, hb4⟩
          have hg2w : w.heap.size ≤ g2 := Nat.le_trans Hb.out.size Hg2.out
          have hr4' : RowAt w4 g2 js.length (ksF js) := hr4.congr fun i hi => by
            have hl := Hjl.out
            have hk := Hkl.out
            unfold ksF
            rw [Hjs.out, erase_get]
            split
            · rw [natL_iv ks (by omega)]
            · rw [natL_iv ks (by omega)]
          have hr4k : RowAt w4 g ks.length (ksF ks) := ((Hr.out).below Hb3.out).block (hb4.block g (Nat.lt_of_lt_of_le Hr.out.lt Hg2.out))
          have hbw4 : Below w.heap.size w w4 := (Hb.out.trans (Hb3.out.mono Hb.out.size)).trans (hb4.mono hg2w)
          have Hr4 := Lib.hid hr4'; have Hr4k := Lib.hid hr4k; have Hbw4 := Lib.hid hbw4; have Hg2w := Lib.hid hg2w
          clear hr4 hb4 hg2w hr4' hr4k hbw4 KD Hr Hb HI
          go_wp2_with fail
          go_loopw [15, 65] (fun pv i wz => ∃ j : Nat, i = .int .i64 (j : Int) ∧ j ≤ js.length ∧ OwnC wz w4.heap.size pv (partC l (js.take j)) (fun i => S (js.getD i 0)) ∧ Below w4.heap.size w4 wz) (fun _ i _ => js.length - (intOf i).toNat)
          case atStart => exact ⟨0, rfl, Nat.zero_le _, .nil, Below.refl _ _⟩
          case round =>
            obtain ⟨j, rfl, hj, ho, hbz⟩ := hrel
            obtain ⟨Ap, cp, rfl⟩ := ho.form
            have Ho := Lib.hid ho; have Hbz := Lib.hid hbz
            have hjs60 : js.length ≤ 60 := by have := Hjl.out; have := Hk60.out; omega
            have Hj60 := Lib.hid hjs60
            rcases Nat.lt_or_ge j js.length with hjl | hjl
            · have j0 : decide ((j : Int) < (js.length : Int)) = true := decide_eq_true (by omega)
              have j00 : decide (j < js.length) = true := decide_eq_true hjl
              have j1 : IntKind.i64.wrap ((j : Int) + 1) = (j : Int) + 1 := by rw [IntKind.wrap_i64]; omega
              have j2 : (0 : Int) ≤ (j : Int) := by omega
              have j3 : (j : Int) < (js.length : Int) := by omega
              have a0 := (Hr4.out.below hbz).cell j hjl
              obtain ⟨x, hx⟩ : ∃ x, x = js.getD j 0 := ⟨_, rfl⟩
              have a1 : ksF js j = (x : Int) := by rw [hx]; rfl
              rw [a1] at a0
              have hxl : x < l.length := by
                have : js[j] ∈ js := List.getElem_mem hjl
                have h2 := sub_lt Hsub.out _ this
                rw [hx, List.getD_eq_getElem?_getD, List.getElem?_eq_getElem hjl]
                exact h2
              have x0 : (0 : Int) ≤ (x : Int) := by omega
              have x1 : (x : Int) < (l.length : Int) := by omega
              have hbwz : Below w.heap.size w wr := Hbw4.out.trans (hbz.mono Hbw4.out.size)
              have hsr := Hs.out _ hbwz
              obtain ⟨gl, ol, rfl, _⟩ := hsr.addr (by omega)
              have d0 := hsr.c0 x hxl
              have d1 := hsr.c1 x hxl
              have d2 := hsr.c2 x hxl
              have hsp := hsr.2 x hxl
              have hcn := Hst.out.2 x hxl
              have hpos := hcn.2.2.2.2.1
              have hblk : ∀ g, sblk (S x) = some g → g < w.heap.size := fun g hg => ((Hs.out _ (Below.refl _ _)).2 x hxl).blk_lt hpos g hg
              have hstep := part_take l js hjl
              rw [← hx] at hstep
              have hSx : S x = (fun i => S (js.getD i 0)) j := by rw [hx]
              have Hstep := Lib.hid hstep; have Hx := Lib.hid hx; have Hjl2 := Lib.hid hjl; have Hsp := Lib.hid hsp; have Hblk := Lib.hid hblk; have Hpos := Lib.hid hpos
              obtain ⟨cI, hI⟩ : ∃ y, y = (cho l x).1 := ⟨_, rfl⟩
              obtain ⟨cJ, hJ⟩ : ∃ y, y = (cho l x).2.1 := ⟨_, rfl⟩
              obtain ⟨cS, hS⟩ : ∃ y, y = (cho l x).2.2 := ⟨_, rfl⟩
              obtain ⟨sv, hsv⟩ : ∃ y, y = S x := ⟨_, rfl⟩
              rw [← hI] at d0
              rw [← hJ] at d1
              rw [← hS, ← hsv] at Hsp
              rw [← hS] at Hpos
              rw [← hsv] at d2 Hblk
              have Hcho : Hid (cho l x = (cI, cJ, cS)) := Lib.hid (by rw [hI, hJ, hS])
              have Hsv := Lib.hid hsv
              obtain ⟨A3, n3, c3, rfl⟩ : ∃ A n c, sv = .slice A n c := by
                obtain ⟨A3, c3, e, _⟩ := hsp.form
                exact ⟨A3, _, c3, hsv.trans e⟩
              have Hbwz := Lib.hid hbwz
              clear ho hbz hjl hj hxl hbwz hsr hsp hcn hpos hblk hstep hSx hx hI hJ hS hsv a1 hjs60
              go_wp2_with (at_builtin; refine append_choG rfl _ _ rfl w4.heap.size _ (partC l (js.take j)) (fun i => S (js.getD i 0)) cI cJ _ cS (by rfl) Ho.out (by rfl) Hsp.out Hpos.out (fun gg h e => by have h1 := (World.ownsRow.lt Ho.out.own gg h).1; have h2 := Hblk.out gg e; have h3 := Hbw4.out.size; omega) (by rw [part_len, List.length_take]; have := Hj60.out; omega) Hbz.out.size ?_; intro v7 w7 hout7 hb7 _ _)
              have hlt : (partC l (js.take j)).length = j := by rw [part_len, List.length_take]; have := Hjl2.out; omega
              have HF : Hid (OwnC w7 w4.heap.size v7 (partC l (js.take (j + 1))) (fun i => S (js.getD i 0))) := Lib.hid (by
                rw [Hstep.out, Hcho.out]
                have e : (fun i => S (js.getD i 0)) = fun i => if i = (partC l (js.take j)).length then Value.slice A3 n3 c3 else S (js.getD i 0) := by
                  funext i
                  rw [hlt]
                  by_cases e : i = j
                  · rw [if_pos e, e, ← Hx.out, ← Hsv.out]
                  · rw [if_neg e]
                rw [e]
                exact hout7)
              have Hb7 := Lib.hid (Hbz.out.trans hb7)
              clear hout7 hb7 hlt
              go_wp2_with fail
              go_roundw
              case rel => exact ⟨j + 1, by go_num, Hjl2.out, HF.out, Hb7.out⟩
              case measure => have := Hjl2.out; simp [intOf]; omega
            · obtain rfl : j = js.length := by omega
              have j0 : decide ((js.length : Int) < (js.length : Int)) = false := decide_eq_false (by omega)
              have j00 : decide (js.length < js.length) = false := decide_eq_false (by omega)
              have ht : js.take js.length = js := List.take_length
              have hch := ho.chos
              rw [ht] at hch
              have hpl : (partC l (js.take js.length)).length = (partC l js).length := by rw [ht]
              have KZ := KSv.out wr _ js hch Hsub.out
              have KZ := Lib.hid KZ
              have Hsb : Hid ((partC l js).Sublist l) := Lib.hid (by have := part_sub (l := l) Hsub.out; rw [part_all] at this; exact this)
              have hbwz : Below w.heap.size w wr := Hbw4.out.trans (hbz.mono Hbw4.out.size)
              have Hbwz := Lib.hid hbwz
              clear ho hch hpl hj hjl hjs60 hbz hbwz
              go_wp2_with fail
              refine KZ.out.mono ?_
              rintro e w5 ⟨hb5, ⟨rfl, hab⟩ | ⟨rfl, hno⟩ | ⟨P, gp, cq, rfl, hsol, _⟩⟩
              · have Hb5 := Lib.hid (Hbwz.out.trans (hb5.mono Hbwz.out.size)); have Hab := Lib.hid (above_sub Hsb.out Hst.out hab)
                clear hb5 hab
                go_wp2_with fail
                go_ret2
                exact ⟨Hb5.out, .inr (.inl ⟨Hbd.out, rfl, Hab.out⟩)⟩
              · have Hb5 := Lib.hid (Hbwz.out.trans (hb5.mono Hbwz.out.size))
                have HK2 : Hid (KeptI l js k) := Lib.hid (by rw [Hjs.out]; exact HK.out.del (by rw [← Hjs.out]; exact hno))
                have Hr5 := Lib.hid ((Hr4.out.below Hbz.out).below hb5)
                have hkj : k ≤ js.length := by have := Hjl.out; have := Hkl.out; omega
                have Hkj := Lib.hid hkj
                clear hb5 hno hkj
                go_wp2_with fail
                go_roundw
                case rel => exact ⟨js, g2, c2, k, rfl, rfl, Hkj.out, by have := Hjl.out; have := Hk60.out; omega, by have := Hc2.out; have := Hjl.out; omega, Hc2.out.2, Hr5.out, Hg2w.out, HK2, Hb5.out⟩
                case measure => have := Hjl.out; have := Hkl.out; simp [intOf, slLen]; omega
              · have Hb5 := Lib.hid (Hbwz.out.trans (hb5.mono Hbwz.out.size))
                have HK2 : Hid (KeptI l ks (k + 1)) := Lib.hid (HK.out.next (by rw [← Hjs.out]; exact sol_ex HN.out.1 HN.out.2 hsol))
                have Hr5 := Lib.hid ((Hr4k.out.below Hbz.out).below hb5)
                clear hb5 hsol
                go_wp2_with fail
                go_roundw
                case rel => exact ⟨ks, g, cap, k + 1, rfl, by go_num, Hkl.out, Hk60.out, Hcap.out.1, Hcap.out.2, Hr5.out, Hg.out, HK2, Hb5.out⟩
                case measure => have := Hkl.out; simp [intOf, slLen]; omega
end Go.Proofs.YtcppcfinnbeboaaGreat

/- Law 47: is a network small; the answers of the searches in short. -/
namespace Go.Proofs.YtcppcfinnbeboaaGreat
open Go.RowKit Go.Shelf

def smallB (n : Int) (l : List Cho) : Bool := netB n l && decide (n ≤ 6) && decide ((l.length : Int) ≤ 10) && !aboveB l 120
theorem sizeR_gt (l : List Cho) (m : Nat) : decide ((m : Int) < ((sizeR l m : Nat) : Int)) = aboveB l m := by
  unfold sizeR
  cases h : aboveB l m
  · have h2 : ¬ m < sizeN l l.length := of_decide_eq_false h
    show decide ((m : Int) < ((sizeN l l.length : Nat) : Int)) = false
    exact decide_eq_false (by omega)
  · show decide ((m : Int) < ((m + 1 : Nat) : Int)) = true
    exact decide_eq_true (by omega)
theorem sizeR_le (l : List Cho) (m : Nat) : decide (((sizeR l m : Nat) : Int) ≤ (m : Int)) = !aboveB l m := by
  rw [← sizeR_gt]
  by_cases h : (m : Int) < ((sizeR l m : Nat) : Int)
  · rw [decide_eq_true h, decide_eq_false (by omega)]; rfl
  · rw [decide_eq_false h, decide_eq_true (by omega)]; rfl
theorem st_size {N : Nat} {l : List Cho} (h : StOk N l) : ∀ i, i < l.length → 1 ≤ (cho l i).2.2.length ∧ (cho l i).2.2.length ≤ 8 := fun i hi => ⟨(h.2 i hi).2.2.2.2.1, (h.2 i hi).2.2.2.2.2.1⟩
set_option maxRecDepth 100000 in
theorem small47_c (n : Int) (v : Value) (l : List Cho) (w : World) (hs : IsChos w v l) : Calls Tryz.prog 9 #[.int .i64 n, v] w (Ret w (.bool (smallB n l))) := by
  have KV := Lib.hid (r47Valid_c n v l w hs)
  obtain ⟨R, hR⟩ : ∃ b, b = smallB n l := ⟨_, rfl⟩
  rw [← hR]
  have Hsx := Lib.hid hs
  obtain ⟨S, hs⟩ := hs
  obtain ⟨A, c, rfl, _, _⟩ := hs.form
  clear hs
  unfold smallB at hR
  cases hv : netB n l
  · rw [hv] at KV hR
    have HR : Hid (R = false) := Lib.hid (by rw [hR]; rfl)
    clear hv hR
    go_enter Tryz.func9, Tryz.ntmps9
    go_wp2_with fail
    refine KV.out.mono ?_
    rintro e w1 ⟨rfl, hb1⟩
    have Hb1 := Lib.hid hb1
    clear hb1
    go_wp2_with fail
    go_ret
    exact ⟨by rw [HR.out]; rfl, Hb1.out⟩
  obtain ⟨N, rfl, hN1, hN, hst⟩ := net_ok hv
  rw [hv] at KV hR
  clear hv
  have KZ : Hid (∀ X, Below w.heap.size w X → Calls Tryz.prog 15 #[.slice A l.length c, .int .i64 120] X (Ret X (.int .i64 ((sizeR l 120 : Nat) : Int)))) := Lib.hid fun X h => r47Size_c _ l 120 X (Hsx.out.below h) (by have := hst.1; omega) (st_size hst) (by omega) (by omega)
  have hz := sizeR_le l 120
  cases q1 : decide ((N : Int) ≤ 6)
  · have q11 : decide (N ≤ 6) = false := decide_eq_false (by have := of_decide_eq_false q1; omega)
    have HR : Hid (R = false) := Lib.hid (by rw [hR, q1]; rfl)
    clear hR hz hst
    go_enter Tryz.func9, Tryz.ntmps9
    go_wp2_with fail
    refine KV.out.mono ?_
    rintro e w1 ⟨rfl, hb1⟩
    have Hb1 := Lib.hid hb1
    clear hb1
    go_wp2_with fail
    go_ret
    exact ⟨by rw [HR.out]; rfl, Hb1.out⟩
  have q11 : decide (N ≤ 6) = true := decide_eq_true (by have := of_decide_eq_true q1; omega)
  cases q2 : decide ((l.length : Int) ≤ 10)
  · have q22 : decide (l.length ≤ 10) = false := decide_eq_false (by have := of_decide_eq_false q2; omega)
    have HR : Hid (R = false) := Lib.hid (by rw [hR, q1, q2]; rfl)
    clear hR hz hst
    go_enter Tryz.func9, Tryz.ntmps9
    go_wp2_with fail
    refine KV.out.mono ?_
    rintro e w1 ⟨rfl, hb1⟩
    have Hb1 := Lib.hid hb1
    clear hb1
    go_wp2_with fail
    go_ret
    exact ⟨by rw [HR.out]; rfl, Hb1.out⟩
  have q22 : decide (l.length ≤ 10) = true := decide_eq_true (by have := of_decide_eq_true q2; omega)
  rw [q1, q2, ← hz] at hR
  generalize sizeR l 120 = z at KZ hR
  have HR : Hid (R = decide ((z : Int) ≤ 120)) := Lib.hid (by rw [hR]; rfl)
  clear hR hz hst
  cases q3 : decide ((z : Int) ≤ 120)
  all_goals
    rw [q3] at HR
    first
    | have q33 : decide (z ≤ 120) = false := decide_eq_false (by have := of_decide_eq_false q3; omega)
    | have q33 : decide (z ≤ 120) = true := decide_eq_true (by have := of_decide_eq_true q3; omega)
    go_enter Tryz.func9, Tryz.ntmps9
    go_wp2_with fail
    refine KV.out.mono ?_
    rintro e w1 ⟨rfl, hb1⟩
    have Hb1 := Lib.hid hb1
    clear hb1
    go_wp2_with fail
    refine (KZ.out _ Hb1.out).mono ?_
    rintro e w2 ⟨rfl, hb2⟩
    have Hb2 := Lib.hid (Hb1.out.trans (hb2.mono Hb1.out.size))
    clear hb2
    go_wp2_with fail
    go_ret
    exact ⟨by rw [HR.out]; rfl, Hb2.out⟩
theorem small_ok {n : Int} {l : List Cho} (h : smallB n l = true) : ∃ N : Nat, n = (N : Int) ∧ 1 ≤ N ∧ N ≤ 6 ∧ StOk N l ∧ l.length ≤ 10 ∧ sizeN l l.length ≤ 120 ∧ netB n l = true := by
  unfold smallB at h
  simp only [Bool.and_eq_true, Bool.not_eq_true', decide_eq_true_eq] at h
  obtain ⟨⟨⟨h1, h2⟩, h3⟩, h4⟩ := h
  obtain ⟨N, rfl, hN1, hN, hst⟩ := net_ok h1
  exact ⟨N, rfl, hN1, by omega, hst, by omega, by have := of_decide_eq_false h4; omega, h1⟩
theorem bud_zero {n : Int} {l : List Cho} (h : netB n l = true) {m : Int} (h1 : 1 ≤ m) (h2 : m ≤ 100000) : budE n l m = 0 := by
  unfold budE
  rw [h, decide_eq_false (by omega), decide_eq_false (by omega)]
  rfl
theorem above_small {l : List Cho} {m : Nat} (h : sizeN l l.length ≤ m) : aboveB l m = false := decide_eq_false (by omega)
/-! ### the answers in short -/
def SolC (l : List Cho) (b : Nat) (c : Int) : Prop := (c = 18 ∧ aboveB l b = true) ∨ (c = 17 ∧ ∀ x, ¬ SatN l x) ∨ (c = 0 ∧ ∃ x, SatN l x)
def MinC (l : List Cho) (b : Nat) (c : Int) : Prop := (c = 18 ∧ aboveB l b = true) ∨ (c = 0 ∧ ∀ x, ¬ SatN l x) ∨ (c = 7 ∧ ∃ x, SatN l x)
theorem solC_two {l : List Cho} {a b : Nat} {e f : Int} (h : SolC l a e) (h' : SolC l b f) (hb : aboveB l b = false) : f ≠ 18 ∧ (e = f ∨ e = 18 ∧ aboveB l a = true) := by
  rcases h' with ⟨rfl, h2⟩ | ⟨rfl, h2⟩ | ⟨rfl, x, h2⟩
  · rw [hb] at h2; cases h2
  · refine ⟨by decide, ?_⟩
    rcases h with h | ⟨rfl, _⟩ | ⟨_, y, h3⟩
    · exact .inr h
    · exact .inl rfl
    · exact absurd h3 (h2 y)
  · refine ⟨by decide, ?_⟩
    rcases h with h | ⟨_, h3⟩ | ⟨rfl, _⟩
    · exact .inr h
    · exact absurd h2 (h3 x)
    · exact .inl rfl
theorem minC_two {l : List Cho} {a b : Nat} {e f : Int} (h : MinC l a e) (h' : MinC l b f) (hb : aboveB l b = false) : f ≠ 18 ∧ (e = f ∨ e = 18 ∧ aboveB l a = true) := by
  rcases h' with ⟨rfl, h2⟩ | ⟨rfl, h2⟩ | ⟨rfl, x, h2⟩
  · rw [hb] at h2; cases h2
  · refine ⟨by decide, ?_⟩
    rcases h with h | ⟨rfl, _⟩ | ⟨_, y, h3⟩
    · exact .inr h
    · exact .inl rfl
    · exact absurd h3 (h2 y)
  · refine ⟨by decide, ?_⟩
    rcases h with h | ⟨_, h3⟩ | ⟨rfl, _⟩
    · exact .inr h
    · exact absurd h2 (h3 x)
    · exact .inl rfl
theorem earS_two {l : List Cho} {k a b : Nat} {x y e f : Int} (h : EarlyS l k a x e) (h' : EarlyS l k b y f) (hb : aboveB l b = false) : f ≠ 18 ∧ ((e = f ∧ x = y) ∨ e = 18 ∧ aboveB l a = true) := by
  have hf : f ≠ 18 := by
    rcases h' with ⟨_, rfl, _⟩ | ⟨_, _, h2⟩ | ⟨_, rfl, _⟩ | ⟨rfl, _⟩
    · decide
    · rw [hb] at h2; cases h2
    · decide
    · decide
  refine ⟨hf, ?_⟩
  by_cases he : e = 18
  · refine .inr ⟨he, ?_⟩
    rcases h with ⟨_, rfl, _⟩ | ⟨_, _, h2⟩ | ⟨_, rfl, _⟩ | ⟨rfl, _⟩
    · exact absurd he (by decide)
    · exact h2
    · exact absurd he (by decide)
    · exact absurd he (by decide)
  · obtain ⟨h1, h2⟩ := early_one h h' he hf
    exact .inl ⟨h2, h1⟩
def SolCRet (l : List Cho) (b : Nat) (w : World) (e : Ending) (w' : World) : Prop := ∃ A n c k, e = .returned (.tuple #[.slice A n c, .int .i64 k]) ∧ SolC l b k ∧ Below w.heap.size w w'
theorem djSolve_s (N b : Nat) (v : Value) (l : List Cho) (w : World) (hs : IsChos w v l) (hv : netB (N : Int) l = true) (h1 : 1 ≤ b) (h2 : b ≤ 100000) : Calls Tryz.prog 13 #[.int .i64 (N : Int), v, .int .i64 (b : Int)] w (SolCRet l b w) := by
  refine (djSolve_c _ _ v l w hs).mono ?_
  obtain ⟨N', hN', hN1, hN, hst⟩ := net_ok hv
  obtain rfl : N' = N := by omega
  rintro e w' ⟨hb, ⟨q1, _⟩ | ⟨_, w0, _, q2⟩⟩
  · exact absurd (bud_zero hv (by omega) (by omega)) q1
  · rw [Int.toNat_natCast, Int.toNat_natCast] at q2
    obtain ⟨_, ⟨rfl, q⟩ | ⟨rfl, q⟩ | ⟨P, g, c, rfl, q, _⟩⟩ := q2
    · exact ⟨_, _, _, _, rfl, .inl ⟨rfl, q⟩, hb⟩
    · exact ⟨_, _, _, _, rfl, .inr (.inl ⟨rfl, q⟩), hb⟩
    · exact ⟨_, _, _, _, rfl, .inr (.inr ⟨rfl, sol_ex hN1 hN q⟩), hb⟩
def MinCRet (l : List Cho) (b : Nat) (w : World) (e : Ending) (w' : World) : Prop := ∃ A n c k, e = .returned (.tuple #[.slice A n c, .int .i64 k]) ∧ MinC l b k ∧ Below w.heap.size w w'
theorem djMinimal_s (N b : Nat) (v : Value) (l : List Cho) (w : World) (hs : IsChos w v l) (hv : netB (N : Int) l = true) (h1 : 1 ≤ b) (h2 : b ≤ 100000) : Calls Tryz.prog 10 #[.int .i64 (N : Int), v, .int .i64 (b : Int)] w (MinCRet l b w) := by
  refine (djMinimal_c _ _ v l w hs).mono ?_
  rintro e w' ⟨hb, ⟨q1, _⟩ | ⟨_, rfl, q⟩ | ⟨_, rfl, q⟩ | ⟨_, ks, u, rfl, hi, hk⟩⟩
  · exact absurd (bud_zero hv (by omega) (by omega)) q1
  · rw [Int.toNat_natCast] at q
    exact ⟨_, _, _, _, rfl, .inl ⟨rfl, q⟩, hb⟩
  · exact ⟨_, _, _, _, rfl, .inr (.inr ⟨rfl, q⟩), hb⟩
  · obtain ⟨A, c, rfl, _⟩ := hi.form
    refine ⟨_, _, _, _, rfl, .inr (.inl ⟨rfl, fun x hx => hk.2.1 x ?_⟩), hb⟩
    have := part_sub (l := l) hk.1
    rw [part_all] at this
    exact sat_sub this hx
def EarSRet (l : List Cho) (k b : Nat) (w : World) (e : Ending) (w' : World) : Prop := ∃ x c, e = .returned (.tuple #[.int .i64 x, .int .i64 c]) ∧ EarlyS l k b x c ∧ Below w.heap.size w w'
theorem djEarliest_s (N k b : Nat) (v : Value) (l : List Cho) (w : World) (hs : IsChos w v l) (hv : netB (N : Int) l = true) (hk : k < N) (h1 : 1 ≤ b) (h2 : b ≤ 100000) : Calls Tryz.prog 14 #[.int .i64 (N : Int), v, .int .i64 (k : Int), .int .i64 (b : Int)] w (EarSRet l k b w) := by
  refine (djEarliest_c _ _ _ v l w hs).mono ?_
  obtain ⟨N', hN', hN1, hN, hst⟩ := net_ok hv
  obtain rfl : N' = N := by omega
  rintro e w' ⟨hb, x, c, rfl, ⟨q1, _⟩ | ⟨_, q1, _⟩ | ⟨_, _, _, q2⟩⟩
  · exact absurd (bud_zero hv (by omega) (by omega)) q1
  · omega
  · rw [Int.toNat_natCast, Int.toNat_natCast, Int.toNat_natCast] at q2
    exact ⟨x, c, rfl, early_s hN1 hN hk q2, hb⟩
end Go.Proofs.YtcppcfinnbeboaaGreat
