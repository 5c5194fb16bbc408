/- Law 42: the walk of grow. -/
import Derived.Test.YtgdcgdjlhljbiaaIdxK
import Derived.Deep.RegionHeld3
import Derived.Test.YtgdcgdjlhljbiaaHeldL
import Derived.StillTailTactics
namespace Go.Proofs.Ytgdcgdjlhljbiaa
open Go.RowKit

/-- What grow leaves. -/
def GrowRet (base B : Nat) (w : World) (l : List En) (N : List Nd) (e : Ending) (w' : World) : Prop :=
  ∃ r v' N', e = .returned (.int .i64 r) ∧ GrowOk l N N' r ∧ TreeAt w' B v' ∧ OwnsN w' base v' N' ∧ v'.ownBlock ≠ some B ∧ Below base w w'
theorem ents_take {w : World} {A : Option Addr} {c k : Nat} {l : List En} (h : IsEnts w (.slice A l.length c) l) (hk : k ≤ l.length) : IsEnts w (.slice A k c) (l.take k) := by
  have e : (l.take k).length = k := by simp; omega
  unfold IsEnts
  rw [e]
  refine (hi_rows h k hk).congr fun i j hi _ => ?_
  unfold entCell
  rw [← en_at (by omega), ← en_at (L := l.take k) (by rw [e]; exact hi), List.getElem_take]
theorem ents_drop {w : World} {A : Option Addr} {c k : Nat} {l : List En} (h : IsEnts w (.slice A l.length c) l) (hk : k ≤ l.length) : IsEnts w (.slice (if c = k then A else A.map fun x => x.add (k * 3)) (l.length - k) (c - k)) (l.drop k) := by
  have e : (l.drop k).length = l.length - k := by simp
  unfold IsEnts
  rw [e]
  refine (lo_rows h k hk).congr fun i j hi _ => ?_
  unfold entCell
  rw [← en_at (by omega), ← en_at (L := l.drop k) (by rw [e]; exact hi), List.getElem_drop]
  have e2 : i + k = k + i := Nat.add_comm _ _
  simp only [e2]
theorem ents_drops {w : World} {b off c k : Nat} {l : List En} (h : IsEnts w (.slice (some ⟨b, off, none⟩) l.length c) l) (hk : k ≤ l.length) : IsEnts w (.slice (if c = k then some ⟨b, off, none⟩ else some ⟨b, off + k * 3, none⟩) (l.length - k) (c - k)) (l.drop k) := by
  have := ents_drop h hk
  rwa [Option.map_some, show (⟨b, off, none⟩ : Addr).add (k * 3) = ⟨b, off + k * 3, none⟩ from by
    by_cases h0 : k * 3 = 0
    · rw [h0]; simp [Addr.add]
    · simp [Addr.add]; omega] at this
theorem ent3 {base b o : Nat} {w w' : World} {x y z : Value} (h : Below base w w') (hb : b < base) (h0 : w.cell? ⟨b, o, none⟩ = some x) (h1 : w.cell? ⟨b, o + 1, none⟩ = some y) (h2 : w.cell? ⟨b, o + 2, none⟩ = some z) :
    w'.cell? ⟨b, o, none⟩ = some x ∧ w'.cell? ⟨b, o + 1, none⟩ = some y ∧ w'.cell? ⟨b, o + 2, none⟩ = some z := ⟨(h.cell hb).trans h0, (h.cell hb).trans h1, (h.cell hb).trans h2⟩
theorem OwnsN.other {w w' : World} {base g n cap : Nat} {N : List Nd} (h : OwnsN w base (.slice (some ⟨g, 0, none⟩) n cap) N) (hb : w'.heap[g]? = w.heap[g]?) : OwnsN w' base (.slice (some ⟨g, 0, none⟩) n cap) N := by
  refine ⟨h.1, h.2.imp id ?_⟩
  rintro ⟨g', cap', cur, hv, hg, hh, r⟩
  injection hv with e1 e2 e3
  injection e1 with e1
  injection e1 with e1
  subst e1 e3
  exact ⟨g, cap, cur, by rw [e2], hg, hb.trans hh, r⟩
/-! ### the numbers of a new node, plain -/
def gm (N : List Nd) (m j : Int) : Int := if j < 0 then m else max m (nd N j.toNat).m
def gh (N : List Nd) (h j : Int) : Int := if j < 0 then h else max h (1 + (nd N j.toNat).h)
def gj (a b : Int) (q : Nat) : Int := if q = 0 then a else b
def gM (N : List Nd) (t a b : Int) (q : Nat) : Int := if q = 0 then t else if q = 1 then gm N t a else gm N (gm N t a) b
def gH (N : List Nd) (a b : Int) (q : Nat) : Int := if q = 0 then 1 else if q = 1 then gh N 1 a else gh N (gh N 1 a) b
theorem gM_succ (N : List Nd) (t a b : Int) {q : Nat} (h : q < 2) : gM N t a b (q + 1) = gm N (gM N t a b q) (gj a b q) := by
  rcases (by omega : q = 0 ∨ q = 1) with rfl | rfl <;> rfl
theorem gH_succ (N : List Nd) (a b : Int) {q : Nat} (h : q < 2) : gH N a b (q + 1) = gh N (gH N a b q) (gj a b q) := by
  rcases (by omega : q = 0 ∨ q = 1) with rfl | rfl <;> rfl
theorem gM_end {N : List Nd} {t a b : Int} (ht : -4398046511104 ≤ t) : gM N t a b 2 = max (max (mOf N a) (mOf N b)) t := by
  unfold gM gm mOf
  rw [if_neg (by omega), if_neg (by omega)]
  repeat' split
  all_goals omega
def RootIn (i : Nat) (N : List Nd) (r : Int) : Prop := r < 0 ∨ ∃ j : Nat, r = j ∧ i < j ∧ j < N.length ∧ 0 ≤ (nd N j).h ∧ (nd N j).h ≤ 200000
theorem gH_end {i : Nat} {N : List Nd} {a b : Int} (ha : RootIn i N a) (hb : RootIn i N b) : gH N a b 2 = 1 + max (hOf N a) (hOf N b) := by
  unfold gH gh hOf
  rw [if_neg (by omega), if_neg (by omega)]
  rcases ha with h | ⟨j, rfl, _, _, h, _⟩ <;> rcases hb with h' | ⟨j', rfl, _, _, h', _⟩
  · simp only [h, h', if_true]; omega
  · have e : ((j' : Int)).toNat = j' := rfl
    simp only [h, if_true, e]
    rw [if_neg (by omega), if_neg (by omega)]; omega
  · have e : ((j : Int)).toNat = j := rfl
    simp only [h', if_true, e]
    rw [if_neg (by omega), if_neg (by omega)]; omega
  · have e : ((j : Int)).toNat = j := rfl
    have e' : ((j' : Int)).toNat = j' := rfl
    simp only [e, e']
    rw [if_neg (by omega), if_neg (by omega), if_neg (by omega), if_neg (by omega)]; omega
theorem gh_bound {i : Nat} {N : List Nd} {a h : Int} (ha : RootIn i N a) (hh : 0 ≤ h ∧ h ≤ 200001) : 0 ≤ gh N h a ∧ gh N h a ≤ 200001 := by
  unfold gh
  rcases ha with h0 | ⟨j, rfl, _, _, h1, h2⟩
  · rw [if_pos h0]; exact hh
  · have e : ((j : Int)).toNat = j := rfl
    rw [if_neg (by omega), e]; omega
theorem gH_bound {i : Nat} {N : List Nd} {a b : Int} (ha : RootIn i N a) (hb : RootIn i N b) (q : Nat) : 0 ≤ gH N a b q ∧ gH N a b q ≤ 200001 := by
  unfold gH
  split
  · omega
  · split
    · exact gh_bound ha (by omega)
    · exact gh_bound hb (gh_bound ha (by omega))
theorem hgt_le : ∀ n : Nat, hgt n ≤ n := by
  intro n
  induction n using Nat.strongRecOn with
  | ind n ih =>
    rcases Nat.eq_zero_or_pos n with rfl | h0
    · rw [hgt_zero]; omega
    · rw [hgt_pos h0]
      have := ih (n / 2) (by omega)
      omega
theorem grow_root {l : List En} {N N' : List Nd} {r : Int} (h : GrowOk l N N' r) (hl : l.length ≤ 200000) : r < 0 ∨ ∃ j : Nat, r = j ∧ N.length ≤ j ∧ j < N'.length ∧ 0 ≤ (nd N' j).h ∧ (nd N' j).h ≤ 200000 := by
  obtain ⟨L, m, s, _, _, c⟩ := h.sub
  rcases Int.lt_or_le r 0 with h0 | h0
  · exact .inl h0
  · have hm := (c _).1 ((sub_root s).2.2 h0)
    have hh := (sub_hm s).1
    have hg := hgt_le l.length
    unfold hOf at hh
    rw [if_neg (by omega)] at hh
    exact .inr ⟨r.toNat, by omega, hm.1, hm.2, by omega, by omega⟩
theorem grow_facts {l : List En} {N N6 N7 : List Nd} {x0 : Nd} {k : Nat} {a b : Int} (hk : k < l.length) (hl : l.length ≤ 100000) (g6 : GrowOk (l.take k) (N ++ [x0]) N6 a) (g7 : GrowOk (l.drop (k + 1)) N6 N7 b) :
    N7.length = N.length + l.length ∧ nd N7 N.length = x0 ∧ RootIn N.length N7 a ∧ RootIn N.length N7 b := by
  have l6 := g6.len
  have l7 := g7.len
  simp only [List.length_append, List.length_cons, List.length_nil, List.length_take, List.length_drop] at l6 l7
  refine ⟨by omega, ?_, ?_, ?_⟩
  · rw [g7.old _ (by omega), g6.old _ (by simp)]
    simp [nd]
  · rcases grow_root g6 (by simp; omega) with h | ⟨j, rfl, h1, h2, h3, h4⟩
    · exact .inl h
    · rw [← g7.old j h2] at h3 h4
      simp only [List.length_append, List.length_cons, List.length_nil] at h1
      exact .inr ⟨j, rfl, by omega, by omega, h3, h4⟩
  · rcases grow_root g7 (by simp; omega) with h | ⟨j, rfl, h1, h2, h3, h4⟩
    · exact .inl h
    · exact .inr ⟨j, rfl, by omega, h2, h3, h4⟩
section
variable {w : World} {base g n cap : Nat} {N : List Nd}
theorem OwnsN.len (h : OwnsN w base (.slice (some ⟨g, 0, none⟩) n cap) N) : n = N.length := by
  obtain ⟨A, c, e⟩ := h.form0
  injection e
theorem OwnsN.cellG (h : OwnsN w base (.slice (some ⟨g, 0, none⟩) n cap) N) (i j : Nat) (hi : i < N.length) (hj : j < 7) : w.cell? ⟨g, i * 7 + j, none⟩ = some (.int .i64 (ndField (nd N i) j)) := by
  have e := h.len; subst e; exact h.cell i j hi hj
theorem OwnsN.frozenG (h : OwnsN w base (.slice (some ⟨g, 0, none⟩) n cap) N) (o : Nat) : w.frozen? ⟨g, o, none⟩ = false := by
  have e := h.len; subst e; exact h.frozen o
theorem OwnsN.storedG (h : OwnsN w base (.slice (some ⟨g, 0, none⟩) n cap) N) (i j : Nat) (x : Int) (hi : i < N.length) (hj : j < 7) : OwnsN (w.setCell ⟨g, i * 7 + j, none⟩ (.int .i64 x)) base (.slice (some ⟨g, 0, none⟩) n cap) (N.set i (setF (nd N i) j x)) := by
  have e := h.len; subst e; exact h.stored i j x hi hj
/-- A store into the new node. -/
theorem OwnsN.put {M : List Nd} {i : Nat} {x : Nd} (h : OwnsN w base (.slice (some ⟨g, 0, none⟩) n cap) (M.set i x)) (hi : i < M.length) (j : Nat) (y : Int) (hj : j < 7) : OwnsN (w.setCell ⟨g, i * 7 + j, none⟩ (.int .i64 y)) base (.slice (some ⟨g, 0, none⟩) n cap) (M.set i (setF x j y)) := by
  have := h.storedG i j y (by simpa using hi) hj
  rwa [nd_set_eq hi, List.set_set] at this
end
set_option maxRecDepth 100000 in
set_option maxHeartbeats 2000000 in
theorem xgrow_c (w0 : World) (B : Nat) (hB : w0.heap.size ≤ B) : ∀ (n : Nat) (l : List En) (lv v : Value) (N : List Nd) (w : World), l.length ≤ n → IsEnts w0 lv l → Below w0.heap.size w0 w → TreeAt w B v → OwnsN w w0.heap.size v N → v.ownBlock ≠ some B →
    (∀ e ∈ l, okSpan (e.1, e.2.1) = true) → N.length + l.length ≤ 100000 → Calls Try.prog 74 #[.pointer (some ⟨B, 0, none⟩), lv] w (GrowRet w0.heap.size B w l N) := by
  intro n
  induction n with
  | zero =>
    intro l lv v N w hn hl hb ht ho hne hok hlen
    obtain rfl : l = [] := List.eq_nil_of_length_eq_zero (by omega)
    obtain ⟨A, c, rfl, _, _⟩ := hl.form
    have t0 : (((([] : List En).length : Nat) : Int) == 0) = true := rfl
    go_enter Try.func74, Try.ntmps74
    go_wp2_with fail
    go_ret
    exact ⟨-1, v, N, rfl, grow_nil N, ht, ho, hne, Below.refl _ _⟩
  | succ n ih =>
    intro l lv v N w hn hl hb ht ho hne hok hlen
    by_cases h0 : l.length = 0
    · exact ih l lv v N w (by omega) hl hb ht ho hne hok hlen
    obtain ⟨A, c, rfl, hnc, hc⟩ := hl.form
    obtain ⟨b0, off, rfl, hb0⟩ := hl.addr (by omega)
    have t0 : (((l.length : Nat) : Int) == 0) = false := beq_eq_false_iff_ne.2 (by omega)
    obtain ⟨k, hk⟩ : ∃ k, k = l.length / 2 := ⟨_, rfl⟩
    have hkl : k < l.length := by omega
    have hlw := hl.below hb
    have x0 := hlw.c0 k hkl
    have x1 := hlw.c1 k hkl
    have x2 := hlw.c2 k hkl
    have ct := ht.c0
    have hq : (l.length : Int).tdiv 2 = (k : Int) := by rw [hk]; rfl
    obtain ⟨Av, cv, rfl⟩ := ho.form0
    have i1 : (k : Int) < (l.length : Int) := by omega
    have i2 : 0 ≤ (k : Int) := by omega
    have Hk := Lib.hid hk; clear hk
    have Ho := Lib.hid ho; have Ht := Lib.hid ht; have Hok := Lib.hid hok; have Hn := Lib.hid hn; have Hb := Lib.hid hb; have Hne := Lib.hid hne
    clear ho ht hok hn hb hne
    go_enter Try.func74, Try.ntmps74
    go_wp2_with fail
    have ho := Ho.out; have ht := Ht.out; have hne := Hne.out; have hb := Hb.out
    have hbw := hb.size
    have hb0w : b0 < w.heap.size := by omega
    have hBw := ht.lt
    have hbA : Below w.heap.size w ((w.alloc (.cells #[.int .i64 (en l k).1, .int .i64 (en l k).2.1, .int .i64 (en l k).2.2, .int .i64 (-1), .int .i64 (-1), .int .i64 0, .int .i64 0] 60)).drew) := ((Below.refl _ _).alloc (Nat.le_refl _) _).drew
    have hpA : ((w.alloc (.cells #[.int .i64 (en l k).1, .int .i64 (en l k).2.1, .int .i64 (en l k).2.2, .int .i64 (-1), .int .i64 (-1), .int .i64 0, .int .i64 0] 60)).drew).heap[w.heap.size]? = some (.cells (ndVals ⟨(en l k).1, (en l k).2.1, (en l k).2.2, -1, -1, 0, 0⟩).toArray 60 (0, 0)) := heap_alloc_new w _
    have hoA := ho.below hbA
    have htA := ht.below hbA
    have hzA : ((w.alloc (.cells #[.int .i64 (en l k).1, .int .i64 (en l k).2.1, .int .i64 (en l k).2.2, .int .i64 (-1), .int .i64 (-1), .int .i64 0, .int .i64 0] 60)).drew).heap.size = w.heap.size + 1 := by simp
    have HS : ∀ W', Below w.heap.size w W' → (W'.cell? ⟨b0, off + k * 3, none⟩ = some (.int .i64 (en l k).1) ∧ W'.cell? ⟨b0, off + k * 3 + 1, none⟩ = some (.int .i64 (en l k).2.1) ∧ W'.cell? ⟨b0, off + k * 3 + 2, none⟩ = some (.int .i64 (en l k).2.2)) := fun W' h => ⟨(h.cell hb0w).trans x0, (h.cell hb0w).trans x1, (h.cell hb0w).trans x2⟩
    have hd0 : Below w.heap.size w w.drew := (Below.refl _ _).drew
    have n0 := World.new_ne w _ ct
    refine wp_region_L (fun w' : World => w'.cell? ⟨B, 0, none⟩ = some (.slice Av N.length cv) ∧ w'.cell? ⟨b0, off + k * 3, none⟩ = some (.int .i64 (en l k).1) ∧ w'.cell? ⟨b0, off + k * 3 + 1, none⟩ = some (.int .i64 (en l k).2.1) ∧ w'.cell? ⟨b0, off + k * 3 + 2, none⟩ = some (.int .i64 (en l k).2.2)) 20 (by kernel_rfl) ?_
    have hSd : (fun w' : World => w'.cell? ⟨B, 0, none⟩ = some (.slice Av N.length cv) ∧ w'.cell? ⟨b0, off + k * 3, none⟩ = some (.int .i64 (en l k).1) ∧ w'.cell? ⟨b0, off + k * 3 + 1, none⟩ = some (.int .i64 (en l k).2.1) ∧ w'.cell? ⟨b0, off + k * 3 + 2, none⟩ = some (.int .i64 (en l k).2.2)) w.drew := ⟨(hd0.cell hBw).trans ct, HS _ hd0⟩
    refine wpAnyL_take (i := 0) (v := ?_) rfl (by kernel_rfl) (by kernel_rfl) (by kernel_rfl) (by kernel_rfl) (fun _ _ _ h => h) hSd (Or.inl ⟨by rfl, ?_⟩) ?_; rotate_left
    · (intro w' hSw; (try dsimp only at hSw); go_simp; try with_reducible rfl)
    try simp only [Act.put, List.setIfInBounds_toArray, List.set_cons_zero, List.set_cons_succ, List.getElem_toArray, List.getElem_cons_zero]
    refine wpAnyL_take (i := 1) (v := ?_) rfl (by kernel_rfl) (by kernel_rfl) (by kernel_rfl) (by kernel_rfl) (fun _ _ _ h => h) hSd (Or.inl ⟨by rfl, ?_⟩) ?_; rotate_left
    · (intro w' hSw; (try dsimp only at hSw); go_simp; try with_reducible rfl)
    try simp only [Act.put, List.setIfInBounds_toArray, List.set_cons_zero, List.set_cons_succ, List.getElem_toArray, List.getElem_cons_zero, List.getElem_cons_succ]
    refine wpAnyL_take (i := 2) (v := ?_) rfl (by kernel_rfl) (by kernel_rfl) (by kernel_rfl) (by kernel_rfl) (fun _ _ _ h => h) hSd (Or.inl ⟨by rfl, ?_⟩) ?_; rotate_left
    · (intro w' hSw; (try dsimp only at hSw); go_simp; try with_reducible rfl)
    try simp only [Act.put, List.setIfInBounds_toArray, List.set_cons_zero, List.set_cons_succ, List.getElem_toArray, List.getElem_cons_zero, List.getElem_cons_succ]
    refine wpAnyL_take (i := 3) (v := ?_) rfl (by kernel_rfl) (by kernel_rfl) (by kernel_rfl) (by kernel_rfl) (fun _ _ _ h => h) hSd (Or.inl ⟨by rfl, ?_⟩) ?_; rotate_left
    · (intro w' hSw; (try dsimp only at hSw); go_simp; try with_reducible rfl)
    try simp only [Act.put, List.setIfInBounds_toArray, List.set_cons_zero, List.set_cons_succ, List.getElem_toArray, List.getElem_cons_zero, List.getElem_cons_succ]
    refine wpAnyL_take (i := 4) (v := ?_) rfl (by kernel_rfl) (by kernel_rfl) (by kernel_rfl) (by kernel_rfl) (fun _ _ _ h => h) hSd (Or.inl ⟨by rfl, ?_⟩) ?_; rotate_left
    · (intro w' hSw; (try dsimp only at hSw); go_simp; try with_reducible rfl)
    try simp only [Act.put, List.setIfInBounds_toArray, List.set_cons_zero, List.set_cons_succ, List.getElem_toArray, List.getElem_cons_zero, List.getElem_cons_succ]
    refine wpAnyL_take (i := 5) (v := ?_) rfl (by kernel_rfl) (by kernel_rfl) (by kernel_rfl) (by kernel_rfl) (fun _ _ _ h => h) hSd (Or.inl ⟨by rfl, ?_⟩) ?_; rotate_left
    · (intro w' hSw; (try dsimp only at hSw); go_simp; try with_reducible rfl)
    try simp only [Act.put, List.setIfInBounds_toArray, List.set_cons_zero, List.set_cons_succ, List.getElem_toArray, List.getElem_cons_zero, List.getElem_cons_succ]
    refine wpAnyL_take (i := 6) (v := ?_) rfl (by kernel_rfl) (by kernel_rfl) (by kernel_rfl) (by kernel_rfl) (fun _ _ _ h => h) hSd (Or.inl ⟨by rfl, ?_⟩) ?_; rotate_left
    · (intro w' hSw; (try dsimp only at hSw); go_simp; try with_reducible rfl)
    try simp only [Act.put, List.setIfInBounds_toArray, List.set_cons_zero, List.set_cons_succ, List.getElem_toArray, List.getElem_cons_zero, List.getElem_cons_succ]
    refine wpAnyL_take (i := 7) (v := ?_) rfl (by kernel_rfl) (by kernel_rfl) (by kernel_rfl) (by kernel_rfl) (fun _ _ _ h => h) hSd (Or.inl ⟨by rfl, ?_⟩) ?_; rotate_left
    · (intro w' hSw; (try dsimp only at hSw); go_simp; try with_reducible rfl)
    try simp only [Act.put, List.setIfInBounds_toArray, List.set_cons_zero, List.set_cons_succ, List.getElem_toArray, List.getElem_cons_zero, List.getElem_cons_succ]
    refine wpAnyL_take (i := 8) (v := ?_) rfl (by kernel_rfl) (by kernel_rfl) (by kernel_rfl) (by kernel_rfl) (fun _ _ _ h => h) hSd (Or.inl ⟨by rfl, ?_⟩) ?_; rotate_left
    · (intro w' hSw; (try dsimp only at hSw); go_simp; try with_reducible rfl)
    try simp only [Act.put, List.setIfInBounds_toArray, List.set_cons_zero, List.set_cons_succ, List.getElem_toArray, List.getElem_cons_zero, List.getElem_cons_succ]
    refine wpAnyL_take (i := 9) (v := ?_) rfl (by kernel_rfl) (by kernel_rfl) (by kernel_rfl) (by kernel_rfl) (fun _ _ _ h => h) hSd (Or.inl ⟨by rfl, ?_⟩) ?_; rotate_left
    · (intro w' hSw; (try dsimp only at hSw); go_simp; try with_reducible rfl)
    try simp only [Act.put, List.setIfInBounds_toArray, List.set_cons_zero, List.set_cons_succ, List.getElem_toArray, List.getElem_cons_zero, List.getElem_cons_succ]
    refine wpAnyL_take (i := 10) (v := ?_) rfl (by kernel_rfl) (by kernel_rfl) (by kernel_rfl) (by kernel_rfl) (fun _ _ _ h => h) hSd (Or.inl ⟨by rfl, ?_⟩) ?_; rotate_left
    · (intro w' hSw; (try dsimp only at hSw); go_simp; try with_reducible rfl)
    try simp only [Act.put, List.setIfInBounds_toArray, List.set_cons_zero, List.set_cons_succ, List.getElem_toArray, List.getElem_cons_zero, List.getElem_cons_succ]
    refine wpAnyL_take (i := 11) (v := ?_) rfl (by kernel_rfl) (by kernel_rfl) (by kernel_rfl) (by kernel_rfl) (fun _ _ _ h => h) hSd (Or.inl ⟨by rfl, ?_⟩) ?_; rotate_left
    · (intro w' hSw; (try dsimp only at hSw); go_simp; try with_reducible rfl)
    try simp only [Act.put, List.setIfInBounds_toArray, List.set_cons_zero, List.set_cons_succ, List.getElem_toArray, List.getElem_cons_zero, List.getElem_cons_succ]
    refine wpAnyL_take (i := 12) (v := ?_) rfl (by kernel_rfl) (by kernel_rfl) (by kernel_rfl) (by kernel_rfl) (fun _ _ _ h => h) hSd (Or.inl ⟨by rfl, ?_⟩) ?_; rotate_left
    · (intro w' hSw; (try dsimp only at hSw); go_simp; try with_reducible rfl)
    try simp only [Act.put, List.setIfInBounds_toArray, List.set_cons_zero, List.set_cons_succ, List.getElem_toArray, List.getElem_cons_zero, List.getElem_cons_succ]
    refine wpAnyL_take (i := 13) (v := ?_) rfl (by kernel_rfl) (by kernel_rfl) (by kernel_rfl) (by kernel_rfl) (fun _ _ _ h => h) hSd (Or.inl ⟨by rfl, ?_⟩) ?_; rotate_left
    · (intro w' hSw; (try dsimp only at hSw); go_simp; try with_reducible rfl)
    try simp only [Act.put, List.setIfInBounds_toArray, List.set_cons_zero, List.set_cons_succ, List.getElem_toArray, List.getElem_cons_zero, List.getElem_cons_succ]
    refine wpAnyL_take (i := 14) (v := ?_) rfl (by kernel_rfl) (by kernel_rfl) (by kernel_rfl) (by kernel_rfl) (fun _ _ _ h => h) hSd (Or.inl ⟨by rfl, ?_⟩) ?_; rotate_left
    · (intro w' hSw; (try dsimp only at hSw); go_simp; try with_reducible rfl)
    try simp only [Act.put, List.setIfInBounds_toArray, List.set_cons_zero, List.set_cons_succ, List.getElem_toArray, List.getElem_cons_zero, List.getElem_cons_succ]
    refine wpAnyL_take (i := 15) (v := ?_) rfl (by kernel_rfl) (by kernel_rfl) (by kernel_rfl) (by kernel_rfl) (fun _ _ _ h => h) hSd (Or.inl ⟨by rfl, ?_⟩) ?_; rotate_left
    · (intro w' hSw; (try dsimp only at hSw); go_simp; try with_reducible rfl)
    try simp only [Act.put, List.setIfInBounds_toArray, List.set_cons_zero, List.set_cons_succ, List.getElem_toArray, List.getElem_cons_zero, List.getElem_cons_succ]
    refine wpAnyL_one (i := 16) rfl rfl (by kernel_rfl) ?_
    unfold Oper.wp
    go_simp
    try simp only [Act.put, List.setIfInBounds_toArray, List.set_cons_zero, List.set_cons_succ, List.getElem_toArray, List.getElem_cons_zero, List.getElem_cons_succ]
    refine wpAnyL_one (i := 17) rfl rfl (by kernel_rfl) ?_
    refine append_node_wp Try.underlying22 tNodeInfo (.tmp 27) (.tmp 39) (by rfl) w0.heap.size _ w.heap.size N ⟨(en l k).1, (en l k).2.1, (en l k).2.2, -1, -1, 0, 0⟩ (by rfl) (by rfl) hoA hpA (by omega) (Nat.le_trans hbw hbA.size) (fun v3 w3 h3 hg3 hob3 => ?_)
    obtain ⟨g3, cap3, rfl, hg3b, hg3l, _, _⟩ := h3.form (by simp)
    have ht3 : TreeAt w3 B (.slice Av N.length cv) := (hg3.block B htA.lt (fun e => hne e.symm)).trans htA
    have c3 := ht3.c0
    have f3 := ht3.fz 0
    have hb3 : Below w0.heap.size w w3 := (hbA.mono hbw).grown hg3 (Nat.le_trans hbw hbA.size) (fun g hg => (World.ownsRow.lt hoA g hg).1)
    refine ⟨.inr ⟨c3, ent3 hb3 hb0 x0 x1 x2⟩, ?_⟩
    try simp only [Act.put, List.setIfInBounds_toArray, List.set_cons_zero, List.set_cons_succ, List.getElem_toArray, List.getElem_cons_zero, List.getElem_cons_succ]
    refine wpAnyL_one (i := 18) rfl rfl (by kernel_rfl) ?_
    unfold Oper.wp
    go_simp
    refine ⟨ent3 hb3 hb0 x0 x1 x2, ?_⟩
    try simp only [Act.put, List.setIfInBounds_toArray, List.set_cons_zero, List.set_cons_succ, List.getElem_toArray, List.getElem_cons_zero, List.getElem_cons_succ]
    refine wpAnyL_one (i := 19) rfl rfl (by kernel_rfl) ?_
    unfold Oper.wp
    go_simp
    refine ⟨ent3 hb3 hb0 x0 x1 x2, ?_⟩
    try simp only [Act.put, List.setIfInBounds_toArray, List.set_cons_zero, List.set_cons_succ, List.getElem_toArray, List.getElem_cons_zero, List.getElem_cons_succ]
    refine wpAnyL_one (i := 20) rfl rfl (by kernel_rfl) ?_
    unfold Oper.wp
    go_simp
    refine wpAnyL_done (by kernel_rfl) ?_ _
    all_goals
      clear hoA htA hpA
      rw [show (N ++ [(⟨(en l k).1, (en l k).2.1, (en l k).2.2, -1, -1, 0, 0⟩ : Nd)]).length = N.length + 1 from by simp] at h3
      have hgB : g3 ≠ B := by
        intro e
        rcases hob3 with h | h
        · exact hne (h.symm.trans (by rw [e]; rfl))
        · have h9 := h
          simp [Value.ownBlock] at h9
          omega
      have ht4 := ht3.set (.slice (some ⟨g3, 0, none⟩) (N.length + 1) cap3)
      have ho4 := h3.other (w' := w3.setCell ⟨B, 0, none⟩ (.slice (some ⟨g3, 0, none⟩) (N.length + 1) cap3)) (Below.heap_setCell _ _ _ _ hgB)
      have hb4 : Below w0.heap.size w (w3.setCell ⟨B, 0, none⟩ (.slice (some ⟨g3, 0, none⟩) (N.length + 1) cap3)) := hb3.setCell (p := ⟨B, 0, none⟩) hB _
      generalize w3.setCell ⟨B, 0, none⟩ (.slice (some ⟨g3, 0, none⟩) (N.length + 1) cap3) = w4 at *
      clear ht3 c3 f3 h3 hg3 hob3 hb3 n0 HS hbA hzA x0 x1 x2 ct
      have hbw4 := Hb.out.trans hb4
      have hlt : (l.take k).length = k := by simp; omega
      have hld : (l.drop (k + 1)).length = l.length - (k + 1) := by simp
      have H1 := ih (l.take k) (.slice (some ⟨b0, off, none⟩) k c) (.slice (some ⟨g3, 0, none⟩) (N.length + 1) cap3) (N ++ ([⟨(en l k).1, (en l k).2.1, (en l k).2.2, -1, -1, 0, 0⟩] : List Nd)) w4.drew (by have := Hn.out; omega) (ents_take hl (by omega)) (hbw4.trans (Below.refl _ _).drew) (show TreeAt w4.drew B _ from ht4) (ho4.other rfl) (by simpa [Value.ownBlock] using hgB) (fun e he => Hok.out e (List.mem_of_mem_take he)) (by simp; omega)
      have hl2 := ents_drops (k := k + 1) hl (by omega)
      obtain ⟨A2, hA2⟩ : ∃ A2, (if c = k + 1 then some (⟨b0, off, none⟩ : Addr) else some (⟨b0, off + (k + 1) * 3, none⟩ : Addr)) = A2 := ⟨_, rfl⟩
      rw [hA2] at hl2
      have HH1 := Lib.hid H1; have Hl2 := Lib.hid hl2; have Hih := Lib.hid ih
      clear H1 hl2 ih ht4 ho4
      have iw : IntKind.i64.wrap ((k : Int) + 1) = (k : Int) + 1 := by rw [IntKind.wrap_i64]; omega
      have i3 : (k : Int) ≤ (l.length : Int) := by omega
      have i4 : (k : Int) + 1 ≤ (l.length : Int) := by omega
      have i5 : 0 ≤ (k : Int) + 1 := by omega
      have i6 : ((k : Int) + 1).toNat = k + 1 := by omega
      have i7 : k ≤ c := by omega
      have i8 : k + 1 ≤ c := by omega
      have i9 : (l.length : Int) ≤ (c : Int) := by omega
      go_wp2_with fail
      go_region_held3 (fun _ => True) (exact trivial) (first | (go_at_call 74; (with_reducible refine (Hih.out (l.drop (k + 1)) (.slice A2 (l.length - (k + 1)) (c - (k + 1))) v6 N6 w6 (by have := Hn.out; rw [hld]; omega) Hl2.out ((hbw4.trans (Below.refl _ _).drew).trans hb6) ht6 ho6 hne6 (fun e he => Hok.out e (List.mem_of_mem_drop he)) (by have h9 := g6.len; rw [List.length_append, hlt] at h9; rw [hld]; simp only [List.length_cons, List.length_nil] at h9; omega)).mono ?_); rintro e w7 ⟨b, v7, N7, rfl, g7, ht7, ho7, hne7, hb7⟩) | (go_at_call 74; (with_reducible refine (HH1.out).mono ?_); rintro e w6 ⟨a, v6, N6, rfl, g6, ht6, ho6, hne6, hb6⟩) | fail)
      obtain ⟨F1, F2, F3, F4⟩ := grow_facts (show k < l.length from hkl) (by omega) g6 g7
      obtain ⟨g, cap, rfl, hgb, hgl, hcap, hcap2⟩ := ho7.form (by omega)
      have hb7' : Below w0.heap.size w w7 := ((hb4.trans (Below.refl _ _).drew).trans hb6).trans hb7
      have Hres := Lib.hid (fun (h : 0 < l.length) => grow_node (x0 := ⟨(en l k).1, (en l k).2.1, (en l k).2.2, -1, -1, 0, 0⟩) h Hk.out (Hok.out (en l k) (by rw [← en_at hkl]; exact List.getElem_mem hkl)) g6 g7)
      have hokk := (okSpan_iff _).1 (Hok.out (en l k) (by rw [← en_at hkl]; exact List.getElem_mem hkl))
      have HF2 := Lib.hid F2; have HF1 := Lib.hid F1; have HF3 := Lib.hid F3; have HF4 := Lib.hid F4; have Hb7 := Lib.hid hb7'; have Hokk := Lib.hid hokk
      have hi7 : N.length < N7.length := by omega
      have c7 := ht7.c0
      have q1 := ho7.cellG N.length 1 hi7 (by omega)
      have f3 := ho7.frozenG (N.length * 7 + 3)
      have f4 := ho7.frozenG (N.length * 7 + 4)
      have f5 := ho7.frozenG (N.length * 7 + 5)
      have f6 := ho7.frozenG (N.length * 7 + 6)
      have q3 := ho7.cellG N.length 3 hi7 (by omega)
      have q4 := ho7.cellG N.length 4 hi7 (by omega)
      have q5 := ho7.cellG N.length 5 hi7 (by omega)
      have q6 := ho7.cellG N.length 6 hi7 (by omega)
      rw [F2] at q1 q3 q4 q5 q6
      have q1' : w7.cell? ⟨g, N.length * 7 + 1, none⟩ = some (.int .i64 (en l k).2.1) := q1
      have q3' : w7.cell? ⟨g, N.length * 7 + 3, none⟩ = some (.int .i64 (-1)) := q3
      have q4' : w7.cell? ⟨g, N.length * 7 + 4, none⟩ = some (.int .i64 (-1)) := q4
      have q5' : w7.cell? ⟨g, N.length * 7 + 5, none⟩ = some (.int .i64 0) := q5
      have q6' : w7.cell? ⟨g, N.length * 7 + 6, none⟩ = some (.int .i64 0) := q6
      have k1 : (N.length : Int) < (N7.length : Int) := by omega
      clear F2; have Ho7 := Lib.hid ho7; have Ht7 := Lib.hid ht7
      clear q1 q3 q4 q5 q6 ho7 ht7 F1 F3 F4 hb7' hokk g6 g7 HH1 Hih Hl2 hb4 hb6 hb7 ht6 ho6 hne6 hbw4 hld hlt iw i3 i4 i5 i6 i7 i8 i9 hA2 hl hgl hcap hcap2 hi7 hgB hq t0 hd0 i1 i2
      go_wp2_with fail
      all_goals
        have F2 := HF2.out; clear HF2
        clear c7 f3 f4 f5 f6 q1' q3' q4' q5' q6'
        have hgB : B ≠ g := fun e => hne7 (by rw [e]; rfl)
        have hi7 : N.length < N7.length := by omega
        have ho8 : OwnsN ((((w7.setCell ⟨g, N.length * 7 + 3, none⟩ (.int .i64 a)).setCell ⟨g, N.length * 7 + 4, none⟩ (.int .i64 b)).setCell ⟨g, N.length * 7 + 5, none⟩ (.int .i64 (en l k).2.1)).setCell ⟨g, N.length * 7 + 6, none⟩ (.int .i64 1)) w0.heap.size (.slice (some ⟨g, 0, none⟩) N7.length cap) (N7.set N.length ⟨(en l k).1, (en l k).2.1, (en l k).2.2, a, b, (en l k).2.1, 1⟩) := by
          have h1 := Ho7.out.storedG N.length 3 a hi7 (by omega)
          rw [F2] at h1
          exact ((h1.put hi7 4 b (by omega)).put hi7 5 (en l k).2.1 (by omega)).put hi7 6 1 (by omega)
        have ht8 : TreeAt ((((w7.setCell ⟨g, N.length * 7 + 3, none⟩ (.int .i64 a)).setCell ⟨g, N.length * 7 + 4, none⟩ (.int .i64 b)).setCell ⟨g, N.length * 7 + 5, none⟩ (.int .i64 (en l k).2.1)).setCell ⟨g, N.length * 7 + 6, none⟩ (.int .i64 1)) B (.slice (some ⟨g, 0, none⟩) N7.length cap) := (((Ht7.out.other _ _ hgB).other _ _ hgB).other _ _ hgB).other _ _ hgB
        have hb8 : Below w0.heap.size w7 ((((w7.setCell ⟨g, N.length * 7 + 3, none⟩ (.int .i64 a)).setCell ⟨g, N.length * 7 + 4, none⟩ (.int .i64 b)).setCell ⟨g, N.length * 7 + 5, none⟩ (.int .i64 (en l k).2.1)).setCell ⟨g, N.length * 7 + 6, none⟩ (.int .i64 1)) := ((((Below.refl _ _).setCell (p := ⟨g, N.length * 7 + 3, none⟩) hgb _).setCell (p := ⟨g, N.length * 7 + 4, none⟩) hgb _).setCell (p := ⟨g, N.length * 7 + 5, none⟩) hgb _).setCell (p := ⟨g, N.length * 7 + 6, none⟩) hgb _
        have hz8 : ((((w7.setCell ⟨g, N.length * 7 + 3, none⟩ (.int .i64 a)).setCell ⟨g, N.length * 7 + 4, none⟩ (.int .i64 b)).setCell ⟨g, N.length * 7 + 5, none⟩ (.int .i64 (en l k).2.1)).setCell ⟨g, N.length * 7 + 6, none⟩ (.int .i64 1)).heap.size = w7.heap.size := by simp [World.setCell]
        have hz70 : w0.heap.size ≤ w7.heap.size := Nat.le_trans hbw Hb7.out.size
        have hbL : Below ((((w7.setCell ⟨g, N.length * 7 + 3, none⟩ (.int .i64 a)).setCell ⟨g, N.length * 7 + 4, none⟩ (.int .i64 b)).setCell ⟨g, N.length * 7 + 5, none⟩ (.int .i64 (en l k).2.1)).setCell ⟨g, N.length * 7 + 6, none⟩ (.int .i64 1)).heap.size ((((w7.setCell ⟨g, N.length * 7 + 3, none⟩ (.int .i64 a)).setCell ⟨g, N.length * 7 + 4, none⟩ (.int .i64 b)).setCell ⟨g, N.length * 7 + 5, none⟩ (.int .i64 (en l k).2.1)).setCell ⟨g, N.length * 7 + 6, none⟩ (.int .i64 1)) (((((w7.setCell ⟨g, N.length * 7 + 3, none⟩ (.int .i64 a)).setCell ⟨g, N.length * 7 + 4, none⟩ (.int .i64 b)).setCell ⟨g, N.length * 7 + 5, none⟩ (.int .i64 (en l k).2.1)).setCell ⟨g, N.length * 7 + 6, none⟩ (.int .i64 1)).alloc (.cells #[.int .i64 a, .int .i64 b] 3)) := (Below.refl _ _).alloc (Nat.le_refl _) _
        have hoL := ho8.below hbL
        have htL := ht8.below hbL
        have hbL0 : Below w0.heap.size w7 (((((w7.setCell ⟨g, N.length * 7 + 3, none⟩ (.int .i64 a)).setCell ⟨g, N.length * 7 + 4, none⟩ (.int .i64 b)).setCell ⟨g, N.length * 7 + 5, none⟩ (.int .i64 (en l k).2.1)).setCell ⟨g, N.length * 7 + 6, none⟩ (.int .i64 1)).alloc (.cells #[.int .i64 a, .int .i64 b] 3)) := hb8.trans (hbL.mono (by rw [hz8]; exact hz70))
        have x0 : (((((w7.setCell ⟨g, N.length * 7 + 3, none⟩ (.int .i64 a)).setCell ⟨g, N.length * 7 + 4, none⟩ (.int .i64 b)).setCell ⟨g, N.length * 7 + 5, none⟩ (.int .i64 (en l k).2.1)).setCell ⟨g, N.length * 7 + 6, none⟩ (.int .i64 1)).alloc (.cells #[.int .i64 a, .int .i64 b] 3)).cell? ⟨w7.heap.size, 0, none⟩ = some (.int .i64 a) := by
          have := heap_alloc_new ((((w7.setCell ⟨g, N.length * 7 + 3, none⟩ (.int .i64 a)).setCell ⟨g, N.length * 7 + 4, none⟩ (.int .i64 b)).setCell ⟨g, N.length * 7 + 5, none⟩ (.int .i64 (en l k).2.1)).setCell ⟨g, N.length * 7 + 6, none⟩ (.int .i64 1)) (.cells #[.int .i64 a, .int .i64 b] 3)
          rw [hz8] at this
          simp only [World.cell?, this]; rfl
        have x1 : (((((w7.setCell ⟨g, N.length * 7 + 3, none⟩ (.int .i64 a)).setCell ⟨g, N.length * 7 + 4, none⟩ (.int .i64 b)).setCell ⟨g, N.length * 7 + 5, none⟩ (.int .i64 (en l k).2.1)).setCell ⟨g, N.length * 7 + 6, none⟩ (.int .i64 1)).alloc (.cells #[.int .i64 a, .int .i64 b] 3)).cell? ⟨w7.heap.size, 1, none⟩ = some (.int .i64 b) := by
          have := heap_alloc_new ((((w7.setCell ⟨g, N.length * 7 + 3, none⟩ (.int .i64 a)).setCell ⟨g, N.length * 7 + 4, none⟩ (.int .i64 b)).setCell ⟨g, N.length * 7 + 5, none⟩ (.int .i64 (en l k).2.1)).setCell ⟨g, N.length * 7 + 6, none⟩ (.int .i64 1)) (.cells #[.int .i64 a, .int .i64 b] 3)
          rw [hz8] at this
          simp only [World.cell?, this]; rfl
        have hgp : g ≠ w7.heap.size := by
          obtain ⟨g', cap', e', _, hlt, _, _⟩ := Ho7.out.form (by omega)
          injection e' with e1
          injection e1 with e1
          injection e1 with e1
          omega
        have hBp : B ≠ w7.heap.size := by have := Ht7.out.lt; omega
        clear ho8 ht8 hb8 hbL
        generalize (((((w7.setCell ⟨g, N.length * 7 + 3, none⟩ (.int .i64 a)).setCell ⟨g, N.length * 7 + 4, none⟩ (.int .i64 b)).setCell ⟨g, N.length * 7 + 5, none⟩ (.int .i64 (en l k).2.1)).setCell ⟨g, N.length * 7 + 6, none⟩ (.int .i64 1)).alloc (.cells #[.int .i64 a, .int .i64 b] 3)) = wL at *
        obtain ⟨p, hp⟩ : ∃ p, p = w7.heap.size := ⟨_, rfl⟩
        rw [← hp] at x0 x1 hgp hBp ⊢
        have hpw : w0.heap.size ≤ p := by omega
        clear hp hz8 Ho7 Ht7 hz70
        have HF2 := Lib.hid F2; clear F2
        go_loopw [83] (fun i wr => ∃ q : Nat, i = .int .i64 q ∧ q ≤ 2 ∧ TreeAt wr B (.slice (some ⟨g, 0, none⟩) N7.length cap) ∧ OwnsN wr w0.heap.size (.slice (some ⟨g, 0, none⟩) N7.length cap) (N7.set N.length ⟨(en l k).1, (en l k).2.1, (en l k).2.2, a, b, gM N7 (en l k).2.1 a b q, gH N7 a b q⟩) ∧ wr.cell? ⟨p, 0, none⟩ = some (.int .i64 a) ∧ wr.cell? ⟨p, 1, none⟩ = some (.int .i64 b) ∧ Below w0.heap.size w7 wr) (fun i _ => 2 - (intOf i).toNat)
        case atStart => exact ⟨0, rfl, by omega, htL, hoL, x0, x1, hbL0⟩
        case round =>
          obtain ⟨q, rfl, hq, htr, hor, y0, y1, hbr⟩ := hrel
          by_cases hlt : q < 2
          · have hq2 : (q : Int) < 2 := by omega
            have yj : wr.cell? ⟨p, q, none⟩ = some (.int .i64 (gj a b q)) := by
              rcases (by omega : q = 0 ∨ q = 1) with rfl | rfl
              · exact y0
              · exact y1
            have hrj : RootIn N.length N7 (gj a b q) := by
              unfold gj
              split
              · exact HF3.out
              · exact HF4.out
            have hnext : ∀ W, OwnsN W w0.heap.size (.slice (some ⟨g, 0, none⟩) N7.length cap) (N7.set N.length ⟨(en l k).1, (en l k).2.1, (en l k).2.2, a, b, gm N7 (gM N7 (en l k).2.1 a b q) (gj a b q), gh N7 (gH N7 a b q) (gj a b q)⟩) → OwnsN W w0.heap.size (.slice (some ⟨g, 0, none⟩) N7.length cap) (N7.set N.length ⟨(en l k).1, (en l k).2.1, (en l k).2.2, a, b, gM N7 (en l k).2.1 a b (q + 1), gH N7 a b (q + 1)⟩) := fun W h => by
              rw [gM_succ N7 _ a b hlt, gH_succ N7 a b hlt]; exact h
            have hbd := gH_bound HF3.out HF4.out q
            generalize gj a b q = jj at *
            have Hnext := Lib.hid hnext; clear hnext
            generalize gM N7 (en l k).2.1 a b q = M at *
            generalize gH N7 a b q = H at *
            rcases hrj with hj | ⟨jn, rfl, h1, h2, h3, h4⟩
            · have hd : decide (0 ≤ jj) = false := by simpa using hj
              have hor2 := Hnext.out wr (by unfold gm gh; rw [if_pos hj, if_pos hj]; exact hor)
              have Hor2 := Lib.hid hor2
              clear hor hor2 hj
              go_wp2_with fail
              go_roundw
              case rel => exact ⟨q + 1, by go_num, hlt, htr, Hor2.out, y0, y1, hbr⟩
              case measure => simp [intOf]; omega
            · have hor' : OwnsN wr.drew w0.heap.size (.slice (some ⟨g, 0, none⟩) N7.length cap) (N7.set N.length ⟨(en l k).1, (en l k).2.1, (en l k).2.2, a, b, M, H⟩) := hor.other rfl
              have htr' : TreeAt wr.drew B (.slice (some ⟨g, 0, none⟩) N7.length cap) := htr
              have y0' : wr.drew.cell? ⟨p, 0, none⟩ = some (.int .i64 a) := y0
              have y1' : wr.drew.cell? ⟨p, 1, none⟩ = some (.int .i64 b) := y1
              have hbr' : Below w0.heap.size w7 wr.drew := hbr.trans (Below.refl _ _).drew
              have c0 := htr'.c0
              have cm : wr.drew.cell? ⟨g, N.length * 7 + 5, none⟩ = some (.int .i64 M) := by
                have := hor'.cellG N.length 5 (by simpa using hi7) (by omega)
                rwa [nd_set_eq hi7] at this
              have cj : wr.drew.cell? ⟨g, jn * 7 + 5, none⟩ = some (.int .i64 (nd N7 jn).m) := by
                have := hor'.cellG jn 5 (by simpa using h2) (by omega)
                rwa [nd_set_ne (by omega)] at this
              have ff := hor'.frozenG (N.length * 7 + 5)
              have hd : decide (0 ≤ (jn : Int)) = true := by simp
              have z1 : (jn : Int) < (N7.length : Int) := by omega
              have z2 : 0 ≤ (jn : Int) := by omega
              have Hor := Lib.hid hor'; have Htr := Lib.hid htr'; have Hbr := Lib.hid hbr'
              clear hor hor' htr htr' hbr hbr'
              go_wp2_with fail
              go_still_tail 16, (by kernel_rfl)
              change wpList _ _ _ _ _ wr.drew
              generalize wr.drew = w5 at *
              go_wp2_with fail
              have hor6 : OwnsN (w5.setCell ⟨g, N.length * 7 + 5, none⟩ (.int .i64 (max M (nd N7 jn).m))) w0.heap.size (.slice (some ⟨g, 0, none⟩) N7.length cap) (N7.set N.length ⟨(en l k).1, (en l k).2.1, (en l k).2.2, a, b, (max M (nd N7 jn).m), H⟩) := Hor.out.put hi7 5 (max M (nd N7 jn).m) (by omega)
              have htr6 : TreeAt (w5.setCell ⟨g, N.length * 7 + 5, none⟩ (.int .i64 (max M (nd N7 jn).m))) B (.slice (some ⟨g, 0, none⟩) N7.length cap) := Htr.out.other _ _ hgB
              have y06 : (w5.setCell ⟨g, N.length * 7 + 5, none⟩ (.int .i64 (max M (nd N7 jn).m))).cell? ⟨p, 0, none⟩ = some (.int .i64 a) := (World.cell?_of_block (Below.heap_setCell _ _ _ _ (fun e => hgp e.symm))).trans y0'
              have y16 : (w5.setCell ⟨g, N.length * 7 + 5, none⟩ (.int .i64 (max M (nd N7 jn).m))).cell? ⟨p, 1, none⟩ = some (.int .i64 b) := (World.cell?_of_block (Below.heap_setCell _ _ _ _ (fun e => hgp e.symm))).trans y1'
              have hbr6 : Below w0.heap.size w7 (w5.setCell ⟨g, N.length * 7 + 5, none⟩ (.int .i64 (max M (nd N7 jn).m))) := Hbr.out.setCell (p := ⟨g, N.length * 7 + 5, none⟩) hgb _
              clear cm cj ff c0 y0' y1' Hor Htr Hbr
              generalize (w5.setCell ⟨g, N.length * 7 + 5, none⟩ (.int .i64 (max M (nd N7 jn).m))) = w6a at *
              have hor7 : OwnsN w6a.drew w0.heap.size (.slice (some ⟨g, 0, none⟩) N7.length cap) (N7.set N.length ⟨(en l k).1, (en l k).2.1, (en l k).2.2, a, b, (max M (nd N7 jn).m), H⟩) := hor6.other rfl
              have htr7 : TreeAt w6a.drew B (.slice (some ⟨g, 0, none⟩) N7.length cap) := htr6
              have y06' : w6a.drew.cell? ⟨p, 0, none⟩ = some (.int .i64 a) := y06
              have y16' : w6a.drew.cell? ⟨p, 1, none⟩ = some (.int .i64 b) := y16
              have hbr7 : Below w0.heap.size w7 w6a.drew := hbr6.trans (Below.refl _ _).drew
              have c0 := htr7.c0
              have cm : w6a.drew.cell? ⟨g, N.length * 7 + 6, none⟩ = some (.int .i64 H) := by
                have := hor7.cellG N.length 6 (by simpa using hi7) (by omega)
                rwa [nd_set_eq hi7] at this
              have cj : w6a.drew.cell? ⟨g, jn * 7 + 6, none⟩ = some (.int .i64 (nd N7 jn).h) := by
                have := hor7.cellG jn 6 (by simpa using h2) (by omega)
                rwa [nd_set_ne (by omega)] at this
              have ff := hor7.frozenG (N.length * 7 + 6)
              have iw : IntKind.i64.wrap (1 + (nd N7 jn).h) = 1 + (nd N7 jn).h := by rw [IntKind.wrap_i64]; omega
              have Hor := Lib.hid hor7; have Htr := Lib.hid htr7; have Hbr := Lib.hid hbr7
              clear hor6 htr6 hbr6 y06 y16 hor7 htr7 hbr7
              go_still_tail 17, (by kernel_rfl)
              change wpList _ _ _ _ _ w6a.drew
              generalize w6a.drew = w6' at *
              go_wp2_with fail
              have hj0 : ¬ ((jn : Int) < 0) := by omega
              have hend := Hnext.out (w6'.setCell ⟨g, N.length * 7 + 6, none⟩ (.int .i64 (max H (1 + (nd N7 jn).h)))) (by unfold gm gh; rw [if_neg hj0, if_neg hj0]; exact Hor.out.put hi7 6 (max H (1 + (nd N7 jn).h)) (by omega))
              have htr7 := Htr.out.other (N.length * 7 + 6) (.int .i64 (max H (1 + (nd N7 jn).h))) hgB
              have y07 : (w6'.setCell ⟨g, N.length * 7 + 6, none⟩ (.int .i64 (max H (1 + (nd N7 jn).h)))).cell? ⟨p, 0, none⟩ = some (.int .i64 a) := (World.cell?_of_block (Below.heap_setCell _ _ _ _ (fun e => hgp e.symm))).trans y06'
              have y17 : (w6'.setCell ⟨g, N.length * 7 + 6, none⟩ (.int .i64 (max H (1 + (nd N7 jn).h)))).cell? ⟨p, 1, none⟩ = some (.int .i64 b) := (World.cell?_of_block (Below.heap_setCell _ _ _ _ (fun e => hgp e.symm))).trans y16'
              have hbr7 := Hbr.out.setCell (p := ⟨g, N.length * 7 + 6, none⟩) hgb (.int .i64 (max H (1 + (nd N7 jn).h)))
              clear iw
              go_roundw
              case rel => exact ⟨q + 1, by go_num, hlt, htr7, hend, y07, y17, hbr7⟩
              case measure => simp [intOf]; omega
          · obtain rfl : q = 2 := by omega
            have hM2 := gM_end (N := N7) (a := a) (b := b) (t := (en l k).2.1) (by have h9 := Hokk.out; unfold OkSp at h9; simp only at h9; omega)
            have hH2 := gH_end HF3.out HF4.out
            rw [hM2, hH2] at hor
            have Hor := Lib.hid hor
            have hl0 : 0 < l.length := by omega
            clear hor hM2 hH2
            go_wp2_with fail
            go_ret
            exact ⟨_, _, _, rfl, Hres.out hl0, htr, Hor.out, hne7, Hb7.out.trans hbr⟩
end Go.Proofs.Ytgdcgdjlhljbiaa
