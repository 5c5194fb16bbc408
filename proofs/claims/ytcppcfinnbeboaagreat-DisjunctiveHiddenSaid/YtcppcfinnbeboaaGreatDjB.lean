/- Law 47: lists of bounds in memory; when bounds are valid; sums of distances. -/
import Derived.Test.YtcppcfinnbeboaaGreatDjA
namespace Go.Proofs.YtcppcfinnbeboaaGreat
open Go.RowKit Go.Shelf

def bndCell (L : List Bnd) (i j : Nat) : Value := .int .i64 (if j = 0 then (bnd L i).1 else if j = 1 then (bnd L i).2.1 else (bnd L i).2.2)
def IsBnds (w : World) (v : Value) (L : List Bnd) : Prop := RowsIn w v L.length 3 (bndCell L)
def flatB (L : List Bnd) : List Value := L.flatMap fun e => [.int .i64 e.1, .int .i64 e.2.1, .int .i64 e.2.2]
def OwnsB (w : World) (base : Nat) (t : TypeId) (v : Value) (L : List Bnd) : Prop := w.ownsRow base t 3 v L.length (flatB L)
theorem flatB_length (L : List Bnd) : (flatB L).length = L.length * 3 := by
  unfold flatB
  induction L with
  | nil => rfl
  | cons s L ih => simp only [List.flatMap_cons, List.length_append, ih, List.length_cons, List.length_nil]; omega
theorem flatB_append (L M : List Bnd) : flatB (L ++ M) = flatB L ++ flatB M := by simp [flatB]
theorem flatB_one (L : List Bnd) : ∀ u ∈ flatB L, u.oneCell' = true := by
  intro u hu
  unfold flatB at hu
  obtain ⟨e, _, he⟩ := List.mem_flatMap.1 hu
  simp only [List.mem_cons, List.not_mem_nil, or_false] at he
  rcases he with rfl | rfl | rfl <;> rfl
theorem flatB_get (L : List Bnd) : ∀ i j, i < L.length → j < 3 → (flatB L)[i * 3 + j]? = some (bndCell L i j) := by
  induction L with
  | nil => intro i j hi; simp at hi
  | cons s L ih =>
    intro i j hi hj
    have e : flatB (s :: L) = .int .i64 s.1 :: .int .i64 s.2.1 :: .int .i64 s.2.2 :: flatB L := by simp [flatB]
    rw [e]
    cases i with
    | zero => rcases (by omega : j = 0 ∨ j = 1 ∨ j = 2) with rfl | rfl | rfl <;> simp [bndCell, bnd]
    | succ i =>
      have := ih i j (by simpa using hi) hj
      rw [show (i + 1) * 3 + j = (i * 3 + j) + 1 + 1 + 1 from by omega]
      simp only [List.getElem?_cons_succ]
      rw [this]
      simp [bndCell, bnd]
section
variable {w w' : World} {v : Value} {base : Nat} {t : TypeId} {L M : List Bnd} {b off c : Nat} {A : Option Addr}
theorem IsBnds.below (h : IsBnds w v L) (hb : Below w.heap.size w w') : IsBnds w' v L := RowsIn.below h hb
theorem IsBnds.form (h : IsBnds w v L) : ∃ A c, v = .slice A L.length c ∧ L.length ≤ c ∧ c ≤ 9223372036854775807 := RowsIn.form h
theorem IsBnds.addr (h : IsBnds w (.slice A L.length c) L) (hn : 0 < L.length) : ∃ b off, A = some ⟨b, off, none⟩ ∧ b < w.heap.size := RowsIn.addr h hn
theorem IsBnds.c0 (h : IsBnds w (.slice (some ⟨b, off, none⟩) L.length c) L) (i : Nat) (hi : i < L.length) : w.cell? ⟨b, off + i * 3, none⟩ = some (.int .i64 (bnd L i).1) := RowsIn.cells h i 0 hi (by omega)
theorem IsBnds.c1 (h : IsBnds w (.slice (some ⟨b, off, none⟩) L.length c) L) (i : Nat) (hi : i < L.length) : w.cell? ⟨b, off + i * 3 + 1, none⟩ = some (.int .i64 (bnd L i).2.1) := RowsIn.cells h i 1 hi (by omega)
theorem IsBnds.c2 (h : IsBnds w (.slice (some ⟨b, off, none⟩) L.length c) L) (i : Nat) (hi : i < L.length) : w.cell? ⟨b, off + i * 3 + 2, none⟩ = some (.int .i64 (bnd L i).2.2) := RowsIn.cells h i 2 hi (by omega)
theorem IsBnds.nil : IsBnds w (.slice none 0 0) [] := RowsIn.nil
theorem OwnsB.below (h : OwnsB w base t v L) (hb : Below w.heap.size w w') : OwnsB w' base t v L := own_below h hb (Nat.le_refl _)
theorem OwnsB.alloc (h : OwnsB w base t v L) (o : Obj) : OwnsB (w.alloc o) base t v L := h.below ((Below.refl _ _).alloc (Nat.le_refl _) o)
theorem OwnsB.mono {b : Nat} (h : OwnsB w base t v L) (hb : b ≤ base) : OwnsB w b t v L := by
  obtain ⟨h1, h2⟩ := h
  refine ⟨h1, h2.imp id ?_⟩
  rintro ⟨g, cap, cur, hv, hg, r⟩
  exact ⟨g, cap, cur, hv, Nat.le_trans hb hg, r⟩
theorem OwnsB.nil : OwnsB w base t (.slice none 0 0) [] := ⟨rfl, .inl ⟨rfl, rfl⟩⟩
theorem OwnsB.bnds (h : OwnsB w base t v L) : IsBnds w v L := by
  rcases h.2 with ⟨rfl, h0⟩ | ⟨g, cap, cur, rfl, hg, hh, h1, h2, h3, h4⟩
  · have : L = [] := List.eq_nil_of_length_eq_zero h0
    subst this
    exact IsBnds.nil
  · refine ⟨_, _, rfl, h1, by unfold maxLen at h2; exact h2, fun hn => ⟨g, 0, rfl, ?_, fun i j hi hj => ?_⟩⟩
    · rcases Nat.lt_or_ge g w.heap.size with hlt | hge
      · exact hlt
      · rw [Array.getElem?_eq_none hge] at hh; cases hh
    · have hc := World.ownsRow.cellAt h (i * 3 + j) (by omega)
      rw [flatB_get L i j hi hj] at hc
      simpa [Nat.add_assoc] using hc
theorem OwnsB.lit (x : Bnd) (w : World) : OwnsB (w.alloc (.cells #[.int .i64 x.1, .int .i64 x.2.1, .int .i64 x.2.2] t)) w.heap.size t (.slice (some ⟨w.heap.size, 0, none⟩) 1 1) [x] :=
  World.ownsRow_lit w #[.int .i64 x.1, .int .i64 x.2.1, .int .i64 x.2.2] 1 (Nat.le_refl _) (by unfold maxLen; omega) rfl
/-- A list's cells, one after the other. -/
theorem IsBnds.news (h : IsBnds w (.slice A L.length c) L) (ad : Addr) (hA : A = some ad) : ∀ j u, (flatB L)[j]? = some u → w.cell? (ad.add j) = some u := by
  intro j u hu
  have hj : j < L.length * 3 := by
    rcases Nat.lt_or_ge j (L.length * 3) with hj | hj
    · exact hj
    · rw [List.getElem?_eq_none (by rw [flatB_length]; exact hj)] at hu; cases hu
  obtain ⟨b, off, hb, _⟩ := h.addr (by omega)
  rw [hA] at hb h
  injection hb with hb
  subst hb
  have hd : j / 3 < L.length := by omega
  have hm : j % 3 < 3 := Nat.mod_lt _ (by omega)
  have e : j / 3 * 3 + j % 3 = j := by omega
  have h1 := RowsIn.cells h (j / 3) (j % 3) hd hm
  have h2 := flatB_get L (j / 3) (j % 3) hd hm
  rw [e] at h2
  rw [h2] at hu
  rw [← Option.some.inj hu, ← h1]
  have e2 : (⟨b, off, none⟩ : Addr).add j = ⟨b, off + j, none⟩ := by simp [Addr.add]
  rw [e2, Nat.add_assoc off, e]
end
/-- append(own, bounds...): the bounds stand somewhere. -/
theorem append_bndsG {P : Program} {tS tE : TypeId} (hS : P.underlying tS = some (.slice tE)) (hE : (P.info? tE).map (fun i => (i.zero, i.size, i.bytes)) = some (some (.agg #[.int .i64 0, .int .i64 0, .int .i64 0]), 3, 24))
    {ops : Array Oper} {rest : List Oper} {o : Oper} {a : Act} {Q : Exit → Act → World → Prop} (hgd : o.guard = none) (s x : Operand)
    (ho : o.op = .call { callee := .builtin .append, args := #[s, x], argTypes := #[tS, tS] })
    {w : World} (base : Nat) (v : Value) (L M : List Bnd) (ad : Addr) (c : Nat) (hs : a.eval s = v) (hown : OwnsB w base tE v L)
    (hx : a.eval x = .slice (some ad) M.length c) (hM : IsBnds w (.slice (some ad) M.length c) M) (hlen : L.length + M.length < 900000000) (hbase : base ≤ w.heap.size)
    (h : ∀ v' w', OwnsB w' base tE v' (L ++ M) → Below base w w' → wpList P ops Q rest (a.put o.dst v') w') :
    wpList P ops Q (o :: rest) a w := by
  obtain ⟨i, hi, hz, hsz, hby⟩ := info_parts hE
  refine wpList_append_own_at w hgd s x tS ho base tE i _ 3 24 hS hi hz hsz hby rfl (by omega) v L.length (flatB L) hs hown ad M.length c
    (flatB M) hx (flatB_length M) (hM.news ad rfl) (flatB_one M) (by unfold maxLen; omega) (by omega) hbase ?_
  intro v' w' hown' hg _ _
  refine h v' w' ?_ ?_
  · unfold OwnsB
    rw [flatB_append, List.length_append]
    exact hown'
  · refine (Below.refl base w).grown hg hbase ?_
    intro k hk
    exact (World.ownsRow.lt hown k hk).1
theorem two_bnds (w : World) (t : TypeId) (x y : Bnd) : IsBnds (w.alloc (.cells #[.int .i64 x.1, .int .i64 x.2.1, .int .i64 x.2.2, .int .i64 y.1, .int .i64 y.2.1, .int .i64 y.2.2] t)) (.slice (some ⟨w.heap.size, 0, none⟩) 2 2) [x, y] := by
  refine ⟨_, _, rfl, Nat.le_refl _, by omega, fun _ => ⟨w.heap.size, 0, rfl, by simp, fun i j hi hj => ?_⟩⟩
  rw [blk_get (heap_alloc_new w _)]
  simp only [List.length_cons, List.length_nil] at hi
  rcases (by omega : i = 0 ∨ i = 1) with rfl | rfl <;> rcases (by omega : j = 0 ∨ j = 1 ∨ j = 2) with rfl | rfl | rfl <;> rfl
theorem bnd_at {L : List Bnd} {i : Nat} (hi : i < L.length) : L[i] = bnd L i := by simp [bnd, hi]
/-- integer.Add, its sum. -/
theorem inAdd_c (a b : Int) (w : World) (ha : -9223372036854775808 ≤ a ∧ a ≤ 9223372036854775807) (hb : -9223372036854775808 ≤ b ∧ b ≤ 9223372036854775807) : Calls Tryz.prog 103 #[.int .i64 a, .int .i64 b] w fun e w' => (∃ n, e = .returned (.tuple #[.int .i64 (addC a b), .int .i64 n])) ∧ w' = w := by
  obtain ⟨s, hs⟩ : ∃ s, IntKind.i64.wrap (a + b) = s := ⟨_, rfl⟩
  have hs2 := hs
  rw [IntKind.wrap_i64] at hs2
  have Hs2 := Lib.hid hs2; have Ha := Lib.hid ha; have Hb := Lib.hid hb
  clear hs2 ha hb
  cases h1 : decide (0 ≤ a) <;> cases h2 : decide (0 ≤ b) <;> cases h3 : decide (0 ≤ s)
  all_goals
    have p1 := h1; have p2 := h2; have p3 := h3
    simp only [decide_eq_true_eq, decide_eq_false_iff_not] at p1 p2 p3
    have P1 := Lib.hid p1; have P2 := Lib.hid p2; have P3 := Lib.hid p3
    clear p1 p2 p3
    go_enter Tryz.func103, Tryz.ntmps103
    go_wp2_with fail
    go_ret2
    have p1 := P1.out; have p2 := P2.out; have p3 := P3.out; have q := Hs2.out; have ha := Ha.out; have hb := Hb.out
    first
      | (have e : addC a b = s := (by unfold addC; split <;> omega)
         rw [e]
         exact ⟨⟨_, rfl⟩, rfl⟩)
      | (have e : addC a b = 0 := (by unfold addC; split <;> omega)
         rw [e]
         exact ⟨⟨_, rfl⟩, rfl⟩)
theorem bdplus_c (a b : Int) (w : World) (ha : -9223372036854775808 ≤ a ∧ a ≤ 9223372036854775807) (hb : -9223372036854775808 ≤ b ∧ b ≤ 9223372036854775807) : Calls Tryz.prog 79 #[.int .i64 a, .int .i64 b] w fun e w' => e = .returned (.int .i64 (plusC a b)) ∧ w' = w := by
  have KA := Lib.hid (inAdd_c a b w ha hb)
  clear ha hb
  cases h1 : a == 4398046511104
  · cases h2 : b == 4398046511104
    · have E : Hid (plusC a b = addC a b) := Lib.hid (by
        unfold plusC noneD
        simp only [beq_eq_false_iff_ne, ne_eq] at h1 h2
        rw [if_neg (by simp [h1, h2])])
      go_enter Tryz.func79, Tryz.ntmps79
      go_wp2_with fail
      refine KA.out.mono ?_
      rintro e w1 ⟨⟨n, rfl⟩, rfl⟩
      go_wp2_with fail
      go_ret
      rw [E.out]
      exact ⟨rfl, rfl⟩
    · have E : Hid (plusC a b = 4398046511104) := Lib.hid (by
        unfold plusC noneD
        rw [if_pos (by simp at h2; simp [h2])])
      go_enter Tryz.func79, Tryz.ntmps79
      go_wp2_with fail
      go_ret
      rw [E.out]
      exact ⟨rfl, rfl⟩
  · have E : Hid (plusC a b = 4398046511104) := Lib.hid (by
      unfold plusC noneD
      rw [if_pos (by simp at h1; simp [h1])])
    go_enter Tryz.func79, Tryz.ntmps79
    go_wp2_with fail
    go_ret
    rw [E.out]
    exact ⟨rfl, rfl⟩
def bndB (n : Int) (b : Bnd) : Bool := decide (0 ≤ b.1) && decide (b.1 < n) && decide (0 ≤ b.2.1) && decide (b.2.1 < n) && decide (-1073741824 ≤ b.2.2) && decide (b.2.2 ≤ 1073741824)
theorem bdright_c (n x y z : Int) (w : World) : Calls Tryz.prog 77 #[.int .i64 n, .agg #[.int .i64 x, .int .i64 y, .int .i64 z]] w (Ret w (.bool (bndB n (x, y, z)))) := by
  have hb1 := (Below.refl w.heap.size w).alloc (Nat.le_refl _) (.cells #[.int .i64 x, .int .i64 y, .int .i64 z] 90)
  have Hb1 := Lib.hid hb1
  clear hb1
  unfold bndB
  simp only
  cases q0 : decide (0 ≤ x)
  · go_enter Tryz.func77, Tryz.ntmps77
    go_wp2_with fail
    go_ret
    exact ⟨by simp, Hb1.out⟩
  cases q1 : decide (x < n)
  · go_enter Tryz.func77, Tryz.ntmps77
    go_wp2_with fail
    go_ret
    exact ⟨by simp, Hb1.out⟩
  cases q2 : decide (0 ≤ y)
  · go_enter Tryz.func77, Tryz.ntmps77
    go_wp2_with fail
    go_ret
    exact ⟨by simp, Hb1.out⟩
  cases q3 : decide (y < n)
  · go_enter Tryz.func77, Tryz.ntmps77
    go_wp2_with fail
    go_ret
    exact ⟨by simp, Hb1.out⟩
  cases q4 : decide (-1073741824 ≤ z)
  · go_enter Tryz.func77, Tryz.ntmps77
    go_wp2_with fail
    go_ret
    exact ⟨by simp, Hb1.out⟩
  cases q5 : decide (z ≤ 1073741824)
  all_goals
    go_enter Tryz.func77, Tryz.ntmps77
    go_wp2_with fail
    go_ret
    exact ⟨by simp, Hb1.out⟩
def BoxI (B : Nat) (n : Int) (w : World) : Prop := w.heap[B]? = some (.cells #[.int .i64 n] 3 (0, 0))
theorem BoxI.below {B : Nat} {n : Int} {w w' : World} (h : BoxI B n w) (hb : Below w.heap.size w w') : BoxI B n w' := (hb.block _ (blk_lt h)).trans h
theorem bdValid1_c (B : Nat) (n x y z : Int) (w : World) (hB : BoxI B n w) : Calls Tryz.prog 76 #[.agg #[.int .i64 x, .int .i64 y, .int .i64 z], .pointer (some ⟨B, 0, none⟩)] w (Ret w (.bool (!bndB n (x, y, z)))) := by
  have hb1 := (Below.refl w.heap.size w).alloc (Nat.le_refl _) (.cells #[.int .i64 x, .int .i64 y, .int .i64 z] 90)
  have hB2 := hB.below hb1
  unfold BoxI at hB2
  have t0 := blk_get hB2 0
  simp at t0
  have Hb1 := Lib.hid hb1
  clear hb1 hB2 hB
  have K : Hid (∀ W, Calls Tryz.prog 77 #[.int .i64 n, .agg #[.int .i64 x, .int .i64 y, .int .i64 z]] W (Ret W (.bool (bndB n (x, y, z))))) := Lib.hid fun W => bdright_c n x y z W
  cases q : bndB n (x, y, z)
  all_goals
    rw [q] at K
    clear q
    go_enter Tryz.func76, Tryz.ntmps76
    go_wp2_with fail
    refine (K.out _).mono ?_
    rintro e w1 ⟨rfl, hb⟩
    have HF := Lib.hid (Hb1.out.trans (hb.mono Hb1.out.size))
    clear hb
    go_wp2_with fail
    go_ret
    exact ⟨rfl, HF.out⟩
theorem ent_bdValid1 : ∀ (args : Array Value) (w : World), Sem.run Tryz.prog (callFunc 76 args) w = .ok (.enter 76 args) w := fun _ _ => by kernel_rfl
def IdxBnd (L : List Bnd) (n r : Int) : Prop := (r = -1 ∧ L.all (bndB n) = true) ∨ ∃ i : Nat, r = i ∧ L.all (bndB n) = false
def IdxBndRet (L : List Bnd) (n : Int) (w : World) (e : Ending) (w' : World) : Prop := ∃ r, IdxBnd L n r ∧ e = .returned (.int .i64 r) ∧ Below w.heap.size w w'
set_option maxRecDepth 100000 in
theorem slIndexBound_c (B : Nat) (n : Int) (v : Value) (L : List Bnd) (w : World) (hs : IsBnds w v L) (hB : BoxI B n w) : Calls Tryz.prog 101 #[v, .func (.func 76) #[] #[.pointer (some ⟨B, 0, none⟩)]] w (IdxBndRet L n w) := by
  obtain ⟨A, c, rfl, hnc, hc⟩ := hs.form
  have HB := Lib.hid hB
  clear hB
  go_enter Tryz.func101, Tryz.ntmps101
  go_wp2
  go_loopw [8] (fun i wr => ∃ k : Nat, i = .int .i64 k ∧ k ≤ L.length ∧ Hid (∀ j, j < k → bndB n (bnd L j) = true) ∧ Below w.heap.size w wr) (fun i _ => L.length - (intOf i).toNat)
  case atStart => exact ⟨0, rfl, Nat.zero_le _, Lib.hid (fun j hj => absurd hj (by omega)), Below.refl _ _⟩
  case round =>
    obtain ⟨k, rfl, hk, HA, hb⟩ := hrel
    by_cases hlt : k < L.length
    · obtain ⟨b, off, rfl, hbk⟩ := hs.addr (by omega)
      have c0 := (hs.below hb).c0 k hlt
      have c1 := (hs.below hb).c1 k hlt
      have c2 := (hs.below hb).c2 k hlt
      have hcall := bdValid1_c B n (bnd L k).1 (bnd L k).2.1 (bnd L k).2.2 wr (HB.out.below hb)
      have hfd : bndB n (bnd L k) = false → IdxBnd L n (k : Int) := fun h => .inr ⟨k, rfl, all_not (fun i h => bnd_at h) hlt h⟩
      have hst : bndB n (bnd L k) = true → ∀ j, j < k + 1 → bndB n (bnd L j) = true := fun h j hj => by
        rcases Nat.eq_or_lt_of_le (show j ≤ k by omega) with e | e
        · rw [e]; exact h
        · exact HA.out j e
      generalize bnd L k = y at *
      obtain ⟨y0, y1, y2⟩ := y
      simp only at c0 c1 c2 hcall hfd hst
      cases hd : bndB n (y0, y1, y2)
      · rw [hd] at hcall
        have Hcall := Lib.hid hcall
        have Hfd := Lib.hid (hfd hd)
        clear hcall hst hfd hd
        go_wp2_with fail
        refine Hcall.out.mono ?_
        rintro e w2 ⟨rfl, hb2⟩
        have hb3 := hb.trans (hb2.mono hb.size)
        go_wp2
        go_ret
        exact ⟨_, Hfd.out, rfl, hb3⟩
      · rw [hd] at hcall
        have Hcall := Lib.hid hcall
        have Hst := Lib.hid (hst hd)
        clear hcall hst hfd hd
        go_wp2_with fail
        refine Hcall.out.mono ?_
        rintro e w2 ⟨rfl, hb2⟩
        have hb3 := hb.trans (hb2.mono hb.size)
        go_wp2
        go_roundw
        case rel => exact ⟨k + 1, by go_num, by omega, Hst, hb3⟩
        case measure => simp [intOf]; omega
    · obtain rfl : k = L.length := by omega
      have Hr : Hid (IdxBnd L n (-1)) := .inl ⟨rfl, all_of (fun i h => bnd_at h) HA.out⟩
      clear HA
      go_wp2
      go_ret
      exact ⟨_, Hr.out, rfl, hb⟩
theorem slContainsBound_c (B : Nat) (n : Int) (v : Value) (L : List Bnd) (w : World) (hs : IsBnds w v L) (hB : BoxI B n w) : Calls Tryz.prog 75 #[v, .func (.func 76) #[] #[.pointer (some ⟨B, 0, none⟩)]] w (Ret w (.bool (!L.all (bndB n)))) := by
  have K := Lib.hid (slIndexBound_c B n v L w hs hB)
  clear hs hB
  cases q : L.all (bndB n)
  all_goals
    have Q := Lib.hid q; clear q
    go_enter Tryz.func75, Tryz.ntmps75
    go_wp2_with fail
    refine K.out.mono ?_
    rintro e w1 ⟨r, hr, rfl, hb⟩
    rcases hr with ⟨rfl, h⟩ | ⟨i, rfl, h⟩
    all_goals first
      | exact absurd (h.symm.trans Q.out) (by decide)
      | (have i0 : decide ((0 : Int) ≤ (i : Int)) = true := decide_eq_true (by omega)
         clear h
         go_wp2_with fail
         go_ret
         exact ⟨rfl, hb⟩)
      | (clear h
         go_wp2_with fail
         go_ret
         exact ⟨rfl, hb⟩)
def bndsB (n : Int) (l : List Bnd) : Bool := decide (1 ≤ n) && decide (n ≤ 24) && decide ((l.length : Int) ≤ 200) && l.all (bndB n)
theorem bdValid_c (n : Int) (v : Value) (l : List Bnd) (w : World) (hs : IsBnds w v l) : Calls Tryz.prog 57 #[.int .i64 n, v] w (Ret w (.bool (bndsB n l))) := by
  obtain ⟨A, c, rfl, hnc, hc⟩ := hs.form
  have hb1 := (Below.refl w.heap.size w).alloc (Nat.le_refl _) (.cells #[.int .i64 n] 3)
  have K := Lib.hid (slContainsBound_c w.heap.size n _ l _ (hs.below hb1) (heap_alloc_new w _))
  have Hb1 := Lib.hid hb1
  clear hb1 hs
  unfold bndsB
  cases q0 : decide (1 ≤ n)
  · go_enter Tryz.func57, Tryz.ntmps57
    go_wp2_with fail
    go_ret
    exact ⟨by simp, Hb1.out⟩
  cases q1 : decide (n ≤ 24)
  · go_enter Tryz.func57, Tryz.ntmps57
    go_wp2_with fail
    go_ret
    exact ⟨by simp, Hb1.out⟩
  cases q2 : decide ((l.length : Int) ≤ 200)
  · go_enter Tryz.func57, Tryz.ntmps57
    go_wp2_with fail
    go_ret
    exact ⟨by simp, Hb1.out⟩
  cases q3 : l.all (bndB n)
  all_goals
    rw [q3] at K
    go_enter Tryz.func57, Tryz.ntmps57
    go_wp2_with fail
    refine K.out.mono ?_
    rintro e w1 ⟨rfl, hb⟩
    have HF := Lib.hid (Hb1.out.trans (hb.mono Hb1.out.size))
    clear hb
    go_wp2_with fail
    go_ret
    exact ⟨by simp, HF.out⟩
end Go.Proofs.YtcppcfinnbeboaaGreat
