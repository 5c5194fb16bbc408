/- Law 42: the walk of the reference's links. -/
import Derived.Test.YtgdcgdjlhljbiaaIdxD
import Derived.Test.YtgdcgdjlhljbiaaIdxR
import Derived.Test.YtgdcgdjlhljbiaaPre
namespace Go.Proofs.Ytgdcgdjlhljbiaa
open Go.RowKit

theorem tIntInfoX : (Try.prog.info? 3).map (fun i => (i.zero, i.size, i.bytes)) = some (some (.int .i64 0), 1, 8) := by kernel_rfl
theorem made_ints (w : World) (n : Nat) (hn : n ≤ 1000000) : (Instr.makeSlice 49 (.int .i64 n) (.int .i64 n)).run Try.prog w = .ok (.slice (some ⟨w.heap.size, 0, none⟩) n n) (w.alloc (.cells (flatI (idx (List.replicate n 0))).toArray 3)) := by
  obtain ⟨i, hi, hz, hsz, hby⟩ := info_parts tIntInfoX
  have hr := run_make (P := Try.prog) w 49 3 i (.int .i64 0) Try.underlying49 hi hz .i64 .i64 n n (by omega) (Int.le_refl _) (by rw [hby]; omega) (by omega)
  rw [hr, hsz]
  have : madeCells (Value.int .i64 0).cells ((n : Int).toNat * 1) = (flatI (idx (List.replicate n 0))).toArray := by
    rw [← Array.toList_inj]
    show (madeCells #[Value.int .i64 0] _).toList = _
    rw [toList_madeCells_one]
    simp [flatI, idx]
  rw [this]; rfl
/-- Block g holds these numbers, and nothing else. -/
def OwnsC (w : World) (g n : Nat) (C : List Nat) : Prop := C.length = n ∧ w.heap[g]? = some (.cells (flatI (idx C)).toArray 3 (0, 0))
section
variable {w w' : World} {g n : Nat} {C : List Nat}
theorem OwnsC.lt (h : OwnsC w g n C) : g < w.heap.size := lt_of_block h.2
theorem OwnsC.below (h : OwnsC w g n C) (hb : Below w.heap.size w w') : OwnsC w' g n C := ⟨h.1, (hb.block g h.lt).trans h.2⟩
theorem OwnsC.cell (h : OwnsC w g n C) (j : Nat) (hj : j < n) : w.cell? ⟨g, j, none⟩ = some (.int .i64 ((C.getD j 0 : Nat) : Int)) := by
  have hl : j < C.length := by rw [h.1]; exact hj
  simp [World.cell?, h.2, flatI, idx, hl]
theorem OwnsC.frozen (h : OwnsC w g n C) (j : Nat) : w.frozen? ⟨g, j, none⟩ = false := by simp [World.frozen?, h.2]
theorem OwnsC.set (h : OwnsC w g n C) (j x : Nat) : OwnsC (w.setCell ⟨g, j, none⟩ (.int .i64 (x : Int))) g n (C.set j x) := by
  refine ⟨by simpa using h.1, ?_⟩
  simp [World.setCell, Array.getElem?_modify, h.2, flatI, idx, List.map_set]
end
theorem append_ixG {P : Program} (hS : P.underlying 49 = some (.slice 3)) (hE : (P.info? 3).map (fun i => (i.zero, i.size, i.bytes)) = some (some (.int .i64 0), 1, 8))
    {ops : Array Oper} {rest : List Oper} {o : Oper} {a : Act} {Q : Exit → Act → World → Prop} (hgd : o.guard = none) (s x : Operand)
    (ho : o.op = .call { callee := .builtin .append, args := #[s, x], argTypes := #[49, 49] })
    {w : World} (base : Nat) (v : Value) (l : List Nat) (j : Nat) (hs : a.eval s = v) (hown : OwnsIx w base v l)
    (hx : a.eval x = .slice (some ⟨w.heap.size, 0, none⟩) 1 1) (hlen : l.length < 900000000) (hbase : base ≤ w.heap.size)
    (h : ∀ v' w', OwnsIx w' base v' (l ++ [j]) → Below base w w' → (∀ b, b < w.heap.size → v.ownBlock ≠ some b → w'.heap[b]? = w.heap[b]?) → w.heap.size ≤ w'.heap.size → wpList P ops Q rest (a.put o.dst v') w') :
    wpList P ops Q (o :: rest) a (w.alloc (.cells #[.int .i64 (j : Int)] 3)) := by
  obtain ⟨i, hi, hz, hsz, hby⟩ := info_parts hE
  refine wpList_append_own_at (w.alloc (.cells #[.int .i64 (j : Int)] 3)) hgd s x 49 ho base 3 i _ 1 8 hS hi hz hsz hby rfl (by omega) v l.length (flatI (idx l)) hs (OwnsIx.alloc hown _) ⟨w.heap.size, 0, none⟩ 1 1
    [.int .i64 (j : Int)] hx rfl ?_ (by simp [Value.oneCell']) (by unfold maxLen; omega) (by omega) (by simp; omega) ?_
  · intro j u hu
    rcases j with _ | j <;> simp at hu
    · subst hu; simp [Addr.add]
  · intro v' w' hown' hg _ hob
    refine h v' w' ?_ ?_ ?_ ?_
    · unfold OwnsIx
      rw [← idx_snoc]
      simpa [flatI] using hown'
    · refine ((Below.refl base w).alloc hbase _).grown hg (by simp; omega) ?_
      intro k hk
      exact (World.ownsRow.lt hown k hk).1
    · intro b hb hne
      exact (hg.block b (by simp; omega) (fun e => hne e.symm)).trans (((Below.refl w.heap.size w).alloc (Nat.le_refl _) _).block b hb)
    · have := hg.size; simp at this; omega
/-- Are the links those of a tree? -/
def LinkRet (N : List Nd) (root : Int) (w : World) (e : Ending) (w' : World) : Prop :=
  ∃ r, e = .returned (.bool r) ∧ (r = true → (N.length = 0 ∧ root = -1) ∨ (0 < N.length ∧ Links N root)) ∧ (r = false → ¬ validT N root) ∧ Below w.heap.size w w'

set_option maxRecDepth 100000 in
set_option maxHeartbeats 4000000 in
theorem r42links_c (v : Value) (root : Int) (N : List Nd) (w : World) (hs : IsNodes w v N) (hN : N.length ≤ 1000) : Calls Try.prog 46 #[.agg #[v, .int .i64 root]] w (LinkRet N root w) := by
  obtain ⟨A, c, rfl, hnc, hc⟩ := hs.form
  by_cases hz : N.length = 0
  · have hN0 : N = [] := List.length_eq_zero_iff.1 hz
    subst hN0
    have hv := valid_nil root
    have Hv := Lib.hid hv; clear hv
    have t0 : (((([] : List Nd).length : Nat) : Int) == 0) = true := rfl
    go_enter Try.func46, Try.ntmps46
    go_wp2_with fail
    go_ret
    refine ⟨_, rfl, fun h => .inl ⟨rfl, by simpa using h⟩, fun h h' => ?_, (Below.refl _ _).alloc (Nat.le_refl _) _⟩
    have := Hv.out.1 h'
    simp [this] at h
  have t0 : ((N.length : Int) == 0) = false := beq_eq_false_iff_ne.2 (by omega)
  by_cases hlo : root < 0
  · have t1 : decide (root < 0) = true := by simpa using hlo
    have hnv := not_valid_root hN (by omega) (.inl hlo)
    have Hnv := Lib.hid hnv; clear hnv
    go_enter Try.func46, Try.ntmps46
    go_wp2_with fail
    go_ret
    exact ⟨false, rfl, (fun h => absurd h Bool.false_ne_true), fun _ => Hnv.out, (Below.refl _ _).alloc (Nat.le_refl _) _⟩
  have t1 : decide (root < 0) = false := by simpa using hlo
  by_cases hhi : (N.length : Int) ≤ root
  · have t2 : decide ((N.length : Int) ≤ root) = true := by simpa using hhi
    have hnv := not_valid_root hN (by omega) (.inr hhi)
    have Hnv := Lib.hid hnv; clear hnv
    go_enter Try.func46, Try.ntmps46
    go_wp2_with fail
    go_ret
    exact ⟨false, rfl, (fun h => absurd h Bool.false_ne_true), fun _ => Hnv.out, (Below.refl _ _).alloc (Nat.le_refl _) _⟩
  have t2 : decide ((N.length : Int) ≤ root) = false := by simpa using hhi
  obtain ⟨R, rfl⟩ : ∃ R : Nat, root = R := ⟨root.toNat, by omega⟩
  have hR : R < N.length := by omega
  have hmk := fun w => made_ints w N.length (by omega)
  have hown : OwnsC ((w.alloc (.cells #[.slice A N.length c, .int .i64 (R : Int)] 24)).alloc (.cells (flatI (idx (List.replicate N.length 0))).toArray 3)) (w.heap.size + 1) N.length (List.replicate N.length 0) := by
    refine ⟨by simp, ?_⟩
    have h := heap_alloc_new (w.alloc (.cells #[.slice A N.length c, .int .i64 (R : Int)] 24)) (.cells (flatI (idx (List.replicate N.length 0))).toArray 3)
    rwa [show (w.alloc (.cells #[.slice A N.length c, .int .i64 (R : Int)] 24)).heap.size = w.heap.size + 1 from by simp] at h
  have hbw : Below w.heap.size w ((w.alloc (.cells #[.slice A N.length c, .int .i64 (R : Int)] 24)).alloc (.cells (flatI (idx (List.replicate N.length 0))).toArray 3)) := ((Below.refl _ _).alloc (Nat.le_refl _) _).alloc (by simp) _
  have hT0 : ((w.alloc (.cells #[.slice A N.length c, .int .i64 (R : Int)] 24)).alloc (.cells (flatI (idx (List.replicate N.length 0))).toArray 3)).cell? ⟨w.heap.size, 0, none⟩ = some (.slice A N.length c) := by simp
  have hT1 : ((w.alloc (.cells #[.slice A N.length c, .int .i64 (R : Int)] 24)).alloc (.cells (flatI (idx (List.replicate N.length 0))).toArray 3)).cell? ⟨w.heap.size, 1, none⟩ = some (.int .i64 (R : Int)) := by simp
  have fz := hown.frozen R
  have cl := hown.cell R hR
  have hown0 : OwnsC ((w.alloc (.cells #[.slice A N.length c, .int .i64 (R : Int)] 24)).alloc (.cells ((flatI (idx (List.replicate N.length 0))).set R (.int .i64 1)).toArray 3)) (w.heap.size + 1) N.length (abvL N R 0 0) := by
    refine ⟨abvL_len _ _ _ _, ?_⟩
    have h := heap_alloc_new (w.alloc (.cells #[.slice A N.length c, .int .i64 (R : Int)] 24)) (.cells ((flatI (idx (List.replicate N.length 0))).set R (.int .i64 1)).toArray 3)
    rw [show (w.alloc (.cells #[.slice A N.length c, .int .i64 (R : Int)] 24)).heap.size = w.heap.size + 1 from by simp] at h
    rw [h, abv_start (root := (R : Int)) (by omega) (by omega)]
    simp [flatI, idx, List.map_set]
  have hbw0 : Below w.heap.size w ((w.alloc (.cells #[.slice A N.length c, .int .i64 (R : Int)] 24)).alloc (.cells ((flatI (idx (List.replicate N.length 0))).set R (.int .i64 1)).toArray 3)) := ((Below.refl _ _).alloc (Nat.le_refl _) _).alloc (by simp) _
  have hT0' : ((w.alloc (.cells #[.slice A N.length c, .int .i64 (R : Int)] 24)).alloc (.cells ((flatI (idx (List.replicate N.length 0))).set R (.int .i64 1)).toArray 3)).cell? ⟨w.heap.size, 0, none⟩ = some (.slice A N.length c) := by simp
  have hT1' : ((w.alloc (.cells #[.slice A N.length c, .int .i64 (R : Int)] 24)).alloc (.cells ((flatI (idx (List.replicate N.length 0))).set R (.int .i64 1)).toArray 3)).cell? ⟨w.heap.size, 1, none⟩ = some (.int .i64 (R : Int)) := by simp
  have hlt1' : w.heap.size < ((w.alloc (.cells #[.slice A N.length c, .int .i64 (R : Int)] 24)).alloc (.cells ((flatI (idx (List.replicate N.length 0))).set R (.int .i64 1)).toArray 3)).heap.size := by simp; omega
  have Hown0 := Lib.hid hown0; have Hbw0 := Lib.hid hbw0; have HT0 := Lib.hid hT0'; have HT1 := Lib.hid hT1'; have Hlt1 := Lib.hid hlt1'
  clear hown hbw hown0 hbw0 hT0' hT1' hlt1'
  go_enter Try.func46, Try.ntmps46
  go_wp2_with fail
  clear fz cl hT0 hT1 hmk
  have hown := Hown0.out; have hbw := Hbw0.out; have hT0 := HT0.out; have hT1 := HT1.out; have hlt1 := Hlt1.out
  clear Hown0 Hbw0 HT0 HT1 Hlt1
  generalize ((w.alloc (.cells #[.slice A N.length c, .int .i64 (R : Int)] 24)).alloc (.cells ((flatI (idx (List.replicate N.length 0))).set R (.int .i64 1)).toArray 3)) = w1 at *
  obtain ⟨g, hg⟩ : ∃ g, g = w.heap.size + 1 := ⟨_, rfl⟩
  obtain ⟨tb, htb⟩ : ∃ g, g = w.heap.size := ⟨_, rfl⟩
  rw [← hg] at hown ⊢
  rw [← htb] at hT0 hT1 hlt1 ⊢
  have hne : tb ≠ g := by omega
  have Hg := Lib.hid hg; have Htb := Lib.hid htb; have Hwg := Lib.hid (show w.heap.size ≤ g by omega)
  clear hg htb
  have hs1 := hs.below hbw
  go_loopw [5] (fun i wr => ∃ k : Nat, i = .int .i64 k ∧ k ≤ N.length ∧ Hid (∀ a, a < k → (-1 ≤ (nd N a).l ∧ (nd N a).l < N.length) ∧ (-1 ≤ (nd N a).r ∧ (nd N a).r < N.length)) ∧ OwnsC wr g N.length (abvL N R k 0) ∧ Duo g g w1 wr) (fun i _ => N.length - (intOf i).toNat)
  case atStart => exact ⟨0, rfl, Nat.zero_le _, fun a ha => absurd ha (by omega), hown, Duo.refl _ _ _⟩
  case round =>
    obtain ⟨k, rfl, hk, Hr, ho, hd⟩ := hrel
    have hT0r := (hd.cell (o := 0) hlt1 hne hne).trans hT0
    have hT1r := (hd.cell (o := 1) hlt1 hne hne).trans hT1
    by_cases hlt : k < N.length
    · obtain ⟨b0, off, rfl, hb0⟩ := hs.addr (by omega)
      have hb0g : b0 ≠ g := by have := Hg.out; omega
      have hb1 : b0 < w1.heap.size := Nat.lt_of_lt_of_le hb0 hbw.size
      go_wp2_with fail
      go_loopw [6] (fun i wq => ∃ j : Nat, i = .int .i64 j ∧ j ≤ 2 ∧ Hid ((1 ≤ j → -1 ≤ (nd N k).l ∧ (nd N k).l < N.length) ∧ (2 ≤ j → -1 ≤ (nd N k).r ∧ (nd N k).r < N.length)) ∧ OwnsC wq g N.length (abvL N R k j) ∧ Duo g g w1 wq) (fun i _ => 2 - (intOf i).toNat)
      case atStart => exact ⟨0, rfl, by omega, ⟨fun h => absurd h (by omega), fun h => absurd h (by omega)⟩, ho, hd⟩
      case round =>
        obtain ⟨j, rfl, hj, Hkr, hoq, hdq⟩ := hrel
        have hT0q := (hdq.cell (o := 0) hlt1 hne hne).trans hT0
        have d3 := (hdq.cell (b := b0) (o := off + k * 7 + 3) hb1 hb0g hb0g).trans (hs1.c3 k hlt)
        have d4 := (hdq.cell (b := b0) (o := off + k * 7 + 4) hb1 hb0g hb0g).trans (hs1.c4 k hlt)
        rcases (show j = 0 ∨ j = 1 ∨ j = 2 by omega) with rfl | rfl | rfl
        · clear d4
          by_cases hx : -1 ≤ (nd N k).l ∧ (nd N k).l < N.length
          rotate_left
          · have hnv : ¬ validT N (R : Int) := not_valid_kid hN hlt (fun h => hx ⟨h.1.1, h.1.2⟩)
            have Hnv := Lib.hid hnv; clear hnv
            have ht : decide ((nd N k).l < -1) = true ∨ (decide ((nd N k).l < -1) = false ∧ decide ((N.length : Int) ≤ (nd N k).l) = true) := by
              by_cases h1 : (nd N k).l < -1
              · exact .inl (decide_eq_true h1)
              · exact .inr ⟨decide_eq_false h1, decide_eq_true (by omega)⟩
            generalize (nd N k).l = cx at *
            clear hx
            rcases ht with ht | ⟨ht, ht2⟩
            all_goals
              go_wp2_with fail
              go_ret
              exact ⟨false, rfl, (fun h => absurd h Bool.false_ne_true), fun _ => Hnv.out, hbw.trans (hdq.below Hwg.out Hwg.out hbw.size)⟩
          have u1 : decide ((nd N k).l < -1) = false := decide_eq_false (by omega)
          have u2 : decide ((N.length : Int) ≤ (nd N k).l) = false := decide_eq_false (by omega)
          by_cases h0 : 0 ≤ (nd N k).l
          · have u3 : decide (0 ≤ (nd N k).l) = true := decide_eq_true h0
            have hab := abv_left (root := (R : Int)) h0 hx.2
            have Hkeep := Lib.hid (show (1 ≤ 1 → -1 ≤ (nd N k).l ∧ (nd N k).l < N.length) ∧ (2 ≤ 1 → -1 ≤ (nd N k).r ∧ (nd N k).r < N.length) from ⟨fun _ => hx, fun h => absurd h (by omega)⟩)
            obtain ⟨q, hq⟩ : ∃ q : Nat, (nd N k).l = q := ⟨(nd N k).l.toNat, by omega⟩
            have hqn : q < N.length := by omega
            have cq := hoq.cell q hqn
            rw [abvL_get hqn] at cq
            have fq := hoq.frozen q
            have hml := abv_le N R k 0 q
            rw [hq] at d3 u1 u2 u3 hab
            rw [show ((q : Nat) : Int).toNat = q from rfl] at hab
            have hst := hoq.set q (abv N R k 0 q + 1)
            rw [← hab] at hst
            have Hst := Lib.hid hst
            clear hst hab hx h0 hq Hkr
            generalize abv N R k 0 q = m at *
            go_wp2_with fail
            go_roundw
            case rel => exact ⟨1, by simp, by omega, Hkeep.out, Hst.out, hdq.trans (Duo.setL g g _ _ _)⟩
            case measure => simp [intOf]
          · have u3 : decide (0 ≤ (nd N k).l) = false := decide_eq_false h0
            have hab := abv_left_no (root := (R : Int)) (N := N) (i := k) (show (nd N k).l < 0 by omega)
            have Hkeep := Lib.hid (show (1 ≤ 1 → -1 ≤ (nd N k).l ∧ (nd N k).l < N.length) ∧ (2 ≤ 1 → -1 ≤ (nd N k).r ∧ (nd N k).r < N.length) from ⟨fun _ => hx, fun h => absurd h (by omega)⟩)
            have Hst := Lib.hid (show OwnsC wr g N.length (abvL N R k 1) from hab ▸ hoq)
            clear hab hx h0 Hkr
            generalize (nd N k).l = cx at *
            go_wp2_with fail
            go_roundw
            case rel => exact ⟨1, by simp, by omega, Hkeep.out, Hst.out, hdq⟩
            case measure => simp [intOf]
        · 
          by_cases hx : -1 ≤ (nd N k).r ∧ (nd N k).r < N.length
          rotate_left
          · have hnv : ¬ validT N (R : Int) := not_valid_kid hN hlt (fun h => hx ⟨h.2.1, h.2.2⟩)
            have Hnv := Lib.hid hnv; clear hnv
            have ht : decide ((nd N k).r < -1) = true ∨ (decide ((nd N k).r < -1) = false ∧ decide ((N.length : Int) ≤ (nd N k).r) = true) := by
              by_cases h1 : (nd N k).r < -1
              · exact .inl (decide_eq_true h1)
              · exact .inr ⟨decide_eq_false h1, decide_eq_true (by omega)⟩
            generalize (nd N k).r = cx at *
            clear hx
            rcases ht with ht | ⟨ht, ht2⟩
            all_goals
              go_wp2_with fail
              go_ret
              exact ⟨false, rfl, (fun h => absurd h Bool.false_ne_true), fun _ => Hnv.out, hbw.trans (hdq.below Hwg.out Hwg.out hbw.size)⟩
          have u1 : decide ((nd N k).r < -1) = false := decide_eq_false (by omega)
          have u2 : decide ((N.length : Int) ≤ (nd N k).r) = false := decide_eq_false (by omega)
          by_cases h0 : 0 ≤ (nd N k).r
          · have u3 : decide (0 ≤ (nd N k).r) = true := decide_eq_true h0
            have hab := abv_right (root := (R : Int)) h0 hx.2
            have Hkeep := Lib.hid (show (1 ≤ 2 → -1 ≤ (nd N k).l ∧ (nd N k).l < N.length) ∧ (2 ≤ 2 → -1 ≤ (nd N k).r ∧ (nd N k).r < N.length) from ⟨fun _ => Hkr.out.1 (by omega), fun _ => hx⟩)
            obtain ⟨q, hq⟩ : ∃ q : Nat, (nd N k).r = q := ⟨(nd N k).r.toNat, by omega⟩
            have hqn : q < N.length := by omega
            have cq := hoq.cell q hqn
            rw [abvL_get hqn] at cq
            have fq := hoq.frozen q
            have hml := abv_le N R k 1 q
            rw [hq] at d4 u1 u2 u3 hab
            rw [show ((q : Nat) : Int).toNat = q from rfl] at hab
            have hst := hoq.set q (abv N R k 1 q + 1)
            rw [← hab] at hst
            have Hst := Lib.hid hst
            clear hst hab hx h0 hq Hkr
            generalize abv N R k 1 q = m at *
            go_wp2_with fail
            go_roundw
            case rel => exact ⟨2, by simp, by omega, Hkeep.out, Hst.out, hdq.trans (Duo.setL g g _ _ _)⟩
            case measure => simp [intOf]
          · have u3 : decide (0 ≤ (nd N k).r) = false := decide_eq_false h0
            have hab := abv_right_no (root := (R : Int)) (N := N) (i := k) (show (nd N k).r < 0 by omega)
            have Hkeep := Lib.hid (show (1 ≤ 2 → -1 ≤ (nd N k).l ∧ (nd N k).l < N.length) ∧ (2 ≤ 2 → -1 ≤ (nd N k).r ∧ (nd N k).r < N.length) from ⟨fun _ => Hkr.out.1 (by omega), fun _ => hx⟩)
            have Hst := Lib.hid (show OwnsC wr g N.length (abvL N R k 2) from hab ▸ hoq)
            clear hab hx h0 Hkr
            generalize (nd N k).r = cx at *
            go_wp2_with fail
            go_roundw
            case rel => exact ⟨2, by simp, by omega, Hkeep.out, Hst.out, hdq⟩
            case measure => simp [intOf]
        · go_wp2_with fail
          go_roundw
          case rel => exact ⟨k + 1, by go_num, by omega, fun a ha => (by
            rcases Nat.lt_or_ge a k with h | h
            · exact Hr.out a h
            · obtain rfl : a = k := by omega
              exact ⟨Hkr.out.1 (by omega), Hkr.out.2 (by omega)⟩), abv_next N R k ▸ hoq, hdq⟩
          case measure => simp [intOf]; omega
    · obtain rfl : k = N.length := by omega
      go_wp2_with fail
      go_loop [8] (fun s => ∃ j : Nat, s = .int .i64 j ∧ j ≤ N.length ∧ Hid (∀ q, q < j → abv N R N.length 0 q = 1)) (fun s => N.length - (intOf s).toNat)
      case atStart => exact ⟨0, rfl, Nat.zero_le _, fun q hq => absurd hq (by omega)⟩
      case round =>
        obtain ⟨j, rfl, hj, Hq⟩ := hrel
        by_cases hjl : j < N.length
        · have cj := ho.cell j hjl
          rw [abvL_get hjl] at cj
          by_cases hm : abv N R N.length 0 j = 1
          rotate_left
          · have hnv := not_valid_abv hN hjl hm
            have tm : (((abv N R N.length 0 j : Nat) : Int) == 1) = false := beq_eq_false_iff_ne.2 (by omega)
            have tm' : (((abv N R N.length 0 j : Nat) : Int) != 1) = true := by rw [bne, tm]; rfl
            have Hnv := Lib.hid hnv; clear hnv hm
            generalize abv N R N.length 0 j = m at *
            go_wp2_with fail
            go_ret
            exact ⟨false, rfl, (fun h => absurd h Bool.false_ne_true), fun _ => Hnv.out, hbw.trans (hd.below Hwg.out Hwg.out hbw.size)⟩
          · rw [hm] at cj
            have Hm := Lib.hid hm; clear hm
            go_wp2_with fail
            go_round
            case rel => exact ⟨j + 1, by go_num, by omega, fun q hq => (by
              rcases Nat.lt_or_ge q j with h | h
              · exact Hq.out q h
              · obtain rfl : q = j := by omega
                exact Hm.out)⟩
            case measure => simp [intOf]; omega
        · obtain rfl : j = N.length := by omega
          have hlk : Links N R := links_made (by omega) (by omega) Hr.out Hq.out
          have Hlk := Lib.hid hlk
          obtain ⟨b0, off, rfl, hb0⟩ := hs.addr (by omega)
          have hb0g : b0 ≠ g := by have := Hwg.out; omega
          have hb1 : b0 < w1.heap.size := Nat.lt_of_lt_of_le hb0 hbw.size
          have hb2 : b0 < wr.heap.size := Nat.lt_of_lt_of_le hb1 hd.size
          have hs2 : IsNodes wr (.slice (some ⟨b0, off, none⟩) N.length c) N := hs.below (hbw.trans (hd.below Hwg.out Hwg.out hbw.size))
          have htb2 : tb < wr.heap.size := Nat.lt_of_lt_of_le hlt1 hd.size
          have hstart : Bfs N R [R] 0 := bfs_start hR
          have hown2 : OwnsIx (wr.alloc (.cells #[.int .i64 (R : Int)] 3)) wr.heap.size (.slice (some ⟨wr.heap.size, 0, none⟩) 1 1) [R] := World.ownsRow_lit wr #[.int .i64 (R : Int)] 1 (Nat.le_refl _) (by unfold maxLen; omega) rfl
          have hbw2 : Below wr.heap.size wr (wr.alloc (.cells #[.int .i64 (R : Int)] 3)) := (Below.refl _ _).alloc (Nat.le_refl _) _
          have Hret := Lib.hid (hbw.trans (hd.below Hwg.out Hwg.out hbw.size))
          clear hlk ho hd hT0 hT1
          go_wp2_with fail
          obtain ⟨w2, rfl⟩ : ∃ x : World, x = wr := ⟨_, rfl⟩
          generalize w2.alloc (.cells #[.int .i64 (R : Int)] 3) = w3 at *
          obtain ⟨bb, hbb⟩ : ∃ b, b = w2.heap.size := ⟨_, rfl⟩
          rw [← hbb] at hown2 hbw2 hb2 htb2 ⊢
          have Hbb := Lib.hid hbb; clear hbb
          go_loopw [9, 10] (fun lv i wr => ∃ (B : List Nat) (k : Nat), i = .int .i64 k ∧ k ≤ B.length ∧ Hid (Bfs N R B k) ∧ OwnsIx wr bb lv B ∧ Below bb w2 wr) (fun _ i _ => N.length - (intOf i).toNat)
          case atStart => exact ⟨[R], 0, rfl, Nat.zero_le _, hstart, hown2, hbw2⟩
          case round =>
            obtain ⟨B, k, rfl, hkB, HB, ho, hbk⟩ := hrel
            have hBn := bfs_len HB.out
            by_cases hkl : k < B.length
            · have hp : ix B k < N.length := HB.out.rng _ (ix_mem hkl)
              have hstep := bfs_step Hlk.out HB.out hkl
              rw [ix_at hkl] at hstep
              obtain ⟨gL, capL, rfl, hgb, hgl, hca1, hca2⟩ := ho.form (by omega)
              have cT := (hbk.cell (p := ⟨tb, 0, none⟩) htb2).trans hT0r
              have cL := ho.cell k hkl
              have d0 := (hbk.cell (p := ⟨b0, off + ix B k * 7, none⟩) hb2).trans (hs2.c0 (ix B k) hp)
              have d1 := (hbk.cell (p := ⟨b0, off + ix B k * 7 + 1, none⟩) hb2).trans (hs2.c1 (ix B k) hp)
              have d2 := (hbk.cell (p := ⟨b0, off + ix B k * 7 + 2, none⟩) hb2).trans (hs2.c2 (ix B k) hp)
              have d3 := (hbk.cell (p := ⟨b0, off + ix B k * 7 + 3, none⟩) hb2).trans (hs2.c3 (ix B k) hp)
              have d4 := (hbk.cell (p := ⟨b0, off + ix B k * 7 + 4, none⟩) hb2).trans (hs2.c4 (ix B k) hp)
              have d5 := (hbk.cell (p := ⟨b0, off + ix B k * 7 + 5, none⟩) hb2).trans (hs2.c5 (ix B k) hp)
              have d6 := (hbk.cell (p := ⟨b0, off + ix B k * 7 + 6, none⟩) hb2).trans (hs2.c6 (ix B k) hp)
              have hsz := hbk.size
              obtain ⟨p, hpx⟩ : ∃ p, p = ix B k := ⟨_, rfl⟩
              rw [← hpx] at hp cL d0 d1 d2 d3 d4 d5 d6 hstep
              have Hstep := Lib.hid hstep
              clear hpx hstep
              go_wp2_with fail
              have i1 : (k : Int) < (B.length : Int) := by omega
              have i2 : 0 ≤ (k : Int) := by omega
              have i3 : (p : Int) < (N.length : Int) := by omega
              have i4 : 0 ≤ (p : Int) := by omega
              go_region_held3 (fun w' => w'.cell? ⟨tb, 0, none⟩ = some (.slice (some ⟨b0, off, none⟩) N.length c) ∧ w'.cell? ⟨gL, k, none⟩ = some (.int .i64 (p : Int)) ∧ w'.cell? ⟨b0, off + p * 7, none⟩ = some (.int .i64 (nd N p).f) ∧ w'.cell? ⟨b0, off + p * 7 + 1, none⟩ = some (.int .i64 (nd N p).t) ∧ w'.cell? ⟨b0, off + p * 7 + 2, none⟩ = some (.int .i64 (nd N p).v) ∧ w'.cell? ⟨b0, off + p * 7 + 3, none⟩ = some (.int .i64 (nd N p).l) ∧ w'.cell? ⟨b0, off + p * 7 + 4, none⟩ = some (.int .i64 (nd N p).r) ∧ w'.cell? ⟨b0, off + p * 7 + 5, none⟩ = some (.int .i64 (nd N p).m) ∧ w'.cell? ⟨b0, off + p * 7 + 6, none⟩ = some (.int .i64 (nd N p).h)) (go_keep) (first | fail)
              clear i1 i2 i3 i4 cT cL d0 d1 d2 d3 d4 d5 d6
              have hw5 : Below wr.heap.size wr ((wr.alloc (.cells #[.int .i64 (nd N p).f, .int .i64 (nd N p).t, .int .i64 (nd N p).v, .int .i64 (nd N p).l, .int .i64 (nd N p).r, .int .i64 (nd N p).m, .int .i64 (nd N p).h] 60)).drew) := ((Below.refl _ _).alloc (Nat.le_refl _) _).drew
              have hown5 := ho.below hw5
              have hbw5 : Below bb w2 ((wr.alloc (.cells #[.int .i64 (nd N p).f, .int .i64 (nd N p).t, .int .i64 (nd N p).v, .int .i64 (nd N p).l, .int .i64 (nd N p).r, .int .i64 (nd N p).m, .int .i64 (nd N p).h] 60)).drew) := hbk.trans (hw5.mono (Nat.le_trans (by rw [Hbb.out]; exact Nat.le_refl _) hsz))
              have e3 : ((wr.alloc (.cells #[.int .i64 (nd N p).f, .int .i64 (nd N p).t, .int .i64 (nd N p).v, .int .i64 (nd N p).l, .int .i64 (nd N p).r, .int .i64 (nd N p).m, .int .i64 (nd N p).h] 60)).drew).cell? ⟨wr.heap.size, 3, none⟩ = some (.int .i64 (nd N p).l) := by simp
              have e4 : ((wr.alloc (.cells #[.int .i64 (nd N p).f, .int .i64 (nd N p).t, .int .i64 (nd N p).v, .int .i64 (nd N p).l, .int .i64 (nd N p).r, .int .i64 (nd N p).m, .int .i64 (nd N p).h] 60)).drew).cell? ⟨wr.heap.size, 4, none⟩ = some (.int .i64 (nd N p).r) := by simp
              have hq5 : wr.heap.size < ((wr.alloc (.cells #[.int .i64 (nd N p).f, .int .i64 (nd N p).t, .int .i64 (nd N p).v, .int .i64 (nd N p).l, .int .i64 (nd N p).r, .int .i64 (nd N p).m, .int .i64 (nd N p).h] 60)).drew).heap.size := by simp
              have hbbq : bb ≤ wr.heap.size := Nat.le_trans (by rw [Hbb.out]; exact Nat.le_refl _) hsz
              generalize (wr.alloc (.cells #[.int .i64 (nd N p).f, .int .i64 (nd N p).t, .int .i64 (nd N p).v, .int .i64 (nd N p).l, .int .i64 (nd N p).r, .int .i64 (nd N p).m, .int .i64 (nd N p).h] 60)).drew = w5 at *
              generalize wr.heap.size = q at *
              have hkid : kidsN N p = (if 0 ≤ (nd N p).l then [(nd N p).l.toNat] else []) ++ (if 0 ≤ (nd N p).r then [(nd N p).r.toNat] else []) := rfl
              have Hkid := Lib.hid hkid
              have HO := Lib.hid ho
              clear hkid ho hw5 hbk
              have hbb5 : bb ≤ w5.heap.size := by omega
              by_cases hr : 0 ≤ (nd N p).r
              · obtain ⟨jr, hjr⟩ : ∃ j : Nat, (nd N p).r = j := ⟨(nd N p).r.toNat, by omega⟩
                rw [hjr] at e4 Hkid
                have u2 : decide (0 ≤ (jr : Int)) = true := decide_eq_true (by omega)
                clear hr hjr
                by_cases hl : 0 ≤ (nd N p).l
                · obtain ⟨jl, hjl⟩ : ∃ j : Nat, (nd N p).l = j := ⟨(nd N p).l.toNat, by omega⟩
                  rw [hjl] at e3 Hkid
                  have u1 : decide (0 ≤ (jl : Int)) = true := decide_eq_true (by omega)
                  clear hl hjl
                  go_wp2_with (at_builtin; first | (refine append_ixG tInts tIntInfo (by rfl) (.tmp 103) (.tmp 106) (by rfl) bb _ B jl (by rfl) hown5 (by rfl) (by first | omega | (simp; omega)) hbb5 ?_; intro v6 w6 hown6 hb6 hblk6 hsz6; have hbb6 : bb ≤ w6.heap.size := Nat.le_trans hbb5 hb6.size; have e4' : w6.cell? ⟨q, 4, none⟩ = some (.int .i64 (jr : Int)) := (World.cell?_of_block (a := ⟨q, 4, none⟩) (hblk6 q hq5 (by simp [Value.ownBlock]; omega))).trans e4; have hbw6 := hbw5.trans hb6) | (refine append_ixG tInts tIntInfo (by rfl) (.tmp 111) (.tmp 114) (by rfl) bb _ (B ++ [jl]) jr (by rfl) hown6 (by rfl) (by first | omega | (simp; omega)) hbb6 ?_; intro v7 w7 hown7 hb7 hblk7 hsz7))
                  have hbw7 := hbw6.trans hb7
                  go_roundw
                  case rel => exact ⟨B ++ [jl] ++ [jr], k + 1, by go_num, by first | omega | (simp; omega), Lib.hid (by
                    have h := Hstep.out
                    rw [Hkid.out, if_pos (by omega), if_pos (by omega)] at h
                    simpa using h), hown7, hbw7⟩
                  case measure => simp [intOf]; omega
                · have u1 : decide (0 ≤ (nd N p).l) = false := decide_eq_false hl
                  have Hl0 := Lib.hid hl; clear hl
                  go_wp2_with (at_builtin; refine append_ixG tInts tIntInfo (by rfl) (.tmp 111) (.tmp 114) (by rfl) bb _ B jr (by rfl) hown5 (by rfl) (by first | omega | (simp; omega)) hbb5 ?_; intro v7 w7 hown7 hb7 hblk7 hsz7)
                  have hbw7 := hbw5.trans hb7
                  go_roundw
                  case rel => exact ⟨B ++ [jr], k + 1, by go_num, by first | omega | (simp; omega), Lib.hid (by
                    have h := Hstep.out
                    rw [Hkid.out, if_neg Hl0.out, if_pos (by omega)] at h
                    simpa using h), hown7, hbw7⟩
                  case measure => simp [intOf]; omega
              · have u2 : decide (0 ≤ (nd N p).r) = false := decide_eq_false hr
                have Hr0 := Lib.hid hr; clear hr
                by_cases hl : 0 ≤ (nd N p).l
                · obtain ⟨jl, hjl⟩ : ∃ j : Nat, (nd N p).l = j := ⟨(nd N p).l.toNat, by omega⟩
                  rw [hjl] at e3 Hkid
                  have u1 : decide (0 ≤ (jl : Int)) = true := decide_eq_true (by omega)
                  clear hl hjl
                  go_wp2_with (at_builtin; refine append_ixG tInts tIntInfo (by rfl) (.tmp 103) (.tmp 106) (by rfl) bb _ B jl (by rfl) hown5 (by rfl) (by first | omega | (simp; omega)) hbb5 ?_; intro v6 w6 hown6 hb6 hblk6 hsz6; have hbb6 : bb ≤ w6.heap.size := Nat.le_trans hbb5 hb6.size; have e4' : w6.cell? ⟨q, 4, none⟩ = some (.int .i64 (nd N p).r) := (World.cell?_of_block (a := ⟨q, 4, none⟩) (hblk6 q hq5 (by simp [Value.ownBlock]; omega))).trans e4; have hbw6 := hbw5.trans hb6)
                  go_roundw
                  case rel => exact ⟨B ++ [jl], k + 1, by go_num, by first | omega | (simp; omega), Lib.hid (by
                    have h := Hstep.out
                    rw [Hkid.out, if_pos (by omega), if_neg Hr0.out] at h
                    simpa using h), hown6, hbw6⟩
                  case measure => simp [intOf]; omega
                · have u1 : decide (0 ≤ (nd N p).l) = false := decide_eq_false hl
                  have Hl0 := Lib.hid hl; clear hl
                  go_wp2_with fail
                  go_roundw
                  case rel => exact ⟨B, k + 1, by go_num, by first | omega | (simp; omega), Lib.hid (by
                    have h := Hstep.out
                    rw [Hkid.out, if_neg Hl0.out, if_neg Hr0.out] at h
                    simpa using h), hown5, hbw5⟩
                  case measure => simp [intOf]; omega
            · obtain rfl : k = B.length := by omega
              obtain ⟨AL, capL, rfl, hcL⟩ := own_formX ho
              by_cases hlen : B.length = N.length
              · have tl : ((B.length : Int) == (N.length : Int)) = true := beq_iff_eq.2 (by omega)
                have Hlen := Lib.hid hlen; clear hlen
                go_wp2_with fail
                go_ret
                exact ⟨true, rfl, fun _ => .inr ⟨by omega, Hlk.out⟩, (fun h => absurd h (by simp)), Hret.out.trans (hbk.mono (by rw [Hbb.out]; exact Hret.out.size))⟩
              · have tl : ((B.length : Int) == (N.length : Int)) = false := beq_eq_false_iff_ne.2 (by omega)
                have Hlen := Lib.hid hlen; clear hlen
                go_wp2_with fail
                go_ret
                exact ⟨false, rfl, (fun h => absurd h Bool.false_ne_true), fun _ hv => Hlen.out (bfs_all HB.out hv), Hret.out.trans (hbk.mono (by rw [Hbb.out]; exact Hret.out.size))⟩
end Go.Proofs.Ytgdcgdjlhljbiaa
