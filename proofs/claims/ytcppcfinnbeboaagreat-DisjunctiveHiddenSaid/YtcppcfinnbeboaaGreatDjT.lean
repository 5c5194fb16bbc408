/- Law 47: bounds.tight: the closed matrix of bounds. -/
import Derived.Test.YtcppcfinnbeboaaGreatDjV
import Derived.StillTailTactics
namespace Go.Proofs.YtcppcfinnbeboaaGreat
open Go.RowKit Go.Shelf

theorem tIntsInfo47 : (Tryz.prog.info? 25).map (fun i => (i.zero, i.size, i.bytes)) = some (some (.slice none 0 0), 1, 24) := by kernel_rfl
theorem made_rowN (w : World) (n : Nat) (hn : n ≤ 1000000) : (Instr.makeSlice 57 (.int .i64 n) (.int .i64 n)).run Tryz.prog w = .ok (.slice (some ⟨w.heap.size, 0, none⟩) n n) (w.alloc (.cells (Array.replicate n (.slice none 0 0)) 25)) := by
  obtain ⟨i, hi, hz, hsz, hby⟩ := info_parts tIntsInfo47
  have hr := run_make (P := Tryz.prog) w 57 25 i (.slice none 0 0) Tryz.underlying57 hi hz .i64 .i64 n n (by omega) (Int.le_refl _) (by rw [hby]; omega) (by omega)
  rw [hr, hsz]
  have : madeCells (Value.slice none 0 0).cells ((n : Int).toNat * 1) = (Array.replicate n (.slice none 0 0)) := by
    rw [← Array.toList_inj]
    show (madeCells #[Value.slice none 0 0] _).toList = _
    rw [toList_madeCells_one]
    simp
  rw [this]; rfl
section
variable {w w' : World} {b n m base : Nat} {G C : Nat → Nat} {M : Mat}
theorem MatAt.drew (h : MatAt w base b m n G C M) : MatAt w.drew base b m n G C M := h.blocks rfl fun _ _ => rfl
theorem MatAt.spot (h : MatAt w base b m n G C M) (k : Nat) (hk : k < n) : ∃ u, w.cell? ⟨b, k, none⟩ = some u := by
  obtain ⟨cs, h1, h2, _⟩ := h.tab
  rw [blk_get h1, Array.getElem?_eq_getElem (by omega)]
  exact ⟨_, rfl⟩
theorem MatAt.softb (h : MatAt w base b m n G C M) (k : Nat) : w.frozen? ⟨b, k, none⟩ = false := by
  obtain ⟨cs, h1, _⟩ := h.tab
  exact blk_soft h1 k
/-- A row of the open matrix more. -/
theorem MatAt.addOpen {g : Nat} (h : MatAt w base b m n G C openM) (hm : m < n) (hr : RowAt w g n fun _ => noneD) (hb : g ≠ b) (hg : ∀ i, i < m → g ≠ G i) (hlo : base ≤ g) (hn : n ≤ 9223372036854775807) :
    MatAt ((w.setCell ⟨b, m, none⟩ (.slice (some ⟨g, 0, none⟩) n n)).setCell ⟨g, m, none⟩ (.int .i64 0)) base b (m + 1) n (fun i => if i = m then g else G i) (fun i => if i = m then n else C i) openM := by
  have h1 := h.add hm hr hb hg hlo (Nat.le_refl _) hn
  have h2 := h1.set m m (by omega) hm 0
  simp only [if_true] at h2
  refine h2.congr fun i j hi hj => ?_
  unfold upd openM
  by_cases e1 : i = m <;> by_cases e2 : j = m
  · rw [if_pos ⟨e1, e2⟩, if_pos (by omega)]
  · rw [if_neg (by omega)]
    simp only [e1, if_true]
    rw [if_neg (by omega)]
  · rw [if_neg (by omega)]
    simp only [e1, if_false]
  · rw [if_neg (by omega)]
    simp only [e1, if_false]
end
theorem slContainsRow_N (base b N : Nat) (G C : Nat → Nat) (M : Mat) (w : World) (hm : MatAt w base b N N G C M) (h0 : 0 < N) (hn : N ≤ 1000) : Calls Tryz.prog 80 #[.slice (some ⟨b, 0, none⟩) N N, .func (.func 81) #[] #[]] w (Ret w (.bool (lowF M N N))) := by
  obtain ⟨n, rfl⟩ : ∃ n, N = n + 1 := ⟨N - 1, by omega⟩
  exact slContainsRow_c base b n G C M w hm (by omega)
theorem fwTo_none {M : Mat} {n k : Nat} (h : fwTo M n k = none) : ∀ m, k ≤ m → fwTo M n m = none
  | 0, hm => by obtain rfl : k = 0 := by omega
                exact h
  | m + 1, hm => by
    rcases Nat.lt_or_ge k (m + 1) with h1 | h1
    · have h2 := fwTo_none h m (by omega)
      show (match fwTo M n m with | none => none | some P => if lowF (stageF P m n n) n n then none else some (stageF P m n n)) = _
      rw [h2]
    · obtain rfl : k = m + 1 := by omega
      exact h
def TightAt (n : Nat) (o : Option Mat) (w : World) (e : Ending) (w' : World) : Prop :=
  match o with
  | none => e = .returned (.tuple #[.slice none 0 0, .bool false]) ∧ Below w.heap.size w w'
  | some M => ∃ b G C, e = .returned (.tuple #[.slice (some ⟨b, 0, none⟩) n n, .bool true]) ∧ MatAt w' w.heap.size b n n G C M ∧ Below w.heap.size w w'
set_option maxRecDepth 100000 in
set_option maxHeartbeats 8000000 in
theorem bdtight_c (n : Nat) (v : Value) (l : List Bnd) (w : World) (hs : IsBnds w v l) (hn : n < 24) (hl : l.all (bndB ((n + 1 : Nat) : Int)) = true) (hl2 : l.length ≤ 200) : Calls Tryz.prog 58 #[.int .i64 ((n + 1 : Nat) : Int), v] w (TightAt (n + 1) (tightF (n + 1) l) w) := by
  obtain ⟨A, c, rfl, hnc, hc⟩ := hs.form
  obtain ⟨N, hN⟩ : ∃ N, N = n + 1 := ⟨_, rfl⟩
  rw [← hN] at hl ⊢
  obtain ⟨W1, hW1⟩ : ∃ y, y = w.alloc (.cells (Array.replicate N (.slice none 0 0)) 25) := ⟨_, rfl⟩
  obtain ⟨b, hb⟩ : ∃ y, y = w.heap.size := ⟨_, rfl⟩
  have hb1 : Below w.heap.size w W1 := by rw [hW1]; exact (Below.refl _ _).alloc (Nat.le_refl _) _
  have hm1 : MatAt W1 w.heap.size b 0 N (fun _ => 0) (fun _ => 0) openM := ⟨⟨_, by rw [hW1, hb]; exact heap_alloc_new w _, by simp, fun i hi => absurd hi (by omega)⟩, fun i hi => absurd hi (by omega), fun i j hi => absurd hi (by omega), fun i hi => absurd hi (by omega), by omega, fun i hi => absurd hi (by omega), fun i hi => absurd hi (by omega)⟩
  have hmk := fun X => made_rowN X N (by omega)
  have Hs := Lib.hid hs; have HW1 := Lib.hid hW1; have Hb := Lib.hid hb; have Hb1 := Lib.hid hb1; have Hm1 := Lib.hid hm1; have HN := Lib.hid hN; have Hn := Lib.hid hn; have Hl := Lib.hid hl; have Hl2 := Lib.hid hl2
  clear hs hW1 hb hb1 hm1 hN hn hl hl2
  go_enter Tryz.func58, Tryz.ntmps58
  go_wp2_with fail
  rw [← HW1.out, ← Hb.out]
  clear hmk
  go_loopw [18] (fun i wr => ∃ k : Nat, i = .int .i64 (k : Int) ∧ k ≤ N ∧ (∃ G C, MatAt wr w.heap.size b k N G C openM) ∧ Below w.heap.size w wr) (fun i _ => N - (intOf i).toNat)
  case atStart => exact ⟨0, rfl, Nat.zero_le _, ⟨_, _, Hm1.out⟩, Hb1.out⟩
  case round =>
    obtain ⟨k, rfl, hk, ⟨G, C, hm⟩, hbr⟩ := hrel
    rcases Nat.lt_or_ge k N with hlt | hge
    · have k0 : decide ((k : Int) < (N : Int)) = true := decide_eq_true (by omega)
      have k1 : IntKind.i64.wrap ((k : Int) + 1) = ((k + 1 : Nat) : Int) := by rw [IntKind.wrap_i64]; have := HN.out; have := Hn.out; omega
      have k2 : (0 : Int) ≤ (k : Int) := by omega
      have k3 : (k : Int) < (N : Int) := by omega
      have hbA := (Below.refl wr.heap.size wr).alloc (Nat.le_refl _) (.cells #[.int .i64 4398046511104] 3)
      have KR := Lib.hid (slRepeatInt_c wr.heap.size N noneD (wr.alloc (.cells #[.int .i64 4398046511104] 3)) (by rw [blk_get (heap_alloc_new wr _)]; rfl) (by simp) (by omega) (by have := HN.out; have := Hn.out; omega))
      have HbA := Lib.hid hbA; have Hm := Lib.hid hm; have Hbr := Lib.hid hbr; have Hlt := Lib.hid hlt
      clear hbA hm hbr hlt hk
      go_wp2_with fail
      refine KR.out.mono ?_
      rintro e W ⟨g, rfl, hr, hg, hbw⟩
      have hbw2 : Below wr.heap.size wr W := HbA.out.trans (hbw.mono HbA.out.size)
      have hmW := Hm.out.below hbw2
      have hgs : wr.heap.size < g := by have h : (wr.alloc (.cells #[.int .i64 4398046511104] 3)).heap.size ≤ g := hg; simp at h; omega
      have hgb : g ≠ b := by have := Hm.out.lt; omega
      have hgG : ∀ i, i < k → g ≠ G i := fun i hi => by have := (Hm.out.rows i hi).lt; omega
      obtain ⟨u, hu⟩ := hmW.spot k Hlt.out
      have hfz := hmW.softb k
      have hbW : Below w.heap.size w W := Hbr.out.trans (hbw2.mono Hbr.out.size)
      have hwg : w.heap.size ≤ g := Nat.le_trans Hbr.out.size (by omega)
      have hnew := hmW.addOpen Hlt.out hr hgb hgG hwg (by have := HN.out; have := Hn.out; omega)
      have hbN : Below w.heap.size w ((W.setCell ⟨b, k, none⟩ (.slice (some ⟨g, 0, none⟩) N N)).setCell ⟨g, k, none⟩ (.int .i64 0)) := (hbW.setCell (p := ⟨b, k, none⟩) (by simp only; rw [Hb.out]; exact Nat.le_refl _) _).setCell (p := ⟨g, k, none⟩) hwg _
      have hr2 : RowAt (W.setCell ⟨b, k, none⟩ (.slice (some ⟨g, 0, none⟩) N N)) g N fun _ => noneD := hr.block (blk_oth hgb _ _)
      have f0 := hr2.cell k Hlt.out
      have f1 := hr2.soft k
      obtain ⟨cs, hcs, _⟩ := hmW.tab
      have f2 : (W.setCell ⟨b, k, none⟩ (.slice (some ⟨g, 0, none⟩) N N)).cell? ⟨b, k, none⟩ = some (.slice (some ⟨g, 0, none⟩) N N) := by
        rw [blk_get (blk_set hcs k _), Array.getElem?_setIfInBounds, if_pos rfl, if_pos]
        rw [blk_get hcs] at hu
        exact (Array.getElem?_eq_some_iff.1 hu).1
      have Hnew := Lib.hid hnew; have HbN := Lib.hid hbN
      clear hr hg hbw hbw2 hmW hgs hgG hbW hnew hbN hr2 hcs hwg
      go_wp2_with fail
      go_roundw
      case rel => exact ⟨k + 1, by go_num, Hlt.out, ⟨_, _, Hnew.out⟩, HbN.out⟩
      case measure => have := Hlt.out; simp [intOf]; omega
    · obtain rfl : N = k := by omega
      have k0 : decide ((N : Int) < (N : Int)) = false := decide_eq_false (by omega)
      have HmA := Lib.hid hm; have HbA := Lib.hid hbr
      clear hm hbr Hm1 Hb1 HW1 hk hge
      go_wp2_with fail
      have HsA : Hid (∀ X, Below w.heap.size w X → IsBnds X (.slice A l.length c) l) := Lib.hid fun X h => Hs.out.below h
      clear Hs
      go_loopw [36] (fun i wq => ∃ j : Nat, i = .int .i64 (j : Int) ∧ j ≤ l.length ∧ MatAt wq w.heap.size b N N G C (startF l j) ∧ InI (startF l j) N ∧ Below w.heap.size w wq) (fun i _ => l.length - (intOf i).toNat)
      case atStart => exact ⟨0, rfl, Nat.zero_le _, HmA.out, (fun i j _ _ => by show _ ≤ openM i j ∧ openM i j ≤ _; unfold openM noneD; split <;> omega), HbA.out⟩
      case round =>
        obtain ⟨j, rfl, hj, hm, hin, hbr⟩ := hrel
        rcases Nat.lt_or_ge j l.length with hjl | hjl
        · have j0 : decide ((j : Int) < (l.length : Int)) = true := decide_eq_true (by omega)
          have j1 : IntKind.i64.wrap ((j : Int) + 1) = ((j + 1 : Nat) : Int) := by rw [IntKind.wrap_i64]; have := Hl2.out; omega
          have j2 : (0 : Int) ≤ (j : Int) := by omega
          have j3 : (j : Int) < (l.length : Int) := by omega
          have hbl := List.all_eq_true.1 Hl.out _ (List.getElem_mem hjl)
          rw [bnd_at hjl] at hbl
          have hst : startF l (j + 1) = bindF (startF l j) (bnd l j) := rfl
          have hsr := HsA.out wr hbr
          obtain ⟨g1, off, rfl, hbk⟩ := hsr.addr (by omega)
          have c0 := hsr.c0 j hjl
          have c1 := hsr.c1 j hjl
          have c2 := hsr.c2 j hjl
          obtain ⟨M2, hM2⟩ : ∃ y, y = startF l (j + 1) := ⟨_, rfl⟩
          rw [← hM2] at hst
          have HM2 := Lib.hid hM2
          clear hM2
          generalize startF l j = M at hm hin hst
          generalize bnd l j = y at c0 c1 c2 hbl hst
          obtain ⟨I, J, x⟩ := y
          unfold bndB at hbl
          simp only [Bool.and_eq_true, decide_eq_true_eq] at hbl c0 c1 c2
          obtain ⟨⟨⟨⟨⟨h1, h2⟩, h3⟩, h4⟩, h5⟩, h6⟩ := hbl
          obtain ⟨p, rfl⟩ : ∃ p : Nat, I = (p : Int) := ⟨I.toNat, by omega⟩
          obtain ⟨q, rfl⟩ : ∃ q : Nat, J = (q : Int) := ⟨J.toNat, by omega⟩
          have hp : p < N := by omega
          have hq : q < N := by omega
          have hst2 : M2 = upd M p q (min (M p q) x) := hst
          obtain ⟨W, hW⟩ : ∃ y, y = wr.alloc (.cells #[.int .i64 (p : Int), .int .i64 (q : Int), .int .i64 x] 90) := ⟨_, rfl⟩
          obtain ⟨b9, hb9⟩ : ∃ y, y = wr.heap.size := ⟨_, rfl⟩
          have hbW : Below wr.heap.size wr W := by rw [hW]; exact (Below.refl _ _).alloc (Nat.le_refl _) _
          have hT : W.drew.heap[b9]? = some (.cells #[.int .i64 (p : Int), .int .i64 (q : Int), .int .i64 x] 90 (0, 0)) := by rw [hW, hb9]; exact heap_alloc_new wr _
          have hmW := (hm.below hbW).drew
          have hnew := hmW.set p q hp hq (min (M p q) x)
          rw [← hst2] at hnew
          have hin2 : InI M2 N := by rw [hst2]; exact upd_in hin (by have := hin p q hp hq; omega)
          have hbN := ((hbr.trans (hbW.mono hbr.size)).drew).setCell (p := ⟨G p, q, none⟩) (hm.log p hp) (.int .i64 (min (M p q) x))
          have d0 := blk_get hT 0
          have d1 := blk_get hT 1
          have d2 := blk_get hT 2
          simp at d0 d1 d2
          have d3 := hmW.head p hp
          have d4 := hmW.cell p q hp hq
          have d5 := hmW.soft p q hp
          have p0 : (p : Int) < (N : Int) := by omega
          have p1 : (0 : Int) ≤ (p : Int) := by omega
          have q0 : (q : Int) < (N : Int) := by omega
          have q1 : (0 : Int) ≤ (q : Int) := by omega
          have Hnew := Lib.hid hnew; have Hin2 := Lib.hid hin2; have HbN := Lib.hid hbN; have HW := Lib.hid hW; have Hb9 := Lib.hid hb9; have Hjl := Lib.hid hjl
          clear hst hst2 hsr hbk h1 h2 h3 h4 h5 h6 hp hq hW hb9 hbW hT hmW hnew hin2 hbN hm hin hbr hjl hj
          go_wp2_with fail
          rw [← HW.out, ← Hb9.out]
          go_still_tail 20, (by kernel_rfl)
          change wpList _ _ _ _ _ W.drew
          generalize W.drew = w5 at d0 d1 d2 d3 d4 d5 Hnew HbN ⊢
          go_wp2_with fail
          go_roundw
          case rel => exact ⟨j + 1, by go_num, Hjl.out, by rw [← HM2.out]; exact Hnew.out, by rw [← HM2.out]; exact Hin2.out, HbN.out⟩
          case measure => have := Hjl.out; simp [intOf]; omega
        · obtain rfl : j = l.length := by omega
          have j0 : decide ((l.length : Int) < (l.length : Int)) = false := decide_eq_false (by omega)
          obtain ⟨M0, hM0⟩ : ∃ y, y = startF l l.length := ⟨_, rfl⟩
          rw [← hM0] at hm hin
          have hT : ∀ o, fwTo M0 N N = o → tightF N l = (match o with | none => none | some M => if negF M N then none else some M) := fun o h => by
            unfold tightF
            rw [← hM0, h]
            cases o <;> rfl
          have HT := Lib.hid hT; have HmB := Lib.hid hm; have HinB := Lib.hid hin; have HbB := Lib.hid hbr
          have HN24 := Lib.hid (show N ≤ 24 by have := HN.out; have := Hn.out; omega)
          have HN0 := Lib.hid (show 0 < N by have := HN.out; omega)
          clear hm hin hbr hM0 hT HmA HbA hj hjl HsA
          go_wp2_with fail
          go_loopw [62] (fun i wx => ∃ (κ : Nat) (M : Mat), i = .int .i64 (κ : Int) ∧ κ ≤ N ∧ Hid (fwTo M0 N κ = some M) ∧ MatAt wx w.heap.size b N N G C M ∧ InI M N ∧ Below w.heap.size w wx) (fun i _ => N - (intOf i).toNat)
          case atStart => exact ⟨0, M0, rfl, Nat.zero_le _, Lib.hid rfl, HmB.out, HinB.out, HbB.out⟩
          case round =>
            obtain ⟨κ, M, rfl, hκ, HM, hm, hin, hbr⟩ := hrel
            rcases Nat.lt_or_ge κ N with hκl | hκl
            · have κ0 : decide ((κ : Int) < (N : Int)) = true := decide_eq_true (by omega)
              have κ1 : IntKind.i64.wrap ((κ : Int) + 1) = ((κ + 1 : Nat) : Int) := by rw [IntKind.wrap_i64]; have := HN24.out; omega
              have κ2 : (0 : Int) ≤ (κ : Int) := by omega
              have κ3 : (κ : Int) < (N : Int) := by omega
              have HmC := Lib.hid hm; have HinC := Lib.hid hin; have HbC := Lib.hid hbr; have Hκl := Lib.hid hκl
              clear hm hin hbr hκ hκl
              go_wp2_with fail
              go_loopw [66] (fun i wy => ∃ i' : Nat, i = .int .i64 (i' : Int) ∧ i' ≤ N ∧ MatAt wy w.heap.size b N N G C (stageF M κ N i') ∧ Below w.heap.size w wy) (fun i _ => N - (intOf i).toNat)
              case atStart => exact ⟨0, rfl, Nat.zero_le _, HmC.out, HbC.out⟩
              case round =>
                obtain ⟨i', rfl, hi, hm, hbr⟩ := hrel
                rcases Nat.lt_or_ge i' N with hil | hil
                · have i0 : decide ((i' : Int) < (N : Int)) = true := decide_eq_true (by omega)
                  have i1 : IntKind.i64.wrap ((i' : Int) + 1) = ((i' + 1 : Nat) : Int) := by rw [IntKind.wrap_i64]; have := HN24.out; omega
                  have i2 : (0 : Int) ≤ (i' : Int) := by omega
                  have i3 : (i' : Int) < (N : Int) := by omega
                  have hin := stageF_in (k := κ) HinC.out i' hi
                  have hsR : ∀ j, rowF (stageF M κ N i') κ i' j = rowF (stageF M κ N i') κ i' j := fun _ => rfl
                  obtain ⟨R, hR⟩ : ∃ R, R = stageF M κ N i' := ⟨_, rfl⟩
                  have hnx : stageF M κ N (i' + 1) = rowF R κ i' N := by rw [hR]; rfl
                  rw [← hR] at hm hin
                  have HmD := Lib.hid hm; have HinD := Lib.hid hin; have HbD := Lib.hid hbr; have Hil := Lib.hid hil; have Hnx := Lib.hid hnx
                  clear hm hin hbr hi hil hsR hR hnx
                  go_wp2_with fail
                  go_loopw [70] (fun i wz => ∃ j' : Nat, i = .int .i64 (j' : Int) ∧ j' ≤ N ∧ MatAt wz w.heap.size b N N G C (rowF R κ i' j') ∧ Below w.heap.size w wz) (fun i _ => N - (intOf i).toNat)
                  case atStart => exact ⟨0, rfl, Nat.zero_le _, HmD.out, HbD.out⟩
                  case round =>
                    obtain ⟨j', rfl, hj, hm, hbr⟩ := hrel
                    rcases Nat.lt_or_ge j' N with hjl | hjl
                    · have j0 : decide ((j' : Int) < (N : Int)) = true := decide_eq_true (by omega)
                      have j1 : IntKind.i64.wrap ((j' : Int) + 1) = ((j' + 1 : Nat) : Int) := by rw [IntKind.wrap_i64]; have := HN24.out; omega
                      have j2 : (0 : Int) ≤ (j' : Int) := by omega
                      have j3 : (j' : Int) < (N : Int) := by omega
                      have hin := rowF_in (k := κ) HinD.out Hil.out j' hj
                      obtain ⟨Q, hQ⟩ : ∃ Q, Q = rowF R κ i' j' := ⟨_, rfl⟩
                      have hnq : rowF R κ i' (j' + 1) = upd Q i' j' (min (Q i' j') (plusC (Q i' κ) (Q κ j'))) := by rw [hQ]; rfl
                      rw [← hQ] at hm hin
                      have hmW := hm.drew
                      have b1 := hin i' κ Hil.out Hκl.out
                      have b2 := hin κ j' Hκl.out hjl
                      have hnew := hmW.set i' j' Hil.out hjl (min (Q i' j') (plusC (Q i' κ) (Q κ j')))
                      rw [← hnq] at hnew
                      have hbN := (hbr.drew).setCell (p := ⟨G i', j', none⟩) (hm.log i' Hil.out) (.int .i64 (min (Q i' j') (plusC (Q i' κ) (Q κ j'))))
                      have d0 := hmW.head i' Hil.out
                      have d1 := hmW.head κ Hκl.out
                      have d2 := hmW.cell i' j' Hil.out hjl
                      have d3 := hmW.cell i' κ Hil.out Hκl.out
                      have d4 := hmW.cell κ j' Hκl.out hjl
                      have d5 := hmW.soft i' j' Hil.out
                      have KP : Hid (∀ W, Calls Tryz.prog 79 #[.int .i64 (Q i' κ), .int .i64 (Q κ j')] W fun e w' => e = .returned (.int .i64 (plusC (Q i' κ) (Q κ j'))) ∧ w' = W) := Lib.hid fun W => bdplus_c _ _ W b1 b2
                      have Hnew := Lib.hid hnew; have HbN := Lib.hid hbN; have Hjl := Lib.hid hjl
                      clear hmW hnew hbN hm hin hbr hj hjl hQ hnq b1 b2
                      go_wp2_with fail
                      refine wp_region_still_tail 29 (by kernel_rfl) (by kernel_rfl) ?_
                      simp only [List.take_succ_cons, List.take_zero, List.drop_succ_cons, List.drop_zero]
                      repeat (first | still_step | still_call (KP.out _))
                      refine wpStill_nil ?_
                      change wpList _ _ _ _ _ wr.drew
                      generalize wr.drew = w5 at d0 d1 d2 d3 d4 d5 Hnew HbN ⊢
                      go_wp2_with fail
                      go_roundw
                      case rel => exact ⟨j' + 1, by go_num, Hjl.out, Hnew.out, HbN.out⟩
                      case measure => have := Hjl.out; simp [intOf]; omega
                    · obtain rfl : N = j' := by omega
                      have j0 : decide ((N : Int) < (N : Int)) = false := decide_eq_false (by omega)
                      rw [← Hnx.out] at hm
                      have Hm2 := Lib.hid hm; have Hb2 := Lib.hid hbr
                      clear hm hbr hj hjl
                      go_wp2_with fail
                      go_roundw
                      case rel => exact ⟨i' + 1, by go_num, Hil.out, Hm2.out, Hb2.out⟩
                      case measure => have := Hil.out; simp [intOf]; omega
                · obtain rfl : N = i' := by omega
                  have i0 : decide ((N : Int) < (N : Int)) = false := decide_eq_false (by omega)
                  have KC := slContainsRow_N w.heap.size b N G C (stageF M κ N N) wr hm HN0.out (by have := HN24.out; omega)
                  have hin := stageF_in (k := κ) HinC.out N (Nat.le_refl _)
                  have hfw : ∀ v, lowF (stageF M κ N N) N N = v → fwTo M0 N (κ + 1) = if v then none else some (stageF M κ N N) := fun v hv => by
                    show (match fwTo M0 N κ with | none => none | some P => if lowF (stageF P κ N N) N N then none else some (stageF P κ N N)) = _
                    rw [HM.out]
                    simp only [hv]
                  generalize stageF M κ N N = M2 at hm KC hin hfw
                  have Hm2 := Lib.hid hm; have Hb2 := Lib.hid hbr; have Hin2 := Lib.hid hin
                  clear hm hbr hin hi hil
                  cases hlw : lowF M2 N N
                  · rw [hlw] at KC
                    have Hfw := Lib.hid (show fwTo M0 N (κ + 1) = some M2 from by rw [hfw false hlw]; rfl)
                    have KC2 := Lib.hid KC
                    clear hfw hlw KC
                    go_wp2_with fail
                    refine KC2.out.mono ?_
                    rintro e W2 ⟨rfl, hbw⟩
                    have Hm3 := Lib.hid (Hm2.out.below hbw); have Hb3 := Lib.hid (Hb2.out.trans (hbw.mono Hb2.out.size))
                    clear hbw
                    go_wp2_with fail
                    go_roundw
                    case rel => exact ⟨κ + 1, M2, by go_num, Hκl.out, Hfw, Hm3.out, Hin2.out, Hb3.out⟩
                    case measure => have := Hκl.out; simp [intOf]; omega
                  · rw [hlw] at KC
                    have hfn : fwTo M0 N N = none := fwTo_none (show fwTo M0 N (κ + 1) = none from by rw [hfw true hlw]; rfl) N Hκl.out
                    have Htn := Lib.hid (show tightF N l = none from HT.out none hfn)
                    have KC2 := Lib.hid KC
                    clear hfw hlw KC hfn
                    go_wp2_with fail
                    refine KC2.out.mono ?_
                    rintro e W2 ⟨rfl, hbw⟩
                    have Hb3 := Lib.hid (Hb2.out.trans (hbw.mono Hb2.out.size))
                    clear hbw
                    go_wp2_with fail
                    go_ret2
                    rw [Htn.out]
                    exact ⟨rfl, Hb3.out⟩
            · obtain rfl : N = κ := by omega
              have κ0 : decide ((N : Int) < (N : Int)) = false := decide_eq_false (by omega)
              have htf : ∀ v, negF M N = v → tightF N l = if v then none else some M := fun v hv => by rw [HT.out _ HM.out]; simp only [hv]
              have HmC := Lib.hid hm; have HbC := Lib.hid hbr; have Htf := Lib.hid htf
              clear hm hin hbr hκ hκl htf
              go_wp2_with fail
              go_loopw [108] (fun i wy => ∃ i' : Nat, i = .int .i64 (i' : Int) ∧ i' ≤ N ∧ Hid (negF M i' = false) ∧ MatAt wy w.heap.size b N N G C M ∧ Below w.heap.size w wy) (fun i _ => N - (intOf i).toNat)
              case atStart => exact ⟨0, rfl, Nat.zero_le _, Lib.hid rfl, HmC.out, HbC.out⟩
              case round =>
                obtain ⟨i', rfl, hi, HA, hm, hbr⟩ := hrel
                rcases Nat.lt_or_ge i' N with hil | hil
                · have i0 : decide ((i' : Int) < (N : Int)) = true := decide_eq_true (by omega)
                  have i1 : IntKind.i64.wrap ((i' : Int) + 1) = ((i' + 1 : Nat) : Int) := by rw [IntKind.wrap_i64]; have := HN24.out; omega
                  have i2 : (0 : Int) ≤ (i' : Int) := by omega
                  have i3 : (i' : Int) < (N : Int) := by omega
                  have d0 := hm.head i' hil
                  have d1 := hm.cell i' i' hil hil
                  have hs : negF M (i' + 1) = (negF M i' || decide (M i' i' < 0)) := any_range_succ _ i'
                  rw [HA.out, Bool.false_or] at hs
                  have hneg : decide (M i' i' < 0) = true → negF M N = true := fun h => by
                    unfold negF
                    rw [List.any_eq_true]
                    exact ⟨i', by simpa using hil, h⟩
                  have Hm2 := Lib.hid hm; have Hb2 := Lib.hid hbr; have Hil := Lib.hid hil; have Hs := Lib.hid hs; have Hneg := Lib.hid hneg
                  clear hm hbr hi hil hs hneg
                  cases hd : decide (M i' i' < 0)
                  · have Hd := Lib.hid (Hs.out.trans hd)
                    go_wp2_with fail
                    go_roundw
                    case rel => exact ⟨i' + 1, by go_num, Hil.out, Hd, Hm2.out, Hb2.out⟩
                    case measure => have := Hil.out; simp [intOf]; omega
                  · have Htn := Lib.hid (Htf.out true (Hneg.out hd))
                    go_wp2_with fail
                    go_ret2
                    rw [Htn.out]
                    exact ⟨rfl, Hb2.out⟩
                · obtain rfl : N = i' := by omega
                  have i0 : decide ((N : Int) < (N : Int)) = false := decide_eq_false (by omega)
                  have Htn := Lib.hid (Htf.out false HA.out)
                  have Hm2 := Lib.hid hm; have Hb2 := Lib.hid hbr
                  clear hm hbr hi hil
                  go_wp2_with fail
                  go_ret2
                  rw [Htn.out]
                  exact ⟨b, G, C, rfl, Hm2.out, Hb2.out⟩
end Go.Proofs.YtcppcfinnbeboaaGreat
