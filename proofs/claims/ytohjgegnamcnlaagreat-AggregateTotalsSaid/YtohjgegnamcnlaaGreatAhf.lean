/- Law 39: equal rows and lists of facts, as the reference has them; Steps. -/
import Derived.Test.YtohjgegnamcnlaaGreatAhe
namespace Go.Proofs.YtohjgegnamcnlaaGreat
open Go.RowKit Go.Shelf

def sameV (x y : Val) : Bool := (x.1 == y.1 && x.2.1 == y.2.1) && decide (x.2.2 = y.2.2)
theorem sameV_iff (x y : Val) : sameV x y = true ↔ x = y := by
  obtain ⟨a, b, c⟩ := x
  obtain ⟨d, e, f⟩ := y
  simp [sameV, and_assoc]
theorem val_neq (a b : Int) (c : ByteArray) (d e : Int) (f : ByteArray) (w : World) : (binOp .neq 51 (.agg #[.int .i64 a, .int .i64 b, .string c]) (.agg #[.int .i64 d, .int .i64 e, .string f])).run Tryz.prog w = .ok (.bool (!sameV (a, b, c) (d, e, f))) w := by
  rw [run_neq_struct]
  unfold sameV
  have h4 : (c.toList = f.toList) ↔ c = f := ⟨fun h => bytes_ext (by rw [← ByteArray.toList_eq, ← ByteArray.toList_eq]; exact h), fun h => by rw [h]⟩
  cases h1 : a == d <;> cases h2 : b == e <;> by_cases h3 : c = f <;> simp [go_sem, h1, h2, h3, h4]
attribute [local go_sem ↓] val_neq span_neq
def sameR (a b : VRow) : Bool := decide (a = b)
theorem sameR_of {a b : VRow} (hl : a.length = b.length) (h : ∀ i, i < a.length → va a i = va b i) : sameR a b = true := by
  refine decide_eq_true (List.ext_getElem hl fun i h1 h2 => ?_)
  rw [va_at h1, va_at h2, h i h1]
theorem sameR_ne {a b : VRow} {k : Nat} (h : va a k ≠ va b k) : sameR a b = false := decide_eq_false fun e => h (by rw [e])
set_option maxRecDepth 100000 in
theorem r33Same_c (v1 v2 : Value) (a b : VRow) (w : World) (h1 : IsVals w v1 a) (h2 : IsVals w v2 b) : Calls Tryz.prog 48 #[v1, v2] w (Ret w (.bool (sameR a b))) := by
  obtain ⟨A, c, rfl, hnc, hc⟩ := h1.form
  obtain ⟨B, d, rfl, hnd, hd⟩ := h2.form
  by_cases hl : a.length = b.length
  · have hle : ((a.length : Int) == (b.length : Int)) = true := by rw [beq_iff_eq]; omega
    have hle' : ((a.length : Int) != (b.length : Int)) = false := by rw [bne, hle]; rfl
    have HL := Lib.hid hl
    have hl1 : a.length ≤ b.length := by omega
    have hl2 : b.length ≤ a.length := by omega
    clear hl
    go_enter Tryz.func48, Tryz.ntmps48
    go_wp2_with fail
    go_loopw [5] (fun i wr => ∃ k : Nat, k ≤ a.length ∧ i = .int .i64 k ∧ Hid (∀ j, j < k → va a j = va b j) ∧ Below w.heap.size w wr) (fun i _ => a.length - (intOf i).toNat)
    case atStart => exact ⟨0, Nat.zero_le _, rfl, Lib.hid fun j hj => absurd hj (by omega), Below.refl _ _⟩
    case round =>
      obtain ⟨k, hk, rfl, Hs, hb⟩ := hrel
      rename World => wr
      by_cases hlt : k < a.length
      · obtain ⟨g, off, rfl, hbk⟩ := h1.addr (by omega)
        obtain ⟨g', off', rfl, hbk'⟩ := h2.addr (by omega)
        go_wp2_with fail
        have e0 := fun x : BW wr => ((h1.below hb).below x.2).c0 k hlt
        have e1 := fun x : BW wr => ((h1.below hb).below x.2).c1 k hlt
        have e2 := fun x : BW wr => ((h1.below hb).below x.2).c2 k hlt
        have e3 := fun x : BW wr => ((h2.below hb).below x.2).c0 k (by omega)
        have e4 := fun x : BW wr => ((h2.below hb).below x.2).c1 k (by omega)
        have e5 := fun x : BW wr => ((h2.below hb).below x.2).c2 k (by omega)
        cases hq : sameV ((va a k).1, (va a k).2.1, (va a k).2.2) ((va b k).1, (va b k).2.1, (va b k).2.2)
        all_goals
          refine wp_region_below (by kernel_rfl) (by kernel_rfl) ?_
          repeat (go_big_quiet_step (fail))
          refine wpQuiet_nil ?_
          rintro w2 ⟨⟨_, hb2⟩, rfl⟩
          have hb3 := hb.trans (hb2.mono hb.size)
          have Hq := Lib.hid hq
          clear e0 e1 e2 e3 e4 e5 hq
        · go_wp2_with fail
          go_ret
          refine ⟨ret_bool (sameR_ne (k := k) fun e => ?_).symm, hb3⟩
          have h := Hq.out
          rw [e, (sameV_iff _ _).2 rfl] at h
          cases h
        · have Hn : Hid (∀ j, j < k + 1 → va a j = va b j) := Lib.hid fun j hj => by
            rcases Nat.lt_succ_iff_lt_or_eq.1 hj with h | rfl
            · exact Hs.out j h
            · exact (sameV_iff _ _).1 Hq.out
          clear Hs Hq
          go_wp2_with fail
          go_roundw
          case rel => exact ⟨k + 1, by omega, by go_num, Hn, hb3⟩
          case measure => simp [intOf]; omega
      · obtain rfl : k = a.length := by omega
        go_wp2_with fail
        go_ret
        exact ⟨ret_bool (sameR_of HL.out Hs.out).symm, hb⟩
  · have hres : sameR a b = false := decide_eq_false fun e => hl (by rw [e])
    rw [hres]
    clear hres
    have hle : ((a.length : Int) == (b.length : Int)) = false := by rw [beq_eq_false_iff_ne]; omega
    have hle' : ((a.length : Int) != (b.length : Int)) = true := by rw [bne, hle]; rfl
    clear hl
    go_enter Tryz.func48, Tryz.ntmps48
    go_wp2_with fail
    go_ret
    exact ⟨rfl, Below.refl _ _⟩
/-! ### lists of facts -/
def sameF (a b : List Fct) : Bool := decide (a = b)
theorem sameF_of {a b : List Fct} (hl : a.length = b.length) (h : ∀ i, i < a.length → fc a i = fc b i) : sameF a b = true := by
  refine decide_eq_true (List.ext_getElem hl fun i h1 h2 => ?_)
  rw [fc_at h1, fc_at h2, h i h1]
theorem sameF_ne {a b : List Fct} {k : Nat} (h : fc a k ≠ fc b k) : sameF a b = false := decide_eq_false fun e => h (by rw [e])
set_option maxRecDepth 100000 in
set_option maxHeartbeats 4000000 in
theorem r39Same_c (v1 v2 : Value) (a b : List Fct) (w : World) (h1 : IsFs w v1 a) (h2 : IsFs w v2 b) : Calls Tryz.prog 12 #[v1, v2] w (Ret w (.bool (sameF a b))) := by
  obtain ⟨S1, h1⟩ := h1
  obtain ⟨S2, h2⟩ := h2
  obtain ⟨A, c, rfl, hnc, hc⟩ := h1.form
  obtain ⟨B, d, rfl, hnd, hd⟩ := h2.form
  by_cases hl : a.length = b.length
  · have hle : ((a.length : Int) == (b.length : Int)) = true := by rw [beq_iff_eq]; omega
    have hle' : ((a.length : Int) != (b.length : Int)) = false := by rw [bne, hle]; rfl
    have HL := Lib.hid hl
    have hl1 : a.length ≤ b.length := by omega
    have hl2 : b.length ≤ a.length := by omega
    clear hl
    go_enter Tryz.func12, Tryz.ntmps12
    go_wp2_with fail
    go_loopw [5] (fun i wr => ∃ k : Nat, k ≤ a.length ∧ i = .int .i64 k ∧ Hid (∀ j, j < k → fc a j = fc b j) ∧ Below w.heap.size w wr) (fun i _ => a.length - (intOf i).toNat)
    case atStart => exact ⟨0, Nat.zero_le _, rfl, Lib.hid fun j hj => absurd hj (by omega), Below.refl _ _⟩
    case round =>
      obtain ⟨k, hk, rfl, Hs, hb⟩ := hrel
      rename World => wr
      by_cases hlt : k < a.length
      · obtain ⟨g, off, rfl, hbk⟩ := h1.addr (by omega)
        obtain ⟨g', off', rfl, hbk'⟩ := h2.addr (by omega)
        have hlt2 : k < b.length := by omega
        obtain ⟨A3, c3, hS3, _, _⟩ := (h1.2 k hlt).form
        obtain ⟨A4, c4, hS4, _, _⟩ := (h2.2 k hlt2).form
        have KS : Hid (∀ X, Below wr.heap.size wr X → Calls Tryz.prog 48 #[.slice A3 (fc a k).1.length c3, .slice A4 (fc b k).1.length c4] X (Ret X (.bool (sameR (fc a k).1 (fc b k).1)))) := Lib.hid fun X h => r33Same_c _ _ _ _ X (hS3 ▸ ((h1.below hb).below h).2 k hlt) (hS4 ▸ ((h2.below hb).below h).2 k hlt2)
        have e0 := fun x : BW wr => ((h1.below hb).below x.2).c0 k hlt
        have e1 := fun x : BW wr => ((h1.below hb).below x.2).c1 k hlt
        have e2 := fun x : BW wr => ((h1.below hb).below x.2).c2 k hlt
        have e3 := fun x : BW wr => ((h2.below hb).below x.2).c0 k hlt2
        have e4 := fun x : BW wr => ((h2.below hb).below x.2).c1 k hlt2
        have e5 := fun x : BW wr => ((h2.below hb).below x.2).c2 k hlt2
        rw [hS3] at e0
        rw [hS4] at e3
        have HEQ : Hid (sameR (fc a k).1 (fc b k).1 = true ∧ ((fc a k).2.1 == (fc b k).2.1 && (fc a k).2.2 == (fc b k).2.2) = true ↔ fc a k = fc b k) := Lib.hid (by
          obtain ⟨r, s, t⟩ := fc a k
          obtain ⟨r', s', t'⟩ := fc b k
          simp [sameR])
        generalize (fc a k).1.length = na at *
        generalize (fc b k).1.length = nb at *
        generalize (fc a k).2.1 = x1 at *
        generalize (fc a k).2.2 = x2 at *
        generalize (fc b k).2.1 = y1 at *
        generalize (fc b k).2.2 = y2 at *
        generalize sameR (fc a k).1 (fc b k).1 = sr at *
        clear hS3 hS4
        go_wp2_with fail
        cases hq : (x1 == y1 && x2 == y2) <;> cases hr : sr
        all_goals
          rw [hr] at KS
          refine wp_region_below (by kernel_rfl) (by kernel_rfl) ?_
          repeat (go_big_quiet_step ((go_at_call 48; exact calls_bw _ (KS.out _ (Subtype.property _)))))
          refine wpQuiet_nil ?_
          rintro w2 ⟨⟨_, hb2⟩, rfl⟩
          have hb3 := hb.trans (hb2.mono hb.size)
          have Hq := Lib.hid hq
          have Hr := Lib.hid hr
          clear e0 e1 e2 e3 e4 e5 hq hr KS
        rotate_right
        · have Hn : Hid (∀ j, j < k + 1 → fc a j = fc b j) := Lib.hid fun j hj => by
            rcases Nat.lt_succ_iff_lt_or_eq.1 hj with h | rfl
            · exact Hs.out j h
            · exact HEQ.out.1 ⟨Hr.out, Hq.out⟩
          clear Hs Hq
          go_wp2_with fail
          go_roundw
          case rel => exact ⟨k + 1, by omega, by go_num, Hn, hb3⟩
          case measure => simp [intOf]; omega
        all_goals
          go_wp2_with fail
          go_ret
          refine ⟨ret_bool (sameF_ne (k := k) fun e => ?_).symm, hb3⟩
          have h := HEQ.out.2 e
          rw [Hq.out, Hr.out] at h
          simp at h
      · obtain rfl : k = a.length := by omega
        go_wp2_with fail
        go_ret
        exact ⟨ret_bool (sameF_of HL.out Hs.out).symm, hb⟩
  · have hres : sameF a b = false := decide_eq_false fun e => hl (by rw [e])
    rw [hres]
    clear hres
    have hle : ((a.length : Int) == (b.length : Int)) = false := by rw [beq_eq_false_iff_ne]; omega
    have hle' : ((a.length : Int) != (b.length : Int)) = true := by rw [bne, hle]; rfl
    clear hl
    go_enter Tryz.func12, Tryz.ntmps12
    go_wp2_with fail
    go_ret
    exact ⟨rfl, Below.refl _ _⟩
/-! ### Steps -/
theorem aSteps_c (v : Value) (F : List Fct) (w : World) (hs : IsFs w v F) (hm : MachF F) (hn : F.length < 1000000000) : Calls Tryz.prog 15 #[v] w (GroupRet F [] 1 0 w) := by
  have K := Lib.hid (aGroup_c v (.slice none 0 0) F [] 1 0 w hs IsInts.nil hm hn)
  obtain ⟨S, hs⟩ := hs
  obtain ⟨A, c, rfl, hnc, hc⟩ := hs.form
  go_enter Tryz.func15, Tryz.ntmps15
  go_wp2_with fail
  refine K.out.mono ?_
  rintro e w1 ⟨v1, c1, rfl, hb, hsp⟩
  have HS := Lib.hid hsp; have HB := Lib.hid hb
  clear hsp hb
  go_wp2_with fail
  go_ret2
  exact ⟨_, _, rfl, HB.out, HS.out⟩
end Go.Proofs.YtohjgegnamcnlaaGreat
