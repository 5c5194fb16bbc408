/- Law 47: the law's closure that asks whether a number is in a span; what holds and what is narrowed. -/
import Derived.Test.YtcppcfinnbeboaaDkG
import Derived.Test.YtcppcfinnbeboaaDjJ
namespace Go.Proofs.Ytcppcfinnbeboaa
open Go.RowKit Go.Shelf

theorem kept1_c (p q : Int) (B : Nat) (d : Int) (w : World) (hB : BoxI B d w) : Calls Try.prog 17 #[.agg #[.int .i64 p, .int .i64 q], .pointer (some ⟨B, 0, none⟩)] w (Ret w (.bool (decide (p ≤ d) && decide (d < q)))) := by
  have hb1 := (Below.refl w.heap.size w).alloc (Nat.le_refl _) (.cells #[.int .i64 p, .int .i64 q] 38)
  have hT := heap_alloc_new w (.cells #[.int .i64 p, .int .i64 q] 38)
  have hB2 := hB.below hb1
  unfold BoxI at hB2
  have t0 := blk_get hB2 0
  have t1 := blk_get hT 0
  have t2 := blk_get hT 1
  simp at t0 t1 t2
  have Hb1 := Lib.hid hb1
  clear hb1 hB2 hB hT
  cases g1 : decide (p ≤ d) <;> cases g2 : decide (d < q)
  all_goals
    go_enter Try.func17, Try.ntmps17
    go_wp2_with fail
    go_ret
    exact ⟨rfl, Hb1.out⟩
set_option maxRecDepth 100000 in
theorem slIndexKept_c (B : Nat) (d : Int) (v : Value) (l : List Sp) (w : World) (hs : IsSpans w v l) (hB : BoxI B d w) : Calls Try.prog 41 #[v, .func (.func 17) #[] #[.pointer (some ⟨B, 0, none⟩)]] w (IdxSpRet l d w) := by
  obtain ⟨A, c, rfl, hnc, hc⟩ := hs.form
  have HB := Lib.hid hB
  clear hB
  go_enter Try.func41, Try.ntmps41
  go_wp2
  go_loopw [8] (fun i wr => ∃ k : Nat, i = .int .i64 k ∧ k ≤ l.length ∧ Hid (∀ j, j < k → inSp d (fr l j, tt l j) = false) ∧ Below w.heap.size w wr) (fun i _ => l.length - (intOf i).toNat)
  case atStart => exact ⟨0, rfl, Nat.zero_le _, Lib.hid (fun j hj => absurd hj (by omega)), Below.refl _ _⟩
  case round =>
    obtain ⟨k, rfl, hk, HA, hb⟩ := hrel
    by_cases hlt : k < l.length
    · obtain ⟨b, off, rfl, hbk⟩ := hs.addr (by omega)
      have c0 := (hs.below hb).c0 k hlt
      have c1 := (hs.below hb).c1 k hlt
      have hcall : Calls Try.prog 17 #[.agg #[.int .i64 (fr l k), .int .i64 (tt l k)], .pointer (some ⟨B, 0, none⟩)] wr (Ret wr (.bool (inSp d (fr l k, tt l k)))) := kept1_c (fr l k) (tt l k) B d wr (HB.out.below hb)
      have hfd : inSp d (fr l k, tt l k) = true → IdxSp l d (k : Int) := fun h => .inr ⟨k, rfl, any_yes47 (fun i h => sp_at l i h) hlt h⟩
      have hst : inSp d (fr l k, tt l k) = false → ∀ j, j < k + 1 → inSp d (fr l j, tt l j) = false := fun h j hj => by
        rcases Nat.eq_or_lt_of_le (show j ≤ k by omega) with e | e
        · rw [e]; exact h
        · exact HA.out j e
      generalize inSp d (fr l k, tt l k) = z at hcall hfd hst
      cases z
      · have Hcall := Lib.hid hcall
        have Hst := Lib.hid (hst rfl)
        clear hcall hst hfd
        go_wp2_with fail
        refine Hcall.out.mono ?_
        rintro e w2 ⟨rfl, hb2⟩
        have hb3 := hb.trans (hb2.mono hb.size)
        go_wp2
        go_roundw
        case rel => exact ⟨k + 1, by go_num, by omega, Hst, hb3⟩
        case measure => simp [intOf]; omega
      · have Hcall := Lib.hid hcall
        have Hfd := Lib.hid (hfd rfl)
        clear hcall hst hfd
        go_wp2_with fail
        refine Hcall.out.mono ?_
        rintro e w2 ⟨rfl, hb2⟩
        have hb3 := hb.trans (hb2.mono hb.size)
        go_wp2
        go_ret
        exact ⟨_, Hfd.out, rfl, hb3⟩
    · obtain rfl : k = l.length := by omega
      have Hr : Hid (IdxSp l d (-1)) := .inl ⟨rfl, any_no47 (fun i h => sp_at l i h) HA.out⟩
      clear HA
      go_wp2
      go_ret
      exact ⟨_, Hr.out, rfl, hb⟩
theorem slContainsKept_c (B : Nat) (d : Int) (v : Value) (l : List Sp) (w : World) (hs : IsSpans w v l) (hB : BoxI B d w) : Calls Try.prog 16 #[v, .func (.func 17) #[] #[.pointer (some ⟨B, 0, none⟩)]] w (Ret w (.bool (l.any (inSp d)))) := by
  have K := Lib.hid (slIndexKept_c B d v l w hs hB)
  clear hs hB
  cases q : l.any (inSp d)
  all_goals
    have Q := Lib.hid q; clear q
    go_enter Try.func16, Try.ntmps16
    go_wp2_with fail
    refine K.out.mono ?_
    rintro e w1 ⟨r, hr, rfl, hb⟩
    rcases hr with ⟨rfl, h⟩ | ⟨i, rfl, h⟩
    all_goals first
      | exact absurd (h.symm.trans Q.out) (by decide)
      | (have i0 : decide ((0 : Int) ≤ (i : Int)) = true := decide_eq_true (by omega)
         clear h
         go_wp2_with fail
         go_ret
         exact ⟨rfl, hb⟩)
      | (clear h
         go_wp2_with fail
         go_ret
         exact ⟨rfl, hb⟩)
/-! ### plain -/
theorem satB_mem (ts : List Int) (c : Cho) : satB ts c = mem c.2.2 (iv ts c.2.1.toNat - iv ts c.1.toNat) := rfl
theorem all_sat {l : List Cho} {ts : List Int} : l.all (satB ts) = true ↔ SatN l (iv ts) := by
  constructor
  · intro h i hi
    have := List.all_eq_true.1 h _ (cho_mem hi)
    rwa [satB_mem] at this
  · intro h
    exact all_of (p := satB ts) (fun i hi => cho_at hi) fun i hi => by rw [satB_mem]; exact h i hi
theorem stOk_net {n : Nat} {l : List Cho} (h : StOk n l) (h1 : 1 ≤ n) (h2 : n ≤ 24) : netB (n : Int) l = true := by
  unfold netB
  simp only [Bool.and_eq_true, decide_eq_true_eq]
  refine ⟨⟨⟨by omega, by omega⟩, h.1⟩, all_of (p := choB (n : Int)) (fun i hi => cho_at hi) fun i hi => ?_⟩
  obtain ⟨c1, c2, c3, c4, c5, c6, c7⟩ := h.2 i hi
  unfold choB
  simp only [Bool.and_eq_true, decide_eq_true_eq]
  exact ⟨⟨⟨⟨⟨⟨c1, c2⟩, c3⟩, c4⟩, c5⟩, c6⟩, c7⟩
theorem holds_net {l : List Cho} {ts : List Int} (h : netB (ts.length : Int) l = true) : holdsB l ts = (decide (1 ≤ ts.length) && (iv ts 0 == 0) && !ts.any farB && l.all (satB ts)) := by
  unfold holdsB
  rw [h]
  simp
end Go.Proofs.Ytcppcfinnbeboaa
