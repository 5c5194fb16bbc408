/- The reference's Free; what a free span is. -/
import Derived.Test.YtahpcepnagpbdaaSwX
namespace Go.Proofs.Ytahpcepnagpbdaa
open Go.RowKit Go.Shelf

theorem wrap64_in {x : Int} (h0 : -9223372036854775808 ≤ x) (h1 : x ≤ 9223372036854775807) : wrap64 x = x := by
  unfold wrap64; omega
theorem filt_yes {U : List Sp} {len : Int} {k : Nat} (hk : k < U.length) (h : freeP len (fr U k, tt U k) = false) : ((U.take k).filter fun t => !freeP len t) ++ [(fr U k, tt U k)] = (U.take (k + 1)).filter fun t => !freeP len t := by
  rw [List.take_succ_eq_append_getElem hk, List.filter_append, sp_at U k hk]; simp [h]
theorem filt_no {U : List Sp} {len : Int} {k : Nat} (hk : k < U.length) (h : freeP len (fr U k, tt U k) = true) : ((U.take k).filter fun t => !freeP len t) = (U.take (k + 1)).filter fun t => !freeP len t := by
  rw [List.take_succ_eq_append_getElem hk, List.filter_append, sp_at U k hk]; simp [h]
def FreeRefRet (l : List Sp) (s : Sp) (len : Int) (w : World) (e : Ending) (w' : World) : Prop := ∃ r v, FreeOk l s len r ∧ e = .returned v ∧ IsSpans w' v r ∧ Below w.heap.size w w'
set_option maxRecDepth 100000 in
set_option maxHeartbeats 4000000 in
theorem r44Free_c (v : Value) (l : List Sp) (p q len : Int) (w : World) (h1 : IsSpans w v l) (hl : l.length ≤ 60) (hol : l.all okSpan = true) (ho : okSpan (p, q) = true) : Calls Try.prog 39 #[v, .agg #[.int .i64 p, .int .i64 q], .int .i64 len] w (FreeRefRet l (p, q) len w) := by
  obtain ⟨A, c, rfl, hnc, hc⟩ := h1.form
  have Hol := Lib.hid hol; have Ho := Lib.hid ho
  clear hol ho
  go_enter Try.func39, Try.ntmps39
  go_wp2_with fail
  have hB0 := ((Below.refl w.heap.size w).alloc (Nat.le_refl _) (.cells #[.int .i64 p, .int .i64 q] 31)).alloc (by simp) (.cells #[.int .i64 p, .int .i64 q] 31)
  have hsp : IsSpans ((w.alloc (.cells #[.int .i64 p, .int .i64 q] 31)).alloc (.cells #[.int .i64 p, .int .i64 q] 31)) (.slice (some ⟨w.heap.size + 1, 0, none⟩) 1 1) [(p, q)] := by
    have := spans_one (w := w.alloc (.cells #[.int .i64 p, .int .i64 q] 31)) p q 31
    simpa using this
  generalize (w.alloc (.cells #[.int .i64 p, .int .i64 q] 31)).alloc (.cells #[.int .i64 p, .int .i64 q] 31) = w0 at *
  refine (r12Combine_c 3 gMinus keep_minus rfl _ _ [(p, q)] l _ hsp (h1.below hB0) (fun s hs => by rw [List.mem_singleton.1 hs]; exact (okSpan_iff _).1 Ho.out) (okS_all Hol.out) (by simp) (by omega)).mono ?_
  rintro e w1 ⟨U, hU, v1, rfl, hv1, hb1⟩
  have hB := hB0.trans (hb1.mono hB0.size)
  have hUc := hU.1
  have hUl : U.length ≤ 122 := by have := hU.2.2; simp at this; omega
  have HUo : Hid (IsOp gMinus [(p, q)] l U) := ⟨hU.1, hU.2.1⟩
  have HUc := Lib.hid hUc.1
  clear hU hUc hsp
  obtain ⟨A1, c1, rfl, hn1, hc1⟩ := hv1.form
  go_wp2
  go_loopw [8, 9] (fun o i wr => ∃ k : Nat, i = .int .i64 k ∧ k ≤ U.length ∧ wr.ownsRow w1.heap.size 31 2 o ((U.take k).filter fun t => !freeP len t).length (flat ((U.take k).filter fun t => !freeP len t)) ∧ Below w1.heap.size w1 wr) (fun _ i _ => U.length - (intOf i).toNat)
  case atStart => exact ⟨0, rfl, Nat.zero_le _, own_nil _ _ _ _, Below.refl _ _⟩
  case round =>
    obtain ⟨k, rfl, hk, hown, hbw⟩ := hrel
    by_cases hlt : k < U.length
    · obtain ⟨b, off, rfl, hbk⟩ := hv1.addr (by omega)
      have c0 := (hv1.below hbw).c0 k hlt
      have c1 := (hv1.below hbw).c1 k hlt
      have hu := HUc.out _ (idx_mem hlt)
      have hyes := fun h => filt_yes (len := len) hlt h
      have hno := fun h => filt_no (len := len) hlt h
      have hpl : ((U.take k).filter fun t => !freeP len t).length < 1000000000 := Nat.lt_of_le_of_lt (List.length_filter_le _ _) (by simp; omega)
      generalize fr U k = s0 at *
      generalize tt U k = s1 at *
      unfold OkSp at hu
      obtain ⟨u1, u2, u3⟩ := hu
      simp only at u1 u2 u3
      have hz := Nat.lt_of_lt_of_le hbk hbw.size
      have f0 := fun X : BW wr => bw_cell X c0 hz
      have f1 := fun X : BW wr => bw_cell X c1 hz
      have hwr : wrap64 (s1 - s0) = s1 - s0 := wrap64_in (by omega) (by omega)
      cases hd : freeP len (s0, s1)
      · have Hy := Lib.hid (hyes hd)
        have hle : decide (len ≤ s1 - s0) = true := by
          unfold freeP at hd
          rw [show ((s0, s1) : Sp).2 - ((s0, s1) : Sp).1 = s1 - s0 from rfl, hwr] at hd
          exact decide_eq_true (by have := of_decide_eq_false hd; omega)
        clear hyes hno hd hwr
        go_wp2
        refine wp_region_below (by kernel_rfl) (by kernel_rfl) ?_
        repeat (go_big_quiet_step (fail))
        refine wpQuiet_nil ?_
        rintro w5 ⟨⟨_, hb5⟩, rfl⟩
        have hown5 := own_below hown hb5 (Nat.le_refl _)
        have hbw5 := hbw.trans (hb5.mono hbw.size)
        have d0 := (hb5.cell (p := ⟨b, off + k * 2, none⟩) hz).trans c0
        have d1 := (hb5.cell (p := ⟨b, off + k * 2 + 1, none⟩) hz).trans c1
        clear f0 f1 c0 c1 hown
        go_wp2_with (at_builtin; refine append_span tSpans tSpanInfo (by rfl) (.tmp 33) (.tmp 38) (by rfl) w1.heap.size _ ((U.take k).filter fun t => !freeP len t) s0 s1 (by rfl) hown5 (by rfl) hpl hbw5.size ?_; intro v7 w7 hown7 hb7; rw [Hy.out] at hown7; have hbw7 := hbw5.trans hb7)
        go_roundw
        case rel => exact ⟨k + 1, by go_num, hlt, hown7, hbw7⟩
        case measure => simp [intOf]; omega
      · have Hn := Lib.hid (hno hd)
        have hle : decide (len ≤ s1 - s0) = false := by
          unfold freeP at hd
          rw [show ((s0, s1) : Sp).2 - ((s0, s1) : Sp).1 = s1 - s0 from rfl, hwr] at hd
          exact decide_eq_false (by have := of_decide_eq_true hd; omega)
        clear hyes hno hd hwr
        go_wp2
        refine wp_region_below (by kernel_rfl) (by kernel_rfl) ?_
        repeat (go_big_quiet_step (fail))
        refine wpQuiet_nil ?_
        rintro w5 ⟨⟨_, hb5⟩, rfl⟩
        have hown5 := own_below hown hb5 (Nat.le_refl _)
        have hbw5 := hbw.trans (hb5.mono hbw.size)
        clear f0 f1 c0 c1 hown
        rw [Hn.out] at hown5
        go_wp2
        go_roundw
        case rel => exact ⟨k + 1, by go_num, hlt, hown5, hbw5⟩
        case measure => simp [intOf]; omega
    · obtain rfl : k = U.length := by omega
      rw [List.take_length] at hown
      have hsp := spans_of_own hown
      have hfin := hB.trans (hbw.mono hB.size)
      have Hr : Hid (FreeOk l (p, q) len (U.filter fun t => !freeP len t)) := ⟨U, HUo.out, rfl⟩
      clear hown
      go_wp2
      go_ret
      exact ⟨_, _, Hr.out, rfl, hsp, hfin⟩

/-- What the law asks of a free span. -/
structure FreeSp (l : List Sp) (p q len a b : Int) : Prop where
  ok : -4398046511104 ≤ a ∧ a < b ∧ b ≤ 4398046511104
  len : len ≤ b - a
  lo : p ≤ a
  hi : b ≤ q
  zero : atS l a = 0
  left : p < a → atS l (a - 1) ≠ 0
  right : b < q → atS l b ≠ 0
theorem mem_zero {l : List Sp} {x : Int} (h : mem l x = false) : atS l x = 0 := by
  by_cases h0 : atS l x = 0
  · exact h0
  · exfalso
    have : mem l x = true := by
      clear h
      induction l with
      | nil => simp [atS] at h0
      | cons s l ih =>
        rw [mem_cons]
        rw [atS] at h0
        by_cases hs : s.1 ≤ x ∧ x < s.2
        · simp [hs]
        · rw [if_neg hs] at h0
          rw [ih (by omega), Bool.or_true]
    rw [this] at h; cases h
theorem mem_nonzero {l : List Sp} {x : Int} (h : mem l x = true) : atS l x ≠ 0 := by
  obtain ⟨s, hs, h1, h2⟩ := mem_iff.1 h
  have : ∀ m : List Sp, s ∈ m → 0 < atS m x := fun m hm => by
    induction m with
    | nil => simp at hm
    | cons t m ih =>
      have := (atS_nonneg m x).1
      rw [atS]
      rcases List.mem_cons.1 hm with rfl | hm
      · rw [if_pos ⟨h1, h2⟩]; omega
      · have := ih hm; split <;> omega
  have := this l hs
  omega
theorem free_sp {l : List Sp} {p q len : Int} {r : List Sp} (h : FreeOk l (p, q) len r) {t : Sp} (ht : t ∈ r) : FreeSp l p q len t.1 t.2 := by
  obtain ⟨U, ⟨hc, hm⟩, rfl⟩ := h
  obtain ⟨htU, htp⟩ := List.mem_filter.1 ht
  have hok := hc.1 t htU
  unfold OkSp at hok
  have hin : ∀ x, mem U x = true → (p ≤ x ∧ x < q) ∧ mem l x = false := fun x hx => by
    rw [hm x] at hx
    simp only [gMinus, mem_span, Bool.and_eq_true, decide_eq_true_eq, Bool.not_eq_true'] at hx
    exact hx
  have hout : ∀ x, mem U x = false → p ≤ x → x < q → mem l x = true := fun x hx h1 h2 => by
    rw [hm x] at hx
    simp only [gMinus, mem_span, decide_eq_true h1, decide_eq_true h2, Bool.true_and, Bool.not_eq_false'] at hx
    exact hx
  have m1 : mem U t.1 = true := mem_iff.2 ⟨t, htU, Int.le_refl _, hok.2.1⟩
  have m2 : mem U (t.2 - 1) = true := mem_iff.2 ⟨t, htU, by omega, by omega⟩
  have gap : ∀ s ∈ U, s ≠ t → s.2 < t.1 ∨ t.2 < s.1 := fun s hs hne => by
    obtain ⟨i, hi, rfl⟩ := List.mem_iff_getElem.1 hs
    obtain ⟨j, hj, rfl⟩ := List.mem_iff_getElem.1 htU
    rcases Nat.lt_trichotomy i j with e | e | e
    · exact .inl (List.pairwise_iff_getElem.1 hc.2 i j hi hj e)
    · subst e; exact absurd rfl hne
    · exact .inr (List.pairwise_iff_getElem.1 hc.2 j i hj hi e)
  have o1 : mem U (t.1 - 1) = false := by
    rw [Bool.eq_false_iff]; intro h
    obtain ⟨s, hs, a1, a2⟩ := mem_iff.1 h
    by_cases e : s = t
    · subst e; omega
    · rcases gap s hs e with g | g <;> omega
  have o2 : mem U t.2 = false := by
    rw [Bool.eq_false_iff]; intro h
    obtain ⟨s, hs, a1, a2⟩ := mem_iff.1 h
    by_cases e : s = t
    · subst e; omega
    · rcases gap s hs e with g | g <;> omega
  obtain ⟨⟨i1, i2⟩, i3⟩ := hin _ m1
  obtain ⟨⟨j1, j2⟩, _⟩ := hin _ m2
  refine ⟨hok, ?_, i1, by omega, mem_zero i3, fun h => mem_nonzero (hout _ o1 (by omega) (by omega)), fun h => mem_nonzero (hout _ o2 (by omega) h)⟩
  unfold freeP at htp
  rw [wrap64_in (by omega) (by omega)] at htp
  simp only [Bool.not_eq_true', decide_eq_false_iff_not] at htp
  omega
end Go.Proofs.Ytahpcepnagpbdaa
