/- The walks of the reference's Valid, order and Pack. -/
import Derived.Test.YtahpcepnagpbdaaSwB
import Derived.Test.YtahpcepnagpbdaaSlice
namespace Go.Proofs.Ytahpcepnagpbdaa
open Go.RowKit Go.Shelf
open Go.Sort (grow)

theorem r10Valid_c (a b : Int) (w : World) : Calls Try.prog 21 #[.agg #[.int .i64 a, .int .i64 b]] w (Ret w (.bool (okSpan (a, b)))) := by
  go_enter Try.func21, Try.ntmps21
  go_wp2
  all_goals
    go_ret
    exact ⟨ret_bool (by simp [okSpan, onLine]; try omega), (Below.refl _ _).alloc (Nat.le_refl _) _⟩
theorem r44Valid_c (v : Value) (l : List Sp) (w : World) (hs : IsSpans w v l) : Calls Try.prog 16 #[v] w (Ret w (.bool (rightB l))) := by
  obtain ⟨A, c, rfl, hnc, hc⟩ := hs.form
  by_cases h : l.length ≤ 1000
  · have e : rightB l = l.all okSpan := by rw [rightB, decide_eq_true h, Bool.true_and]
    rw [e]
    clear e
    go_enter Try.func16, Try.ntmps16
    go_wp2
    go_loopw [3] (fun i wr => ∃ k : Nat, i = .int .i64 k ∧ k ≤ l.length ∧ Hid (∀ j, j < k → okSpan (fr l j, tt l j) = true) ∧ Below w.heap.size w wr) (fun i _ => l.length - (intOf i).toNat)
    case atStart => exact ⟨0, rfl, Nat.zero_le _, fun j hj => absurd hj (by omega), Below.refl _ _⟩
    case round =>
      obtain ⟨k, rfl, hk, Hok, hb⟩ := hrel
      by_cases hlt : k < l.length
      · obtain ⟨b, off, rfl, hbk⟩ := hs.addr (by omega)
        have c0 := (hs.below hb).c0 k hlt
        have c1 := (hs.below hb).c1 k hlt
        cases ho : okSpan (fr l k, tt l k)
        · have hres : l.all okSpan = false := by rw [List.all_eq_false]; exact ⟨_, idx_mem hlt, by rw [ho]; exact Bool.false_ne_true⟩
          have Hres := Lib.hid hres; clear hres
          go_wp2_with fail
          refine (r10Valid_c _ _ _).mono ?_
          rw [ho]
          rintro e w1 ⟨rfl, hb1⟩
          go_wp2
          go_ret
          exact ⟨ret_bool Hres.out.symm, hb.trans (hb1.mono hb.size)⟩
        · have hok2 : ∀ j, j < k + 1 → okSpan (fr l j, tt l j) = true := fun j hj => by
            rcases Nat.lt_or_ge j k with h | h
            · exact Hok.out j h
            · rw [show j = k from by omega]; exact ho
          have Hok2 := Lib.hid hok2; clear hok2
          go_wp2_with fail
          refine (r10Valid_c _ _ _).mono ?_
          rw [ho]
          rintro e w1 ⟨rfl, hb1⟩
          go_wp2
          go_roundw
          case rel => exact ⟨k + 1, by go_num, by omega, Hok2.out, hb.trans (hb1.mono hb.size)⟩
          case measure => simp [intOf]; omega
      · obtain rfl : k = l.length := by omega
        have hres : l.all okSpan = true := by
          rw [List.all_eq_true]; intro s hs
          obtain ⟨i, hi, rfl⟩ := mem_idx hs
          exact Hok.out i hi
        have Hres := Lib.hid hres; clear hres
        go_wp2
        go_ret
        exact ⟨ret_bool Hres.out.symm, hb⟩
  · have e : rightB l = false := by rw [rightB, decide_eq_false h]; rfl
    rw [e]
    clear e
    go_enter Try.func16, Try.ntmps16
    go_wp2
    go_ret
    exact ⟨rfl, Below.refl _ _⟩

def kT (t : Bool) (s : Sp) : Int := if t then s.2 else s.1
theorem r44key_c (p q : Int) (t : Bool) (w : World) : Calls Try.prog 86 #[.agg #[.int .i64 p, .int .i64 q], .bool t] w (Ret w (.int .i64 (kT t (p, q)))) := by
  cases t
  all_goals
    go_enter Try.func86, Try.ntmps86
    go_wp2
    go_ret
    exact ⟨rfl, (Below.refl _ _).alloc (Nat.le_refl _) _⟩
def befB (a : Int) (i : Nat) (b : Int) (k : Nat) : Bool := decide (a < b) || (a == b && decide (i < k))
theorem r44before_c (a b : Int) (i k : Nat) (w : World) : Calls Try.prog 87 #[.int .i64 a, .int .i64 i, .int .i64 b, .int .i64 k] w fun e w' => e = .returned (.bool (befB a i b k)) ∧ w = w' := by
  rcases Int.lt_trichotomy a b with h | h | h
  · have e : befB a i b k = true := by unfold befB; rw [decide_eq_true h]; rfl
    rw [e]; clear e
    go_enter Try.func87, Try.ntmps87
    go_wp2
    go_ret
    exact ⟨rfl, rfl⟩
  · subst h
    have e : befB a i a k = decide (i < k) := by unfold befB; simp
    rw [e]; clear e
    cases hd : decide (i < k)
    · have hd2 : k ≤ i := by simpa using hd
      clear hd
      go_enter Try.func87, Try.ntmps87
      go_wp2
      go_ret
      exact ⟨ret_bool (by simp <;> omega), rfl⟩
    · have hd2 : i < k := by simpa using hd
      clear hd
      go_enter Try.func87, Try.ntmps87
      go_wp2
      go_ret
      exact ⟨ret_bool (by simp <;> omega), rfl⟩
  · have e : befB a i b k = false := by unfold befB; simp; omega
    rw [e]; clear e
    have hne : (a == b) = false := by rw [beq_eq_false_iff_ne]; omega
    go_enter Try.func87, Try.ntmps87
    go_wp2
    go_ret
    exact ⟨ret_bool (by simp; omega), rfl⟩

theorem bef_lt {X K : Int} {k j : Nat} (h : j < k) : befB X k K j = decide (X < K) := by
  unfold befB
  rw [decide_eq_false (by omega : ¬ k < j), Bool.and_false, Bool.or_false]
theorem same_below {P : Program} {f : FuncId} {args : Array Value} {w : World} {v : Value} (h : Calls P f args w fun e w' => e = .returned v ∧ w = w') : Calls P f args w (Ret w v) := h.mono fun _ _ ⟨he, hw⟩ => ⟨he, hw ▸ Below.refl _ _⟩
theorem idx_ins (L : List Nat) (m k : Nat) : (idx L).take m ++ [(k : Int)] ++ (idx L).drop m = idx (L.take m ++ [k] ++ L.drop m) := by simp [idx]
theorem ord_ix {key : Nat → Int} {i k : Nat} {L : List Nat} (h : OrdOf key (List.range i) L) (hk : k ≤ L.length) (h1 : ∀ j, j < k → key (ix L j) ≤ key i) (h2 : ∀ j, k ≤ j → j < L.length → key i < key (ix L j)) :
    OrdOf key (List.range (i + 1)) (L.take k ++ [i] ++ L.drop k) :=
  ord_insert h hk (fun j hj hl => by rw [ix_at hl]; exact h1 j hj) (fun j hj hl => by rw [ix_at hl]; exact h2 j hj hl)
theorem ord_low {key : Nat → Int} {I L : List Nat} (h : OrdOf key I L) {m : Nat} (hm : m ≤ L.length) {X : Int} (hx : 0 < m → key (ix L (m - 1)) ≤ X) : ∀ j, j < m → key (ix L j) ≤ X := fun j hj => by
  have h1 := hx (by omega)
  rcases Nat.eq_or_lt_of_le (show j ≤ m - 1 by omega) with h2 | h2
  · rw [h2]; exact h1
  · have h3 := (List.pairwise_iff_getElem.1 h.asc) j (m - 1) (by omega) (by omega) h2
    rw [ix_at, ix_at] at h3
    have := lex_le h3
    omega

set_option maxRecDepth 100000 in
set_option maxHeartbeats 2000000 in
theorem r44orderO_c (v : Value) (l : List Sp) (t : Bool) (w : World) (hs : IsSpans w v l) (hl : l.length ≤ 100000) :
    Calls Try.prog 49 #[v, .bool t] w (OwnIdx w (OrdOf (fun j => kT t (sp l j)) (List.range l.length))) := by
  obtain ⟨A, c, rfl, hnc, hc⟩ := hs.form
  go_enter Try.func49, Try.ntmps49
  go_wp2
  go_loopw [5, 6] (fun v5 i wr => ∃ (k : Nat) (L : List Nat), i = .int .i64 k ∧ k ≤ l.length ∧ Hid (OrdOf (fun j => kT t (sp l j)) (List.range k) L) ∧ OwnsIx wr w.heap.size v5 L ∧ Below w.heap.size w wr) (fun _ i _ => l.length - (intOf i).toNat)
  case atStart => exact ⟨0, [], rfl, Nat.zero_le _, ord_nil _, own_nilI _ _ _, Below.refl _ _⟩
  case round =>
    obtain ⟨k, L, rfl, hk, HL, hv5, hbw⟩ := hrel
    by_cases hlt : k < l.length
    · obtain ⟨b, off, rfl, hbk⟩ := hs.addr (by omega)
      have c0 := (hs.below hbw).c0 k hlt
      have c1 := (hs.below hbw).c1 k hlt
      have hLl : L.length = k := by have := HL.out.perm.length_eq; simpa using this
      have hLlt : ∀ j, j < L.length → ix L j < k := fun j hj => List.mem_range.1 (HL.out.perm.mem_iff.1 (ix_mem hj))
      have HLlt := Lib.hid hLlt; clear hLlt
      have hLk : L.length ≤ 100000 := by omega
      have HLl := Lib.hid hLl; clear hLl
      have hv5 := rows_idx (OwnsIx.ints hv5)
      obtain ⟨B, cb, rfl, hcb, hcb2⟩ := hv5.form
      go_wp2_with fail
      refine (r44key_c _ _ t _).mono ?_
      rintro e w2 ⟨rfl, hb2⟩
      have hv5 := hv5.below hb2
      have hbw := hbw.trans (hb2.mono hbw.size)
      clear c0 c1 hb2
      obtain ⟨X, hX⟩ : ∃ X, X = kT t (fr l k, tt l k) := ⟨_, rfl⟩
      rw [← hX]
      have HX := Lib.hid hX; clear hX
      go_wp2_with fail
      obtain ⟨wo, rfl⟩ : ∃ wo : World, wo = w2 := ⟨_, rfl⟩
      go_loopw [8] (fun i wr2 => ∃ m : Nat, i = .int .i64 m ∧ m ≤ L.length ∧ Hid (∀ j, m ≤ j → j < L.length → X < kT t (sp l (ix L j))) ∧ Below wo.heap.size wo wr2) (fun i _ => (intOf i).toNat)
      case atStart => exact ⟨L.length, rfl, Nat.le_refl _, fun j h1 h2 => absurd h2 (by omega), Below.refl _ _⟩
      case round =>
        obtain ⟨m, rfl, hm, Hge, hb3⟩ := hrel
        have hv6 := hv5.below hb3
        by_cases hcont : 0 < m ∧ X < kT t (sp l (ix L (m - 1)))
        · obtain ⟨hm0, hlow⟩ := hcont
          obtain ⟨g, off2, rfl, hgl⟩ := hv6.addr (by omega)
          have hj := HLlt.out (m - 1) (by omega)
          have e0 := hv6.i0 (m - 1) (by omega)
          rw [iv_ix (by omega)] at e0
          have hsr := (hs.below hbw).below hb3
          have hbr : b < wr.heap.size := Nat.lt_of_lt_of_le (Nat.lt_of_lt_of_le hbk hbw.size) hb3.size
          have d0 := hsr.c0 (ix L (m - 1)) (by omega)
          have d1 := hsr.c1 (ix L (m - 1)) (by omega)
          have hge2 : ∀ j, m - 1 ≤ j → j < L.length → X < kT t (sp l (ix L j)) := fun j h1 h2 => by
            rcases Nat.eq_or_lt_of_le h1 with h | h
            · rw [← h]; exact hlow
            · exact Hge.out j (by omega) h2
          have Hge2 := Lib.hid hge2; clear hge2
          have hbf := fun (W : World) => same_below (r44before_c X (kT t (fr l (ix L (m - 1)), tt l (ix L (m - 1)))) k (ix L (m - 1)) W)
          rw [bef_lt hj, decide_eq_true (by exact hlow)] at hbf
          have hjl : ix L (m - 1) < l.length := by omega
          generalize ix L (m - 1) = j at *
          have Hbf := Lib.hid hbf; clear hbf hlow hj
          have e0 := fun x : BW wr => bw_cell x e0 hgl
          have d0 := fun x : BW wr => bw_cell x d0 hbr
          have d1 := fun x : BW wr => bw_cell x d1 hbr
          go_wp2_with fail
          refine wp_region_below (by kernel_rfl) (by kernel_rfl) ?_
          repeat (go_big_quiet_step (first | (go_at_call 86; exact calls_bw _ (r44key_c _ _ _ _)) | (go_at_call 87; exact calls_bw _ (Hbf.out _))))
          refine wpQuiet_nil ?_
          rintro w5 ⟨⟨_, hb5⟩, rfl⟩
          have hb6 := hb3.trans (hb5.mono hb3.size)
          clear e0 d0 d1
          go_wp2
          go_roundw
          case rel => exact ⟨m - 1, by go_num, by omega, Hge2.out, hb6⟩
          case measure => simp [intOf]; omega
        · have hx : 0 < m → kT t (sp l (ix L (m - 1))) ≤ X := fun h => by
            rcases Int.lt_or_le X (kT t (sp l (ix L (m - 1)))) with h1 | h1
            · exact absurd ⟨h, h1⟩ hcont
            · exact h1
          have hnew : OrdOf (fun j => kT t (sp l j)) (List.range (k + 1)) (L.take m ++ [k] ++ L.drop m) :=
            ord_ix HL.out hm (fun j hj => by have := ord_low HL.out hm hx j hj; have e := HX.out; exact e ▸ this) (fun j h1 h2 => by have := Hge.out j h1 h2; have e := HX.out; exact e ▸ this)
          have Hnew := Lib.hid hnew; clear hnew
          clear hcont
          have hmk : m ≤ 100000 := by omega
          rcases Nat.eq_zero_or_pos m with hz | hm0
          · have hd1 : decide (0 < m) = false := by rw [decide_eq_false_iff_not]; omega
            have hd2 : decide ((0 : Int) < (m : Int)) = false := by rw [decide_eq_false_iff_not]; omega
            clear hz hx
            go_wp2_with fail
            refine wp_region_below (by kernel_rfl) (by kernel_rfl) ?_
            repeat (go_big_quiet_step (fail))
            refine wpQuiet_nil ?_
            rintro w5 ⟨⟨_, hb5⟩, rfl⟩
            have hv7 := hv6.below hb5
            have hb6 := hb3.trans (hb5.mono hb3.size)
            have hB5 := hbw.trans (hb6.mono hbw.size)
            clear hb5 hb6
            go_wp2_with (first
              | (at_builtin; refine append_ints tInts tIntInfo (by rfl) (.tmp 48) (.tmp 51) (by rfl) w5.heap.size _ _ 0 [] ((idx L).take m) (by rfl) (World.ownsRow_made w5 #[] 0 (Nat.le_refl _) (by unfold maxLen; omega) rfl) rfl (by rfl) (ints_take (hi_rows (hv7.below ((Below.refl _ _).alloc (Nat.le_refl _) _)) m hm) (by rw [idx_len]; omega)) (by simp; omega) (by simp) ?_; intro v2 w6 hown2 hb6; have hb6 := ((Below.refl w5.heap.size w5).alloc (Nat.le_refl _) _).trans hb6)
              | (at_builtin; refine append_int tInts tIntInfo (by rfl) (.tmp 53) (.tmp 55) (by rfl) w5.heap.size _ ([] ++ (idx L).take m) _ (by rfl) hown2 (by rfl) (by simp; omega) hb6.size ?_; intro v3 w7 hown3 hb7; have hb7 := hb6.trans hb7)
              | (at_builtin; refine append_ints tInts tIntInfo (by rfl) (.tmp 57) (.tmp 60) (by rfl) w5.heap.size _ _ _ ([] ++ (idx L).take m ++ [(k : Int)]) ((idx L).drop m) (by rfl) hown3 rfl (by rfl) (ints_drop (by rw [idx_len]; first | exact lo_rows1 (hv7.below hb7) m hm | exact lo_rows1s (hv7.below hb7) m hm) (by rw [idx_len]; omega)) (by simp [idx_len]; omega) hb7.size ?_; intro v8 w8 hown8 hb8; have hb8 := hb7.trans hb8))
            rw [List.nil_append, idx_ins, idx_len] at hown8
            have hv8 : OwnsIx w8 w.heap.size v8 _ := own_base hown8 hB5.size
            clear hown8
            have hB8 := hB5.trans (hb8.mono hB5.size)
            go_roundw
            case rel => exact ⟨k + 1, _, by go_num, hlt, Hnew.out, hv8, hB8⟩
            case measure => simp [intOf]; omega
          · obtain ⟨g, off2, rfl, hgl⟩ := hv6.addr (by omega)
            have hlow := hx hm0
            have hj := HLlt.out (m - 1) (by omega)
            have e0 := hv6.i0 (m - 1) (by omega)
            rw [iv_ix (by omega)] at e0
            have hsr := (hs.below hbw).below hb3
            have hbr : b < wr.heap.size := Nat.lt_of_lt_of_le (Nat.lt_of_lt_of_le hbk hbw.size) hb3.size
            have d0 := hsr.c0 (ix L (m - 1)) (by omega)
            have d1 := hsr.c1 (ix L (m - 1)) (by omega)
            have hbf := fun (W : World) => same_below (r44before_c X (kT t (fr l (ix L (m - 1)), tt l (ix L (m - 1)))) k (ix L (m - 1)) W)
            rw [bef_lt hj, decide_eq_false (by exact Int.not_lt.2 hlow)] at hbf
            have hjl : ix L (m - 1) < l.length := by omega
            generalize ix L (m - 1) = j at *
            have Hbf := Lib.hid hbf; clear hbf hlow hj hx
            have e0 := fun x : BW wr => bw_cell x e0 hgl
            have d0 := fun x : BW wr => bw_cell x d0 hbr
            have d1 := fun x : BW wr => bw_cell x d1 hbr
            go_wp2_with fail
            refine wp_region_below (by kernel_rfl) (by kernel_rfl) ?_
            repeat (go_big_quiet_step (first | (go_at_call 86; exact calls_bw _ (r44key_c _ _ _ _)) | (go_at_call 87; exact calls_bw _ (Hbf.out _))))
            refine wpQuiet_nil ?_
            rintro w5 ⟨⟨_, hb5⟩, rfl⟩
            have hv7 := hv6.below hb5
            have hb6 := hb3.trans (hb5.mono hb3.size)
            have hB5 := hbw.trans (hb6.mono hbw.size)
            clear e0 d0 d1 hb5 hb6 hsr
            go_wp2_with (first
              | (at_builtin; refine append_ints tInts tIntInfo (by rfl) (.tmp 48) (.tmp 51) (by rfl) w5.heap.size _ _ 0 [] ((idx L).take m) (by rfl) (World.ownsRow_made w5 #[] 0 (Nat.le_refl _) (by unfold maxLen; omega) rfl) rfl (by rfl) (ints_take (hi_rows (hv7.below ((Below.refl _ _).alloc (Nat.le_refl _) _)) m hm) (by rw [idx_len]; omega)) (by simp; omega) (by simp) ?_; intro v2 w6 hown2 hb6; have hb6 := ((Below.refl w5.heap.size w5).alloc (Nat.le_refl _) _).trans hb6)
              | (at_builtin; refine append_int tInts tIntInfo (by rfl) (.tmp 53) (.tmp 55) (by rfl) w5.heap.size _ ([] ++ (idx L).take m) _ (by rfl) hown2 (by rfl) (by simp; omega) hb6.size ?_; intro v3 w7 hown3 hb7; have hb7 := hb6.trans hb7)
              | (at_builtin; refine append_ints tInts tIntInfo (by rfl) (.tmp 57) (.tmp 60) (by rfl) w5.heap.size _ _ _ ([] ++ (idx L).take m ++ [(k : Int)]) ((idx L).drop m) (by rfl) hown3 rfl (by rfl) (ints_drop (by rw [idx_len]; first | exact lo_rows1 (hv7.below hb7) m hm | exact lo_rows1s (hv7.below hb7) m hm) (by rw [idx_len]; omega)) (by simp [idx_len]; omega) hb7.size ?_; intro v8 w8 hown8 hb8; have hb8 := hb7.trans hb8))
            rw [List.nil_append, idx_ins, idx_len] at hown8
            have hv8 : OwnsIx w8 w.heap.size v8 _ := own_base hown8 hB5.size
            clear hown8
            have hB8 := hB5.trans (hb8.mono hB5.size)
            go_roundw
            case rel => exact ⟨k + 1, _, by go_num, hlt, Hnew.out, hv8, hB8⟩
            case measure => simp [intOf]; omega
    · obtain rfl : k = l.length := by omega
      have HL2 := HL
      go_wp2
      go_ret
      exact ⟨L, _, HL2.out, rfl, hv5, hbw⟩
theorem r44order_c (v : Value) (l : List Sp) (t : Bool) (w : World) (hs : IsSpans w v l) (hl : l.length ≤ 100000) :
    Calls Try.prog 49 #[v, .bool t] w (IdxRet w (OrdOf (fun j => kT t (sp l j)) (List.range l.length))) :=
  (r44orderO_c v l t w hs hl).mono fun _ _ ⟨M, v', h1, h2, h3, h4⟩ => ⟨M, v', h1, h2, h3.ints, h4⟩
end Go.Proofs.Ytahpcepnagpbdaa
