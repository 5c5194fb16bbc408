/- Law 47: whether times satisfy choices. -/
import Derived.Test.YtcppcfinnbeboaaGreatDjF
import Derived.Test.YtcppcfinnbeboaaGreatDjU
namespace Go.Proofs.YtcppcfinnbeboaaGreat
open Go.RowKit Go.Shelf

theorem djsat1_c (p q : Int) (B : Nat) (d : Int) (w : World) (hB : BoxI B d w) (ho : okSpan (p, q) = true) : Calls Tryz.prog 68 #[.agg #[.int .i64 p, .int .i64 q], .pointer (some ⟨B, 0, none⟩)] w (Ret w (.bool (decide (p ≤ d) && decide (d < q)))) := by
  have hb1 := (Below.refl w.heap.size w).alloc (Nat.le_refl _) (.cells #[.int .i64 p, .int .i64 q] 48)
  have hB2 := hB.below hb1
  unfold BoxI at hB2
  have t0 := blk_get hB2 0
  simp at t0
  have Hb1 := Lib.hid hb1
  have K : Hid (∀ W, Calls Tryz.prog 69 #[.agg #[.int .i64 p, .int .i64 q], .int .i64 d] W (Ret W (.bool (decide (p ≤ d) && decide (d < q))))) := Lib.hid fun W => ivHas47_c p q d W ho
  clear hb1 hB2 hB ho
  generalize (decide (p ≤ d) && decide (d < q)) = r at K ⊢
  go_enter Tryz.func68, Tryz.ntmps68
  go_wp2_with fail
  refine (K.out _).mono ?_
  rintro e w1 ⟨rfl, hb⟩
  have HF := Lib.hid (Hb1.out.trans (hb.mono Hb1.out.size))
  clear hb
  go_wp2_with fail
  go_ret
  exact ⟨rfl, HF.out⟩
theorem ent_djsat1 : ∀ (args : Array Value) (w : World), Sem.run Tryz.prog (callFunc 68 args) w = .ok (.enter 68 args) w := fun _ _ => by kernel_rfl
def inSp (d : Int) (s : Sp) : Bool := decide (s.1 ≤ d) && decide (d < s.2)
def IdxSp (l : List Sp) (d r : Int) : Prop := (r = -1 ∧ l.any (inSp d) = false) ∨ ∃ i : Nat, r = i ∧ l.any (inSp d) = true
def IdxSpRet (l : List Sp) (d : Int) (w : World) (e : Ending) (w' : World) : Prop := ∃ r, IdxSp l d r ∧ e = .returned (.int .i64 r) ∧ Below w.heap.size w w'
set_option maxRecDepth 100000 in
theorem slIndexIn_c (B : Nat) (d : Int) (v : Value) (l : List Sp) (w : World) (hs : IsSpans w v l) (hB : BoxI B d w) (hok : l.all okSpan = true) : Calls Tryz.prog 83 #[v, .func (.func 68) #[] #[.pointer (some ⟨B, 0, none⟩)]] w (IdxSpRet l d w) := by
  obtain ⟨A, c, rfl, hnc, hc⟩ := hs.form
  have HB := Lib.hid hB; have Hok := Lib.hid hok
  clear hB hok
  go_enter Tryz.func83, Tryz.ntmps83
  go_wp2
  go_loopw [8] (fun i wr => ∃ k : Nat, i = .int .i64 k ∧ k ≤ l.length ∧ Hid (∀ j, j < k → inSp d (fr l j, tt l j) = false) ∧ Below w.heap.size w wr) (fun i _ => l.length - (intOf i).toNat)
  case atStart => exact ⟨0, rfl, Nat.zero_le _, Lib.hid (fun j hj => absurd hj (by omega)), Below.refl _ _⟩
  case round =>
    obtain ⟨k, rfl, hk, HA, hb⟩ := hrel
    by_cases hlt : k < l.length
    · obtain ⟨b, off, rfl, hbk⟩ := hs.addr (by omega)
      have c0 := (hs.below hb).c0 k hlt
      have c1 := (hs.below hb).c1 k hlt
      have hcall : Calls Tryz.prog 68 #[.agg #[.int .i64 (fr l k), .int .i64 (tt l k)], .pointer (some ⟨B, 0, none⟩)] wr (Ret wr (.bool (inSp d (fr l k, tt l k)))) := djsat1_c (fr l k) (tt l k) B d wr (HB.out.below hb) (List.all_eq_true.1 Hok.out _ (idx_mem hlt))
      have hfd : inSp d (fr l k, tt l k) = true → IdxSp l d (k : Int) := fun h => .inr ⟨k, rfl, any_yes47 (fun i h => sp_at l i h) hlt h⟩
      have hst : inSp d (fr l k, tt l k) = false → ∀ j, j < k + 1 → inSp d (fr l j, tt l j) = false := fun h j hj => by
        rcases Nat.eq_or_lt_of_le (show j ≤ k by omega) with e | e
        · rw [e]; exact h
        · exact HA.out j e
      generalize inSp d (fr l k, tt l k) = z at hcall hfd hst
      cases z
      · have Hcall := Lib.hid hcall
        have Hst := Lib.hid (hst rfl)
        clear hcall hst hfd
        go_wp2_with fail
        refine Hcall.out.mono ?_
        rintro e w2 ⟨rfl, hb2⟩
        have hb3 := hb.trans (hb2.mono hb.size)
        go_wp2
        go_roundw
        case rel => exact ⟨k + 1, by go_num, by omega, Hst, hb3⟩
        case measure => simp [intOf]; omega
      · have Hcall := Lib.hid hcall
        have Hfd := Lib.hid (hfd rfl)
        clear hcall hst hfd
        go_wp2_with fail
        refine Hcall.out.mono ?_
        rintro e w2 ⟨rfl, hb2⟩
        have hb3 := hb.trans (hb2.mono hb.size)
        go_wp2
        go_ret
        exact ⟨_, Hfd.out, rfl, hb3⟩
    · obtain rfl : k = l.length := by omega
      have Hr : Hid (IdxSp l d (-1)) := .inl ⟨rfl, any_no47 (fun i h => sp_at l i h) HA.out⟩
      clear HA
      go_wp2
      go_ret
      exact ⟨_, Hr.out, rfl, hb⟩
theorem slContainsIn_c (B : Nat) (d : Int) (v : Value) (l : List Sp) (w : World) (hs : IsSpans w v l) (hB : BoxI B d w) (hok : l.all okSpan = true) : Calls Tryz.prog 59 #[v, .func (.func 68) #[] #[.pointer (some ⟨B, 0, none⟩)]] w (Ret w (.bool (l.any (inSp d)))) := by
  have K := Lib.hid (slIndexIn_c B d v l w hs hB hok)
  clear hs hB hok
  cases q : l.any (inSp d)
  all_goals
    have Q := Lib.hid q; clear q
    go_enter Tryz.func59, Tryz.ntmps59
    go_wp2_with fail
    refine K.out.mono ?_
    rintro e w1 ⟨r, hr, rfl, hb⟩
    rcases hr with ⟨rfl, h⟩ | ⟨i, rfl, h⟩
    all_goals first
      | exact absurd (h.symm.trans Q.out) (by decide)
      | (have i0 : decide ((0 : Int) ≤ (i : Int)) = true := decide_eq_true (by omega)
         clear h
         go_wp2_with fail
         go_ret
         exact ⟨rfl, hb⟩)
      | (clear h
         go_wp2_with fail
         go_ret
         exact ⟨rfl, hb⟩)
end Go.Proofs.YtcppcfinnbeboaaGreat
