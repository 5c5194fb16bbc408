/- The walks of law 44's size guard (60 spans); slices.Equal at numbers. -/
import Derived.Test.YtahpcepnagpbdaaGreat
import Derived.Test.YtahpcepnagpbdaaSwI
namespace Go.Proofs.Ytahpcepnagpbdaa
open Go.RowKit

theorem great44a_c (A : Option Addr) (n c : Nat) (w : World) (hn : n ≤ 9223372036854775807) : Calls Try.prog 43 #[.slice A n c] w fun e w' => e = .returned (.bool (decide (60 < n))) ∧ w = w' := by
  go_enter Try.func43, Try.ntmps43
  go_wp2
  go_ret
  exact ⟨ret_bool (by simp; omega), rfl⟩
theorem ent_great44a : ∀ (args : Array Value) (w : World), Sem.run Try.prog (callFunc 43 args) w = .ok (.enter 43 args) w := fun _ _ => by kernel_rfl

def FoundAt60 (b : Bool) (w : World) (e : Ending) (w' : World) : Prop := ∃ r : Int, e = .returned (.int .i64 r) ∧ decide (0 ≤ r) = b ∧ w = w'
def longAt60 (ns : List Nat) (i : Nat) : Bool := decide (60 < ns.getD i 0)
def anyLong60 (ns : List Nat) : Bool := (List.range ns.length).any (longAt60 ns)

theorem slIndexSpans60_c (v : Value) (ns : List Nat) (w : World) (hs : SlicesIn w v ns) :
    Calls Try.prog 81 #[v, .func (.func 43) #[] #[]] w (FoundAt60 (anyLong60 ns) w) := by
  obtain ⟨vs, hr, hvs⟩ := hs
  obtain ⟨A, c, rfl, hnc, hc⟩ := hr.form
  have Hvs := Lib.hid hvs; clear hvs
  go_enter Try.func81, Try.ntmps81
  go_wp2
  go_loop [8] (fun i => ∃ k : Nat, k ≤ ns.length ∧ i = .int .i64 k ∧ Hid ((List.range k).any (longAt60 ns) = false)) (fun i => ns.length - (intOf i).toNat)
  case atStart => exact ⟨0, Nat.zero_le _, rfl, rfl⟩
  case round =>
    obtain ⟨k, hk, rfl, Hall⟩ := hrel
    by_cases hlt : k < ns.length
    · obtain ⟨b, off, rfl, hbl⟩ := hr.addr (by omega)
      have c1 := hr.cells k 0 hlt (by omega)
      obtain ⟨A', c', hv, hle⟩ := Hvs.out k hlt
      rw [hv] at c1
      simp only [Nat.mul_one, Nat.add_zero] at c1
      clear hv
      have hcall := great44a_c A' (ns.getD k 0) c' w hle
      have Hstep := Lib.hid (fun h => any_step (f := longAt60 ns) Hall.out h)
      have Hno := Lib.hid (fun h => any_found (f := longAt60 ns) hlt h)
      have hlong : longAt60 ns k = decide (60 < ns.getD k 0) := rfl
      cases hd : decide (60 < ns.getD k 0)
      all_goals
        rw [hd] at hcall hlong
        have Hcall := Lib.hid hcall
        have Hlong := Lib.hid hlong
        clear hcall hlong hd
        generalize ns.getD k 0 = n at *
        go_wp2_with ((with_reducible refine wpList_call_fn 11 43 ?_ ?_ ent_great44a Hcall.out ?_); exact rfl; exact rfl; rintro _ rfl)
      · go_round
        case rel => exact ⟨k + 1, by omega, by go_num, Hstep.out Hlong.out⟩
        case measure => simp [intOf]; omega
      · go_ret
        exact ⟨k, rfl, by rw [anyLong60, Hno.out Hlong.out]; simp, rfl⟩
    · obtain rfl : k = ns.length := by omega
      go_wp2
      go_ret
      exact ⟨-1, rfl, by rw [anyLong60, Hall.out]; rfl, rfl⟩

theorem great44_c (v : Value) (ns : List Nat) (w : World) (hs : SlicesIn w v ns) : Calls Try.prog 14 #[v] w fun e w' => e = .returned (.bool (anyLong60 ns)) ∧ w = w' := by
  go_enter Try.func14, Try.ntmps14
  go_wp2_with (first | (go_at_call 42; go_in) | (go_at_call 81; refine (slIndexSpans60_c v ns _ hs).mono ?_; rintro e w' ⟨r, rfl, hr, rfl⟩))
  go_ret
  exact ⟨rfl, rfl⟩


def sameI (a b : List Int) : Bool := decide (a = b)
theorem sameI_of {a b : List Int} (hl : a.length = b.length) (h : ∀ i, i < a.length → iv a i = iv b i) : sameI a b = true := by
  refine decide_eq_true (List.ext_getElem hl fun i h1 h2 => ?_)
  rw [iv_at h1, iv_at h2, h i h1]
theorem sameI_ne {a b : List Int} {k : Nat} (h : iv a k ≠ iv b k) : sameI a b = false := decide_eq_false fun e => h (by rw [e])
theorem slEqualInt_c (v1 v2 : Value) (a b : List Int) (w : World) (h1 : IsInts w v1 a) (h2 : IsInts w v2 b) : Calls Try.prog 18 #[v1, v2] w (Ret w (.bool (sameI a b))) := by
  obtain ⟨A, c, rfl, hnc, hc⟩ := h1.form
  obtain ⟨B, d, rfl, hnd, hd⟩ := h2.form
  by_cases hl : a.length = b.length
  · have hle : ((a.length : Int) == (b.length : Int)) = true := by rw [beq_iff_eq]; omega
    have hle' : ((a.length : Int) != (b.length : Int)) = false := by rw [bne, hle]; rfl
    have HL := Lib.hid hl
    have hl1 : a.length ≤ b.length := by omega
    have hl2 : b.length ≤ a.length := by omega
    clear hl
    go_enter Try.func18, Try.ntmps18
    go_wp2
    go_loopw [13] (fun i wr => ∃ k : Nat, k ≤ a.length ∧ i = .int .i64 k ∧ Hid (∀ j, j < k → iv a j = iv b j) ∧ Below w.heap.size w wr) (fun i _ => a.length - (intOf i).toNat)
    case atStart => exact ⟨0, Nat.zero_le _, rfl, fun j hj => absurd hj (by omega), Below.refl _ _⟩
    case round =>
      obtain ⟨k, hk, rfl, Hs, hb⟩ := hrel
      by_cases hlt : k < a.length
      · obtain ⟨g, off, rfl, hbk⟩ := h1.addr (by omega)
        obtain ⟨g', off', rfl, hbk'⟩ := h2.addr (by omega)
        go_wp2
        have e0 := fun x : BW wr => ((h1.below hb).bw x).c0 k hlt
        have e2 := fun x : BW wr => ((h2.below hb).bw x).c0 k (by omega)
        cases hq : iv a k == iv b k
        all_goals
          have hq' : (iv a k != iv b k) = !(iv a k == iv b k) := rfl
          rw [hq] at hq'
          refine wp_region_below (by kernel_rfl) (by kernel_rfl) ?_
          repeat (go_big_quiet_step (fail))
          refine wpQuiet_nil ?_
          rintro w2 ⟨⟨_, hb2⟩, rfl⟩
          have hb3 := hb.trans (hb2.mono hb.size)
          clear e0 e2
        · have Hr := Lib.hid (sameI_ne (beq_eq_false_iff_ne.1 hq))
          go_wp2
          go_ret
          exact ⟨ret_bool Hr.out.symm, hb3⟩
        · have hn : ∀ j, j < k + 1 → iv a j = iv b j := fun j hj => by
            rcases Nat.eq_or_lt_of_le (show j ≤ k by omega) with h | h
            · rw [h]; exact beq_iff_eq.1 hq
            · exact Hs.out j h
          have Hn := Lib.hid hn; clear hn
          go_wp2
          go_roundw
          case rel => exact ⟨k + 1, by omega, by go_num, Hn.out, hb3⟩
          case measure => simp [intOf]; omega
      · obtain rfl : k = a.length := by omega
        have Hr := Lib.hid (sameI_of HL.out Hs.out)
        go_wp2
        go_ret
        exact ⟨ret_bool Hr.out.symm, hb⟩
  · have hres : sameI a b = false := decide_eq_false fun e => hl (by rw [e])
    rw [hres]
    clear hres
    have hle : ((a.length : Int) == (b.length : Int)) = false := by rw [beq_eq_false_iff_ne]; omega
    have hle' : ((a.length : Int) != (b.length : Int)) = true := by rw [bne, hle]; rfl
    clear hl
    go_enter Try.func18, Try.ntmps18
    go_wp2
    go_ret
    exact ⟨rfl, Below.refl _ _⟩
end Go.Proofs.Ytahpcepnagpbdaa
