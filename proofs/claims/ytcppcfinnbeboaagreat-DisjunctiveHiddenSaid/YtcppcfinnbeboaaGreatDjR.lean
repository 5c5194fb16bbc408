/- Law 47: slices.Min and slices.ContainsFunc at the rows of a matrix; slices.Repeat of one number. -/
import Derived.Test.YtcppcfinnbeboaaGreatDjB
import Derived.Test.YtcppcfinnbeboaaGreatIyD
namespace Go.Proofs.YtcppcfinnbeboaaGreat
open Go.RowKit Go.Shelf

def minTo (f : Nat → Int) : Nat → Int
  | 0 => f 0
  | j + 1 => min (minTo f j) (f (j + 1))
theorem minTo_lt (f : Nat → Int) (B : Int) : ∀ n, decide (minTo f n < B) = (List.range (n + 1)).any fun j => decide (f j < B)
  | 0 => (Bool.or_false _).symm
  | n + 1 => by
    rw [any_range_succ, ← minTo_lt f B n]
    show decide (min (minTo f n) (f (n + 1)) < B) = _
    rw [← Bool.decide_or]
    exact decide_eq_decide.2 (by omega)
set_option maxRecDepth 100000 in
theorem slMinInt_c (g n c : Nat) (f : Nat → Int) (w : World) (hr : RowAt w g (n + 1) f) (hn : n < 1000) : Calls Tryz.prog 82 #[.slice (some ⟨g, 0, none⟩) (n + 1) c] w (Ret w (.int .i64 (minTo f n))) := by
  have Hr := Lib.hid hr; clear hr
  have c0 := Hr.out.cell 0 (by omega)
  have n0 : decide ((n : Int) + 1 < 1) = false := decide_eq_false (by omega)
  have n1 : (0 : Int) < (n : Int) + 1 := by omega
  go_enter Tryz.func82, Tryz.ntmps82
  go_wp2_with fail
  go_loopw [3, 4] (fun m i wr => ∃ k : Nat, k ≤ n ∧ i = .int .i64 ((k : Int) + 1) ∧ m = .int .i64 (minTo f k) ∧ Below w.heap.size w wr) (fun _ i _ => n + 1 - (intOf i).toNat)
  case atStart => exact ⟨0, Nat.zero_le _, rfl, rfl, Below.refl _ _⟩
  case round =>
    obtain ⟨k, hk, rfl, rfl, hb⟩ := hrel
    rcases Nat.lt_or_ge k n with hlt | hge
    · have k0 : decide ((k : Int) + 1 < (n : Int) + 1) = true := decide_eq_true (by omega)
      have k1 : IntKind.i64.wrap ((k : Int) + 1 + 1) = ((k + 1 : Nat) : Int) + 1 := by rw [IntKind.wrap_i64]; omega
      have k2 : (0 : Int) ≤ (k : Int) + 1 := by omega
      have k3 : (k : Int) + 1 < (n : Int) + 1 := by omega
      have k4 : ((k : Int) + 1).toNat = k + 1 := by omega
      have d0 := (Hr.out.below hb).cell (k + 1) (by omega)
      have hm : min (minTo f k) (f (k + 1)) = minTo f (k + 1) := rfl
      have Hlt := Lib.hid hlt
      clear hlt hk
      go_wp2_with fail
      go_roundw
      case rel => exact ⟨k + 1, Hlt.out, by go_num, by first | rfl | rw [hm], hb⟩
      case measure => have := Hlt.out; simp [intOf]; omega
    · obtain rfl : k = n := by omega
      have k0 : decide ((k : Int) + 1 < (k : Int) + 1) = false := decide_eq_false (by omega)
      go_wp2_with fail
      go_ret
      exact ⟨rfl, hb⟩
theorem bdtight1_c (g n c : Nat) (f : Nat → Int) (w : World) (hr : RowAt w g (n + 1) f) (hn : n < 1000) : Calls Tryz.prog 81 #[.slice (some ⟨g, 0, none⟩) (n + 1) c] w (Ret w (.bool ((List.range (n + 1)).any fun j => decide (f j < -68719476736)))) := by
  rw [← minTo_lt]
  have K := Lib.hid (slMinInt_c g n c f w hr hn)
  clear hr hn
  go_enter Tryz.func81, Tryz.ntmps81
  go_wp2_with fail
  refine K.out.mono ?_
  rintro e w1 ⟨rfl, hb⟩
  go_wp2_with fail
  go_ret
  exact ⟨rfl, hb⟩
theorem ent_bdtight1 : ∀ (args : Array Value) (w : World), Sem.run Tryz.prog (callFunc 81 args) w = .ok (.enter 81 args) w := fun _ _ => by kernel_rfl
def rowLow (M : Mat) (n i : Nat) : Bool := (List.range n).any fun j => decide (M i j < -68719476736)
def IdxRow (M : Mat) (n : Nat) (r : Int) : Prop := (r = -1 ∧ lowF M n n = false) ∨ ∃ i : Nat, r = i ∧ lowF M n n = true
def IdxRowRet (M : Mat) (n : Nat) (w : World) (e : Ending) (w' : World) : Prop := ∃ r, IdxRow M n r ∧ e = .returned (.int .i64 r) ∧ Below w.heap.size w w'
set_option maxRecDepth 100000 in
theorem slIndexRow_c (base b n : Nat) (G C : Nat → Nat) (M : Mat) (w : World) (hm : MatAt w base b (n + 1) (n + 1) G C M) (hn : n < 1000) : Calls Tryz.prog 104 #[.slice (some ⟨b, 0, none⟩) (n + 1) (n + 1), .func (.func 81) #[] #[]] w (IdxRowRet M (n + 1) w) := by
  have Hm := Lib.hid hm; clear hm
  go_enter Tryz.func104, Tryz.ntmps104
  go_wp2
  go_loopw [8] (fun i wr => ∃ k : Nat, i = .int .i64 k ∧ k ≤ n + 1 ∧ Hid (lowF M k (n + 1) = false) ∧ Below w.heap.size w wr) (fun i _ => n + 1 - (intOf i).toNat)
  case atStart => exact ⟨0, rfl, Nat.zero_le _, Lib.hid rfl, Below.refl _ _⟩
  case round =>
    obtain ⟨k, rfl, hk, HA, hb⟩ := hrel
    by_cases hlt : k < n + 1
    · have k0 : decide ((k : Int) < (n : Int) + 1) = true := decide_eq_true (by omega)
      have k1 : IntKind.i64.wrap ((k : Int) + 1) = (k : Int) + 1 := by rw [IntKind.wrap_i64]; omega
      have k2 : (0 : Int) ≤ (k : Int) := by omega
      have k3 : (k : Int) < (n : Int) + 1 := by omega
      have d0 := (Hm.out.below hb).head k hlt
      have hcall := bdtight1_c (G k) n (C k) (M k) wr ((Hm.out.below hb).rows k hlt) hn
      have hs : lowF M (k + 1) (n + 1) = (lowF M k (n + 1) || (List.range (n + 1)).any fun j => decide (M k j < -68719476736)) := any_range_succ _ k
      rw [HA.out, Bool.false_or] at hs
      cases hd : (List.range (n + 1)).any fun j => decide (M k j < -68719476736)
      · rw [hd] at hcall hs
        have Hcall := Lib.hid hcall; have Hst := Lib.hid hs; have Hlt := Lib.hid hlt
        clear hcall hs hd hlt hk
        go_wp2_with fail
        refine Hcall.out.mono ?_
        rintro e w2 ⟨rfl, hb2⟩
        have hb3 := hb.trans (hb2.mono hb.size)
        go_wp2
        go_roundw
        case rel => exact ⟨k + 1, by go_num, Hlt.out, Hst, hb3⟩
        case measure => have := Hlt.out; simp [intOf]; omega
      · have hfd : lowF M (n + 1) (n + 1) = true := by
          unfold lowF
          rw [List.any_eq_true]
          exact ⟨k, by simpa using hlt, hd⟩
        rw [hd] at hcall
        have Hcall := Lib.hid hcall; have Hfd := Lib.hid hfd
        clear hcall hs hfd hd
        go_wp2_with fail
        refine Hcall.out.mono ?_
        rintro e w2 ⟨rfl, hb2⟩
        have hb3 := hb.trans (hb2.mono hb.size)
        go_wp2
        go_ret
        exact ⟨_, .inr ⟨k, rfl, Hfd.out⟩, rfl, hb3⟩
    · obtain rfl : k = n + 1 := by omega
      have k0 : decide (((n + 1 : Nat) : Int) < (n : Int) + 1) = false := decide_eq_false (by omega)
      have k9 : decide ((n : Int) + 1 < (n : Int) + 1) = false := decide_eq_false (by omega)
      go_wp2
      go_ret
      exact ⟨_, .inl ⟨rfl, HA.out⟩, rfl, hb⟩
theorem slContainsRow_c (base b n : Nat) (G C : Nat → Nat) (M : Mat) (w : World) (hm : MatAt w base b (n + 1) (n + 1) G C M) (hn : n < 1000) : Calls Tryz.prog 80 #[.slice (some ⟨b, 0, none⟩) (n + 1) (n + 1), .func (.func 81) #[] #[]] w (Ret w (.bool (lowF M (n + 1) (n + 1)))) := by
  have K := Lib.hid (slIndexRow_c base b n G C M w hm hn)
  clear hm hn
  cases q : lowF M (n + 1) (n + 1)
  all_goals
    have Q := Lib.hid q; clear q
    go_enter Tryz.func80, Tryz.ntmps80
    go_wp2_with fail
    refine K.out.mono ?_
    rintro e w1 ⟨r, hr, rfl, hb⟩
    rcases hr with ⟨rfl, h⟩ | ⟨i, rfl, h⟩
    all_goals first
      | exact absurd (h.symm.trans Q.out) (by decide)
      | (have i0 : decide ((0 : Int) ≤ (i : Int)) = true := decide_eq_true (by omega)
         clear h
         go_wp2_with fail
         go_ret
         exact ⟨rfl, hb⟩)
      | (clear h
         go_wp2_with fail
         go_ret
         exact ⟨rfl, hb⟩)
end Go.Proofs.YtcppcfinnbeboaaGreat
