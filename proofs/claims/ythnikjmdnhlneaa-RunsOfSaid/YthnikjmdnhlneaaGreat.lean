/- The walks of law 12's size guard: great answers whether one of some lists has more than 80 spans. -/
import Derived.Test.YthnikjmdnhlneaaRunsA
namespace Go.Proofs.Ythnikjmdnhlneaa
open Go.RowKit

theorem unRet {P : Program} {f : FuncId} {args : Array Value} {w : World} {v : Value} (h : Calls P f args w (Ret w v)) : Calls P f args w fun e w' => e = .returned v ∧ Below w.heap.size w w' := h

theorem great1_c (A : Option Addr) (n c : Nat) (w : World) (hn : n ≤ 9223372036854775807) : Calls Try.prog 55 #[.slice A n c] w fun e w' => e = .returned (.bool (decide (80 < n))) ∧ w = w' := by
  go_enter Try.func55, Try.ntmps55
  go_wp2
  go_ret
  exact ⟨ret_bool (by simp; omega), rfl⟩
theorem ent_great1 : ∀ (args : Array Value) (w : World), Sem.run Try.prog (callFunc 55 args) w = .ok (.enter 55 args) w := fun _ _ => by kernel_rfl

/-- A slice whose elements are slices of these lengths. -/
def SlicesIn (w : World) (v : Value) (ns : List Nat) : Prop :=
  ∃ vs : Nat → Value, RowsIn w v ns.length 1 (fun i _ => vs i) ∧ ∀ i, i < ns.length → ∃ A c, vs i = .slice A (ns.getD i 0) c ∧ ns.getD i 0 ≤ 9223372036854775807
theorem SlicesIn.below {w w' : World} {v : Value} {ns : List Nat} (h : SlicesIn w v ns) (hb : Below w.heap.size w w') : SlicesIn w' v ns := by
  obtain ⟨vs, h1, h2⟩ := h
  exact ⟨vs, h1.below hb, h2⟩

def FoundAt (b : Bool) (w : World) (e : Ending) (w' : World) : Prop := ∃ r : Int, e = .returned (.int .i64 r) ∧ decide (0 ≤ r) = b ∧ w = w'
def longAt (ns : List Nat) (i : Nat) : Bool := decide (80 < ns.getD i 0)
def anyLong (ns : List Nat) : Bool := (List.range ns.length).any (longAt ns)

theorem slIndexSpans_c (v : Value) (ns : List Nat) (w : World) (hs : SlicesIn w v ns) :
    Calls Try.prog 67 #[v, .func (.func 55) #[] #[]] w (FoundAt (anyLong ns) w) := by
  obtain ⟨vs, hr, hvs⟩ := hs
  obtain ⟨A, c, rfl, hnc, hc⟩ := hr.form
  have Hvs := Lib.hid hvs; clear hvs
  go_enter Try.func67, Try.ntmps67
  go_wp2
  go_loop [8] (fun i => ∃ k : Nat, k ≤ ns.length ∧ i = .int .i64 k ∧ Hid ((List.range k).any (longAt ns) = false)) (fun i => ns.length - (intOf i).toNat)
  case atStart => exact ⟨0, Nat.zero_le _, rfl, rfl⟩
  case round =>
    obtain ⟨k, hk, rfl, Hall⟩ := hrel
    by_cases hlt : k < ns.length
    · obtain ⟨b, off, rfl, hbl⟩ := hr.addr (by omega)
      have c1 := hr.cells k 0 hlt (by omega)
      obtain ⟨A', c', hv, hle⟩ := Hvs.out k hlt
      rw [hv] at c1
      simp only [Nat.mul_one, Nat.add_zero] at c1
      clear hv
      have hcall := great1_c A' (ns.getD k 0) c' w hle
      have Hstep := Lib.hid (fun h => any_step (f := longAt ns) Hall.out h)
      have Hno := Lib.hid (fun h => any_found (f := longAt ns) hlt h)
      have hlong : longAt ns k = decide (80 < ns.getD k 0) := rfl
      cases hd : decide (80 < ns.getD k 0)
      all_goals
        rw [hd] at hcall hlong
        have Hcall := Lib.hid hcall
        have Hlong := Lib.hid hlong
        clear hcall hlong hd
        generalize ns.getD k 0 = n at *
        go_wp2_with ((with_reducible refine wpList_call_fn 11 55 ?_ ?_ ent_great1 Hcall.out ?_); exact rfl; exact rfl; rintro _ rfl)
      · go_round
        case rel => exact ⟨k + 1, by omega, by go_num, Hstep.out Hlong.out⟩
        case measure => simp [intOf]; omega
      · go_ret
        exact ⟨k, rfl, by rw [anyLong, Hno.out Hlong.out]; simp, rfl⟩
    · obtain rfl : k = ns.length := by omega
      go_wp2
      go_ret
      exact ⟨-1, rfl, by rw [anyLong, Hall.out]; rfl, rfl⟩

theorem great12_c (v : Value) (ns : List Nat) (w : World) (hs : SlicesIn w v ns) : Calls Try.prog 25 #[v] w fun e w' => e = .returned (.bool (anyLong ns)) ∧ w = w' := by
  go_enter Try.func25, Try.ntmps25
  go_wp2_with (first | (go_at_call 54; go_in) | (go_at_call 67; refine (slIndexSpans_c v ns _ hs).mono ?_; rintro e w' ⟨r, rfl, hr, rfl⟩))
  go_ret
  exact ⟨rfl, rfl⟩

theorem slices_one {w : World} {A : Option Addr} {n c : Nat} {t : TypeId} (b : Nat) (hb : w.heap.size = b) (hn : n ≤ 9223372036854775807) : SlicesIn (w.alloc (.cells #[.slice A n c] t)) (.slice (some ⟨b, 0, none⟩) 1 1) [n] := by
  subst hb
  refine ⟨fun _ => .slice A n c, ⟨_, 1, rfl, Nat.le_refl _, by omega, fun _ => ⟨w.heap.size, 0, rfl, by simp, fun i j hi hj => ?_⟩⟩, fun i hi => ?_⟩
  · obtain rfl : i = 0 := by simpa using hi
    obtain rfl : j = 0 := by omega
    simp
  · obtain rfl : i = 0 := by simpa using hi
    exact ⟨A, c, rfl, hn⟩
theorem slices_two {w : World} {A B : Option Addr} {n c m d : Nat} {t : TypeId} (b : Nat) (hb : w.heap.size = b) (hn : n ≤ 9223372036854775807) (hm : m ≤ 9223372036854775807) :
    SlicesIn (w.alloc (.cells #[.slice A n c, .slice B m d] t)) (.slice (some ⟨b, 0, none⟩) 2 2) [n, m] := by
  subst hb
  refine ⟨fun i => if i = 0 then .slice A n c else .slice B m d, ⟨_, 2, rfl, Nat.le_refl _, by omega, fun _ => ⟨w.heap.size, 0, rfl, by simp, fun i j hi hj => ?_⟩⟩, fun i hi => ?_⟩
  · obtain rfl : j = 0 := by omega
    have hi : i < 2 := by simpa using hi
    rcases (by omega : i = 0 ∨ i = 1) with rfl | rfl <;> simp
  · have hi : i < 2 := by simpa using hi
    rcases (by omega : i = 0 ∨ i = 1) with rfl | rfl
    · exact ⟨A, c, rfl, hn⟩
    · exact ⟨B, d, rfl, hm⟩
end Go.Proofs.Ythnikjmdnhlneaa
