/- Law 39: aggregate.each on an empty list; the table. -/
import Derived.Test.YtohjgegnamcnlaaGreatAgH
namespace Go.Proofs.YtohjgegnamcnlaaGreat
open Go.RowKit Go.Shelf

set_option maxRecDepth 100000 in
set_option maxHeartbeats 4000000 in
theorem aeach_nil {f : FuncId} {caps : Array Value} (A : Option Addr) (c : Nat) (w : World) : Calls Tryz.prog 34 #[.slice A 0 c, .func (.func f) #[] caps] w (fun e w' => e = .returned (.int .i64 0) ∧ Below w.heap.size w w') := by
  have hmm := @run_makeMap Tryz.prog
  have KS := Lib.hid fun W : World => AnyF.slices_SortFunc_none lay_sortEventA none 0 (.func (.func 72) #[] #[]) W
  obtain ⟨i0, hi, hz0, hz1, hz2⟩ := info_parts tStrInfo
  go_enter Tryz.func34, Tryz.ntmps34
  go_wp2_with fail
  go_loopw [5, 23] (fun o i wr => o = .slice none 0 0 ∧ i = .int .i64 0 ∧ wr = w) (fun _ _ _ => 0)
  case atStart => exact ⟨rfl, rfl, rfl⟩
  case round =>
    obtain ⟨rfl, rfl, hw⟩ := hrel
    subst hw
    go_wp2_with fail
    refine Calls.mono (f := 71) (KS.out wr) ?_
    rintro e w1 ⟨rfl, rfl⟩
    have hz3 : (w1.alloc (.map #[] 0)).heap.size = w1.heap.size + 1 := by simp
    go_wp2_with (at_make; refine wpList_make_full _ rfl _ _ 110 rfl (w1.heap.size + 1) 9 i0 (.string ⟨#[]⟩) 1 Tryz.underlying110 hi hz0 hz1 .i64 .i64 _ _ 0 (by rfl) (by rfl) rfl rfl (by omega) (by unfold maxLen; omega) (by rw [hz3]; exact Nat.le_refl _) ?_; intro w2 hown2 hgrow2)
    have hb3 : Below w1.heap.size w1 (w2.alloc (.map #[] 0)) := by
      refine Below.alloc (((Below.refl w1.heap.size w1).alloc (Nat.le_refl _) (.map #[] 0)).grown hgrow2 (by simp) (fun k hk => by cases hk)) ?_ _
      have := hgrow2.size
      simp at this
      omega
    have HB := Lib.hid hb3
    generalize w2.alloc (.map #[] 0) = w3 at *
    clear hown2 hgrow2 hz3 hb3
    go_loopw [51] (fun i wr => i = .int .i64 0 ∧ wr = w3) (fun _ _ => 0)
    case atStart => exact ⟨rfl, rfl⟩
    case round =>
      obtain ⟨rfl, hw⟩ := hrel
      subst hw
      go_wp2_with fail
      go_loopw [15] (fun i wr2 => i = .int .i64 0 ∧ wr2 = wr) (fun _ _ => 0)
      case atStart => exact ⟨rfl, rfl⟩
      case round =>
        obtain ⟨rfl, hw⟩ := hrel
        subst hw
        go_wp2_with fail
        go_ret
        exact ⟨rfl, HB.out⟩
end Go.Proofs.YtohjgegnamcnlaaGreat
