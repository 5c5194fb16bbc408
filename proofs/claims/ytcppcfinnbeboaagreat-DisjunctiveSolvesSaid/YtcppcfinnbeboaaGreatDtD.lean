/- Law 47: are the times of a schedule within the limit? -/
import Derived.Test.YtcppcfinnbeboaaGreatDjJ
namespace Go.Proofs.YtcppcfinnbeboaaGreat
open Go.RowKit Go.Shelf

def fatB (x : Int) : Bool := decide (68719476736 < x) || decide (x < -68719476736)
theorem law47Solves1_c (x : Int) (w : World) : Calls Tryz.prog 22 #[.int .i64 x] w (Ret w (.bool (fatB x))) := by
  unfold fatB
  cases h1 : decide (68719476736 < x) <;> cases h2 : decide (x < -68719476736)
  all_goals
    go_enter Tryz.func22, Tryz.ntmps22
    go_wp2_with fail
    go_ret
    exact ⟨rfl, Below.refl _ _⟩
theorem ent_law47Solves1 : ∀ (args : Array Value) (w : World), Sem.run Tryz.prog (callFunc 22 args) w = .ok (.enter 22 args) w := fun _ _ => by kernel_rfl
def IdxFat (l : List Int) (r : Int) : Prop := (r = -1 ∧ l.any fatB = false) ∨ ∃ i : Nat, r = i ∧ l.any fatB = true
def IdxFatRet (l : List Int) (w : World) (e : Ending) (w' : World) : Prop := ∃ r, IdxFat l r ∧ e = .returned (.int .i64 r) ∧ Below w.heap.size w w'
set_option maxRecDepth 100000 in
theorem slIndexFat_c (v : Value) (l : List Int) (w : World) (hs : IsInts w v l) : Calls Tryz.prog 38 #[v, .func (.func 22) #[] #[]] w (IdxFatRet l w) := by
  obtain ⟨A, c, rfl, hnc, hc⟩ := hs.form
  go_enter Tryz.func38, Tryz.ntmps38
  go_wp2
  go_loopw [8] (fun i wr => ∃ k : Nat, i = .int .i64 k ∧ k ≤ l.length ∧ Hid (∀ j, j < k → fatB (iv l j) = false) ∧ Below w.heap.size w wr) (fun i _ => l.length - (intOf i).toNat)
  case atStart => exact ⟨0, rfl, Nat.zero_le _, Lib.hid (fun j hj => absurd hj (by omega)), Below.refl _ _⟩
  case round =>
    obtain ⟨k, rfl, hk, HA, hb⟩ := hrel
    by_cases hlt : k < l.length
    · obtain ⟨b, off, rfl, hbk⟩ := hs.addr (by omega)
      have c0 := (hs.below hb).c0 k hlt
      have hcall := law47Solves1_c (iv l k) wr
      have hfd : fatB (iv l k) = true → IdxFat l (k : Int) := fun h => .inr ⟨k, rfl, any_yes47 (fun i h => iv_at47 h) hlt h⟩
      have hst : fatB (iv l k) = false → ∀ j, j < k + 1 → fatB (iv l j) = false := fun h j hj => by
        rcases Nat.eq_or_lt_of_le (show j ≤ k by omega) with e | e
        · rw [e]; exact h
        · exact HA.out j e
      generalize fatB (iv l k) = z at hcall hfd hst
      cases z
      · have Hcall := Lib.hid hcall
        have Hst := Lib.hid (hst rfl)
        clear hcall hst hfd
        go_wp2_with fail
        refine Hcall.out.mono ?_
        rintro e w2 ⟨rfl, hb2⟩
        have hb3 := hb.trans (hb2.mono hb.size)
        go_wp2
        go_roundw
        case rel => exact ⟨k + 1, by go_num, by omega, Hst, hb3⟩
        case measure => simp [intOf]; omega
      · have Hcall := Lib.hid hcall
        have Hfd := Lib.hid (hfd rfl)
        clear hcall hst hfd
        go_wp2_with fail
        refine Hcall.out.mono ?_
        rintro e w2 ⟨rfl, hb2⟩
        have hb3 := hb.trans (hb2.mono hb.size)
        go_wp2
        go_ret
        exact ⟨_, Hfd.out, rfl, hb3⟩
    · obtain rfl : k = l.length := by omega
      have Hr : Hid (IdxFat l (-1)) := .inl ⟨rfl, any_no47 (fun i h => iv_at47 h) HA.out⟩
      clear HA
      go_wp2
      go_ret
      exact ⟨_, Hr.out, rfl, hb⟩
theorem slContainsFat_c (v : Value) (l : List Int) (w : World) (hs : IsInts w v l) : Calls Tryz.prog 21 #[v, .func (.func 22) #[] #[]] w (Ret w (.bool (l.any fatB))) := by
  have K := Lib.hid (slIndexFat_c v l w hs)
  clear hs
  cases q : l.any fatB
  all_goals
    have Q := Lib.hid q; clear q
    go_enter Tryz.func21, Tryz.ntmps21
    go_wp2_with fail
    refine K.out.mono ?_
    rintro e w1 ⟨r, hr, rfl, hb⟩
    rcases hr with ⟨rfl, h⟩ | ⟨i, rfl, h⟩
    all_goals first
      | exact absurd (h.symm.trans Q.out) (by decide)
      | (have i0 : decide ((0 : Int) ≤ (i : Int)) = true := decide_eq_true (by omega)
         clear h
         go_wp2_with fail
         go_ret
         exact ⟨rfl, hb⟩)
      | (clear h
         go_wp2_with fail
         go_ret
         exact ⟨rfl, hb⟩)
end Go.Proofs.YtcppcfinnbeboaaGreat
