/- Law 39: few, the law's guard on sizes. -/
import Derived.Test.YtohjgegnamcnlaaGreatAhh
namespace Go.Proofs.YtohjgegnamcnlaaGreat
open Go.RowKit Go.Shelf

def bigS (x : Val) : Bool := decide (60 < x.2.2.size)
def bigF (f : Fct) : Bool := decide (10 < f.1.length) || f.1.any bigS
def fewF (F : List Fct) : Bool := decide (F.length ≤ 16) && !F.any bigF
theorem few39_11_c (k n : Int) (s : ByteArray) (w : World) : Calls Tryz.prog 29 #[.agg #[.int .i64 k, .int .i64 n, .string s]] w (Ret w (.bool (decide (60 < s.size)))) := by
  cases h : decide ((60 : Int) < (s.size : Int))
  all_goals
    have h2 : decide (60 < s.size) = decide ((60 : Int) < (s.size : Int)) := by rw [decide_eq_decide]; omega
    rw [h2, h]
    clear h2
    have hb := (Below.refl w.heap.size w).alloc (Nat.le_refl _) (.cells #[.int .i64 k, .int .i64 n, .string s] 51)
    have Hb := Lib.hid hb; clear hb
    go_enter Tryz.func29, Tryz.ntmps29
    go_wp2_with fail
    go_ret
    exact ⟨rfl, Hb.out⟩
theorem ent_few39_11 : ∀ (args : Array Value) (w : World), Sem.run Tryz.prog (callFunc 29 args) w = .ok (.enter 29 args) w := fun _ _ => by kernel_rfl
theorem ent_few39_1 : ∀ (args : Array Value) (w : World), Sem.run Tryz.prog (callFunc 27 args) w = .ok (.enter 27 args) w := fun _ _ => by kernel_rfl
theorem few39_1_c (v : Value) (r : VRow) (a b : Int) (w : World) (hs : IsVals w v r) : Calls Tryz.prog 27 #[.agg #[v, .int .i64 a, .int .i64 b]] w (Ret w (.bool (bigF (r, (a, b))))) := by
  obtain ⟨A, c, rfl, hnc, hc⟩ := hs.form
  have hb := (Below.refl w.heap.size w).alloc (Nat.le_refl _) (.cells #[.slice A r.length c, .int .i64 a, .int .i64 b] 49)
  have K := Lib.hid (slContainsVP bigS 29 #[] ent_few39_11 (.slice A r.length c) r _ (hs.below hb) fun X i hX hi => few39_11_c (va r i).1 (va r i).2.1 (va r i).2.2 X)
  have HB := Lib.hid hb
  unfold bigF
  have h2 : decide (10 < r.length) = decide ((10 : Int) < (r.length : Int)) := by rw [decide_eq_decide]; omega
  simp only
  rw [h2]
  clear h2 hb
  cases h : decide ((10 : Int) < (r.length : Int))
  · go_enter Tryz.func27, Tryz.ntmps27
    go_wp2_with fail
    refine K.out.mono ?_
    rintro e w2 ⟨rfl, hb2⟩
    have hb3 := HB.out.trans (hb2.mono HB.out.size)
    clear hb2
    go_wp2_with fail
    go_ret
    exact ⟨rfl, hb3⟩
  · go_enter Tryz.func27, Tryz.ntmps27
    go_wp2_with fail
    go_ret
    exact ⟨rfl, HB.out⟩
theorem few39_c (v : Value) (F : List Fct) (w : World) (hs : IsFs w v F) : Calls Tryz.prog 9 #[v] w (Ret w (.bool (fewF F))) := by
  obtain ⟨S, hs⟩ := hs
  obtain ⟨A, c, rfl, hnc, hc⟩ := hs.form
  have K := Lib.hid (slContainsFP bigF 27 #[] ent_few39_1 (.slice A F.length c) F S w hs fun X i hX hi => few39_1_c (S i) (fc F i).1 (fc F i).2.1 (fc F i).2.2 X ((hs.below hX).2 i hi))
  unfold fewF
  have h2 : decide (F.length ≤ 16) = decide ((F.length : Int) ≤ 16) := by rw [decide_eq_decide]; omega
  rw [h2]
  clear h2
  cases h : decide ((F.length : Int) ≤ 16)
  · go_enter Tryz.func9, Tryz.ntmps9
    go_wp2_with fail
    go_ret
    exact ⟨rfl, Below.refl _ _⟩
  · go_enter Tryz.func9, Tryz.ntmps9
    go_wp2_with fail
    refine K.out.mono ?_
    rintro e w2 ⟨rfl, hb2⟩
    have Hb2 := Lib.hid hb2
    clear hb2
    go_wp2_with fail
    go_ret
    exact ⟨rfl, Hb2.out⟩
/-! ### the reference's validity -/
theorem r39Span_c (s : Sp) (w : World) : Calls Tryz.prog 53 #[.agg #[.int .i64 s.1, .int .i64 s.2]] w (Ret w (.bool (spT s))) := by
  obtain ⟨a, b⟩ := s
  unfold spT
  simp only
  cases h1 : decide (-62135596800 ≤ a) <;> cases h2 : decide (a < b) <;> cases h3 : decide (b ≤ 253402300800)
  all_goals
    have hb := (Below.refl w.heap.size w).alloc (Nat.le_refl _) (.cells #[.int .i64 a, .int .i64 b] 34)
    have Hb := Lib.hid hb; clear hb
    go_enter Tryz.func53, Tryz.ntmps53
    go_wp2_with fail
    go_ret
    exact ⟨rfl, Hb.out⟩
end Go.Proofs.YtohjgegnamcnlaaGreat
