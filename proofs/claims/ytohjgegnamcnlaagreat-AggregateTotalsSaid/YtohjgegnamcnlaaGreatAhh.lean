/- Law 39: IndexFunc and ContainsFunc at values, facts and rows, with any closure. -/
import Derived.Test.YtohjgegnamcnlaaGreatAhg
namespace Go.Proofs.YtohjgegnamcnlaaGreat
open Go.RowKit Go.Shelf

def IdxPRet (z : Bool) (w : World) (e : Ending) (w' : World) : Prop := ∃ r : Int, e = .returned (.int .i64 r) ∧ decide (0 ≤ r) = z ∧ Below w.heap.size w w'
set_option maxRecDepth 100000 in
theorem slIndexVP (p : Val → Bool) (f : FuncId) (caps : Array Value) (eg : ∀ (args : Array Value) (w : World), Sem.run Tryz.prog (callFunc f args) w = .ok (.enter f args) w) (v : Value) (l : VRow) (w : World) (hs : IsVals w v l)
    (hf : ∀ X i, Below w.heap.size w X → i < l.length → Calls Tryz.prog f (#[encV (va l i)] ++ caps) X (Ret X (.bool (p (va l i))))) : Calls Tryz.prog 68 #[v, .func (.func f) #[] caps] w (IdxPRet (l.any p) w) := by
  obtain ⟨A, c, rfl, hnc, hc⟩ := hs.form
  have HF := Lib.hid hf
  clear hf
  go_enter Tryz.func68, Tryz.ntmps68
  go_wp2_with fail
  go_loopw [8] (fun i wr => ∃ k : Nat, i = .int .i64 k ∧ k ≤ l.length ∧ Hid (∀ j, j < k → p (va l j) = false) ∧ Below w.heap.size w wr) (fun i _ => l.length - (intOf i).toNat)
  case atStart => exact ⟨0, rfl, Nat.zero_le _, Lib.hid (fun j hj => absurd hj (by omega)), Below.refl _ _⟩
  case round =>
    obtain ⟨k, rfl, hk, HA, hb⟩ := hrel
    rename World => wr
    by_cases hlt : k < l.length
    · obtain ⟨b, off, rfl, hbk⟩ := hs.addr (by omega)
      have c0 := (hs.below hb).c0 k hlt
      have c1 := (hs.below hb).c1 k hlt
      have c2 := (hs.below hb).c2 k hlt
      have hcall := HF.out wr k hb hlt
      have hfd : p (va l k) = true → l.any p = true := fun h => List.any_eq_true.2 ⟨_, va_mem hlt, h⟩
      have hst : p (va l k) = false → ∀ j, j < k + 1 → p (va l j) = false := fun h j hj => by
        rcases Nat.eq_or_lt_of_le (show j ≤ k by omega) with e | e
        · rw [e]; exact h
        · exact HA.out j e
      generalize p (va l k) = z at hcall hfd hst
      have Hlt := Lib.hid hlt; have Hb := Lib.hid hb
      clear hb hbk
      cases z
      · have Hcall := Lib.hid hcall
        have Hst := Lib.hid (hst rfl)
        clear hcall hst hfd
        go_wp2_with fail
        refine Hcall.out.mono ?_
        rintro e w2 ⟨rfl, hb2⟩
        have Hb3 := Lib.hid (Hb.out.trans (hb2.mono Hb.out.size))
        clear hb2
        go_wp2_with fail
        go_roundw
        case rel => exact ⟨k + 1, by go_num, Hlt.out, Hst, Hb3.out⟩
        case measure => have := Hlt.out; simp [intOf]; omega
      · have Hcall := Lib.hid hcall
        have Hfd := Lib.hid (hfd rfl)
        clear hcall hst hfd
        go_wp2_with fail
        refine Hcall.out.mono ?_
        rintro e w2 ⟨rfl, hb2⟩
        have Hb3 := Lib.hid (Hb.out.trans (hb2.mono Hb.out.size))
        clear hb2
        go_wp2_with fail
        go_ret
        exact ⟨(k : Int), rfl, by rw [Hfd.out]; exact decide_eq_true (by omega), Hb3.out⟩
    · obtain rfl : k = l.length := by omega
      have Hr : Hid (l.any p = false) := Lib.hid (by
        rw [List.any_eq_false]
        intro x hx
        obtain ⟨i, hi, rfl⟩ := List.getElem_of_mem hx
        rw [va_at hi, HA.out i hi]
        decide)
      clear HA
      go_wp2_with fail
      go_ret
      exact ⟨-1, rfl, by rw [Hr.out]; rfl, hb⟩
theorem slContainsVP (p : Val → Bool) (f : FuncId) (caps : Array Value) (eg : ∀ (args : Array Value) (w : World), Sem.run Tryz.prog (callFunc f args) w = .ok (.enter f args) w) (v : Value) (l : VRow) (w : World) (hs : IsVals w v l)
    (hf : ∀ X i, Below w.heap.size w X → i < l.length → Calls Tryz.prog f (#[encV (va l i)] ++ caps) X (Ret X (.bool (p (va l i))))) : Calls Tryz.prog 28 #[v, .func (.func f) #[] caps] w (Ret w (.bool (l.any p))) := by
  have K := Lib.hid (slIndexVP p f caps eg v l w hs hf)
  obtain ⟨A, c, rfl, _, _⟩ := hs.form
  clear hs hf
  generalize l.any p = z at K ⊢
  go_enter Tryz.func28, Tryz.ntmps28
  go_wp2_with fail
  refine K.out.mono ?_
  rintro e w1 ⟨r, rfl, hr, hb⟩
  have Hr := Lib.hid hr; have Hb := Lib.hid hb
  clear hr hb
  go_wp2_with fail
  go_ret
  exact ⟨by rw [← Hr.out]; rfl, Hb.out⟩
set_option maxRecDepth 100000 in
theorem slIndexFP (p : Fct → Bool) (f : FuncId) (caps : Array Value) (eg : ∀ (args : Array Value) (w : World), Sem.run Tryz.prog (callFunc f args) w = .ok (.enter f args) w) (v : Value) (l : List Fct) (S : Nat → Value) (w : World) (hs : FsIn w v l S)
    (hf : ∀ X i, Below w.heap.size w X → i < l.length → Calls Tryz.prog f (#[.agg #[S i, .int .i64 (fc l i).2.1, .int .i64 (fc l i).2.2]] ++ caps) X (Ret X (.bool (p (fc l i))))) : Calls Tryz.prog 67 #[v, .func (.func f) #[] caps] w (IdxPRet (l.any p) w) := by
  obtain ⟨A, c, rfl, hnc, hc⟩ := hs.form
  have HF := Lib.hid hf
  clear hf
  go_enter Tryz.func67, Tryz.ntmps67
  go_wp2_with fail
  go_loopw [8] (fun i wr => ∃ k : Nat, i = .int .i64 k ∧ k ≤ l.length ∧ Hid (∀ j, j < k → p (fc l j) = false) ∧ Below w.heap.size w wr) (fun i _ => l.length - (intOf i).toNat)
  case atStart => exact ⟨0, rfl, Nat.zero_le _, Lib.hid (fun j hj => absurd hj (by omega)), Below.refl _ _⟩
  case round =>
    obtain ⟨k, rfl, hk, HA, hb⟩ := hrel
    rename World => wr
    by_cases hlt : k < l.length
    · obtain ⟨b, off, rfl, hbk⟩ := hs.addr (by omega)
      have c0 := (hs.below hb).c0 k hlt
      have c1 := (hs.below hb).c1 k hlt
      have c2 := (hs.below hb).c2 k hlt
      obtain ⟨As, cs, hSk, _, _⟩ := (hs.2 k hlt).form
      rw [hSk] at c0
      have HF := Lib.hid (HF.out wr k hb hlt)
      rw [hSk] at HF
      have hcall := HF.out
      have hfd : p (fc l k) = true → l.any p = true := fun h => List.any_eq_true.2 ⟨_, fc_mem hlt, h⟩
      have hst : p (fc l k) = false → ∀ j, j < k + 1 → p (fc l j) = false := fun h j hj => by
        rcases Nat.eq_or_lt_of_le (show j ≤ k by omega) with e | e
        · rw [e]; exact h
        · exact HA.out j e
      generalize p (fc l k) = z at hcall hfd hst
      have Hlt := Lib.hid hlt; have Hb := Lib.hid hb
      clear hb hbk hSk
      cases z
      · have Hcall := Lib.hid hcall
        have Hst := Lib.hid (hst rfl)
        clear hcall hst hfd
        go_wp2_with fail
        refine Hcall.out.mono ?_
        rintro e w2 ⟨rfl, hb2⟩
        have Hb3 := Lib.hid (Hb.out.trans (hb2.mono Hb.out.size))
        clear hb2
        go_wp2_with fail
        go_roundw
        case rel => exact ⟨k + 1, by go_num, Hlt.out, Hst, Hb3.out⟩
        case measure => have := Hlt.out; simp [intOf]; omega
      · have Hcall := Lib.hid hcall
        have Hfd := Lib.hid (hfd rfl)
        clear hcall hst hfd
        go_wp2_with fail
        refine Hcall.out.mono ?_
        rintro e w2 ⟨rfl, hb2⟩
        have Hb3 := Lib.hid (Hb.out.trans (hb2.mono Hb.out.size))
        clear hb2
        go_wp2_with fail
        go_ret
        exact ⟨(k : Int), rfl, by rw [Hfd.out]; exact decide_eq_true (by omega), Hb3.out⟩
    · obtain rfl : k = l.length := by omega
      have Hr : Hid (l.any p = false) := Lib.hid (by
        rw [List.any_eq_false]
        intro x hx
        obtain ⟨i, hi, rfl⟩ := List.getElem_of_mem hx
        rw [fc_at hi, HA.out i hi]
        decide)
      clear HA
      go_wp2_with fail
      go_ret
      exact ⟨-1, rfl, by rw [Hr.out]; rfl, hb⟩
theorem slContainsFP (p : Fct → Bool) (f : FuncId) (caps : Array Value) (eg : ∀ (args : Array Value) (w : World), Sem.run Tryz.prog (callFunc f args) w = .ok (.enter f args) w) (v : Value) (l : List Fct) (S : Nat → Value) (w : World) (hs : FsIn w v l S)
    (hf : ∀ X i, Below w.heap.size w X → i < l.length → Calls Tryz.prog f (#[.agg #[S i, .int .i64 (fc l i).2.1, .int .i64 (fc l i).2.2]] ++ caps) X (Ret X (.bool (p (fc l i))))) : Calls Tryz.prog 26 #[v, .func (.func f) #[] caps] w (Ret w (.bool (l.any p))) := by
  have K := Lib.hid (slIndexFP p f caps eg v l S w hs hf)
  obtain ⟨A, c, rfl, _, _⟩ := hs.form
  clear hs hf
  generalize l.any p = z at K ⊢
  go_enter Tryz.func26, Tryz.ntmps26
  go_wp2_with fail
  refine K.out.mono ?_
  rintro e w1 ⟨r, rfl, hr, hb⟩
  have Hr := Lib.hid hr; have Hb := Lib.hid hb
  clear hr hb
  go_wp2_with fail
  go_ret
  exact ⟨by rw [← Hr.out]; rfl, Hb.out⟩
set_option maxRecDepth 100000 in
theorem slIndexRP (p : VRow → Bool) (f : FuncId) (caps : Array Value) (eg : ∀ (args : Array Value) (w : World), Sem.run Tryz.prog (callFunc f args) w = .ok (.enter f args) w) (v : Value) (l : List VRow) (S : Nat → Value) (w : World) (hs : RvIn w v l S)
    (hf : ∀ X i, Below w.heap.size w X → i < l.length → Calls Tryz.prog f (#[S i] ++ caps) X (Ret X (.bool (p (vr l i))))) : Calls Tryz.prog 93 #[v, .func (.func f) #[] caps] w (IdxPRet (l.any p) w) := by
  obtain ⟨A, c, rfl, hnc, hc⟩ := hs.form
  have HF := Lib.hid hf
  clear hf
  go_enter Tryz.func93, Tryz.ntmps93
  go_wp2_with fail
  go_loopw [8] (fun i wr => ∃ k : Nat, i = .int .i64 k ∧ k ≤ l.length ∧ Hid (∀ j, j < k → p (vr l j) = false) ∧ Below w.heap.size w wr) (fun i _ => l.length - (intOf i).toNat)
  case atStart => exact ⟨0, rfl, Nat.zero_le _, Lib.hid (fun j hj => absurd hj (by omega)), Below.refl _ _⟩
  case round =>
    obtain ⟨k, rfl, hk, HA, hb⟩ := hrel
    rename World => wr
    by_cases hlt : k < l.length
    · obtain ⟨b, off, rfl, hbk⟩ := hs.addr (by omega)
      have c0 := (hs.below hb).cell k hlt
      obtain ⟨As, cs, hSk, _, _⟩ := (hs.2 k hlt).form
      rw [hSk] at c0
      have HF := Lib.hid (HF.out wr k hb hlt)
      rw [hSk] at HF
      have hcall := HF.out
      have hfd : p (vr l k) = true → l.any p = true := fun h => List.any_eq_true.2 ⟨_, vr_mem hlt, h⟩
      have hst : p (vr l k) = false → ∀ j, j < k + 1 → p (vr l j) = false := fun h j hj => by
        rcases Nat.eq_or_lt_of_le (show j ≤ k by omega) with e | e
        · rw [e]; exact h
        · exact HA.out j e
      generalize p (vr l k) = z at hcall hfd hst
      have Hlt := Lib.hid hlt; have Hb := Lib.hid hb
      clear hb hbk hSk
      cases z
      · have Hcall := Lib.hid hcall
        have Hst := Lib.hid (hst rfl)
        clear hcall hst hfd
        go_wp2_with fail
        refine Hcall.out.mono ?_
        rintro e w2 ⟨rfl, hb2⟩
        have Hb3 := Lib.hid (Hb.out.trans (hb2.mono Hb.out.size))
        clear hb2
        go_wp2_with fail
        go_roundw
        case rel => exact ⟨k + 1, by go_num, Hlt.out, Hst, Hb3.out⟩
        case measure => have := Hlt.out; simp [intOf]; omega
      · have Hcall := Lib.hid hcall
        have Hfd := Lib.hid (hfd rfl)
        clear hcall hst hfd
        go_wp2_with fail
        refine Hcall.out.mono ?_
        rintro e w2 ⟨rfl, hb2⟩
        have Hb3 := Lib.hid (Hb.out.trans (hb2.mono Hb.out.size))
        clear hb2
        go_wp2_with fail
        go_ret
        exact ⟨(k : Int), rfl, by rw [Hfd.out]; exact decide_eq_true (by omega), Hb3.out⟩
    · obtain rfl : k = l.length := by omega
      have Hr : Hid (l.any p = false) := Lib.hid (by
        rw [List.any_eq_false]
        intro x hx
        obtain ⟨i, hi, rfl⟩ := List.getElem_of_mem hx
        rw [vr_at hi, HA.out i hi]
        decide)
      clear HA
      go_wp2_with fail
      go_ret
      exact ⟨-1, rfl, by rw [Hr.out]; rfl, hb⟩
theorem slContainsRP (p : VRow → Bool) (f : FuncId) (caps : Array Value) (eg : ∀ (args : Array Value) (w : World), Sem.run Tryz.prog (callFunc f args) w = .ok (.enter f args) w) (v : Value) (l : List VRow) (S : Nat → Value) (w : World) (hs : RvIn w v l S)
    (hf : ∀ X i, Below w.heap.size w X → i < l.length → Calls Tryz.prog f (#[S i] ++ caps) X (Ret X (.bool (p (vr l i))))) : Calls Tryz.prog 61 #[v, .func (.func f) #[] caps] w (Ret w (.bool (l.any p))) := by
  have K := Lib.hid (slIndexRP p f caps eg v l S w hs hf)
  obtain ⟨A, c, rfl, _, _⟩ := hs.form
  clear hs hf
  generalize l.any p = z at K ⊢
  go_enter Tryz.func61, Tryz.ntmps61
  go_wp2_with fail
  refine K.out.mono ?_
  rintro e w1 ⟨r, rfl, hr, hb⟩
  have Hr := Lib.hid hr; have Hb := Lib.hid hb
  clear hr hb
  go_wp2_with fail
  go_ret
  exact ⟨by rw [← Hr.out]; rfl, Hb.out⟩
end Go.Proofs.YtohjgegnamcnlaaGreat
