/- Law 47: the law's test for few choices; interval.Has; whether times satisfy choices. -/
import Derived.Test.YtcppcfinnbeboaaGreatDjA
namespace Go.Proofs.YtcppcfinnbeboaaGreat
open Go.RowKit Go.Shelf

theorem few47_1_c (a b : Int) (u : Value) (sp : List Sp) (w : World) (hs : IsSpans w u sp) : Calls Tryz.prog 36 #[.agg #[.int .i64 a, .int .i64 b, u]] w (Ret w (.bool (decide ((20 : Int) < (sp.length : Int))))) := by
  obtain ⟨A, c, rfl, _, _⟩ := hs.form
  have hb1 := (Below.refl w.heap.size w).alloc (Nat.le_refl _) (.cells #[.int .i64 a, .int .i64 b, .slice A sp.length c] 31)
  clear hs
  go_enter Tryz.func36, Tryz.ntmps36
  go_wp2_with fail
  go_ret
  exact ⟨rfl, hb1⟩
theorem ent_few47_1 : ∀ (args : Array Value) (w : World), Sem.run Tryz.prog (callFunc 36 args) w = .ok (.enter 36 args) w := fun _ _ => by kernel_rfl
def manyB (c : Cho) : Bool := decide ((20 : Int) < (c.2.2.length : Int))
theorem any_yes47 {α : Type} {l : List α} {p : α → Bool} {f : Nat → α} (hf : ∀ i (h : i < l.length), l[i] = f i) {i : Nat} (hi : i < l.length) (h : p (f i) = true) : l.any p = true := by
  rw [List.any_eq_true]
  exact ⟨_, List.getElem_mem hi, by rw [hf i hi]; exact h⟩
theorem any_no47 {α : Type} {l : List α} {p : α → Bool} {f : Nat → α} (hf : ∀ i (h : i < l.length), l[i] = f i) (h : ∀ i, i < l.length → p (f i) = false) : l.any p = false := by
  rw [Bool.eq_false_iff]
  intro h2
  obtain ⟨x, hx, hp⟩ := List.any_eq_true.1 h2
  obtain ⟨i, hi, rfl⟩ := List.getElem_of_mem hx
  rw [hf i hi, h i hi] at hp
  cases hp
def IdxCh (L : List Cho) (r : Int) : Prop := (r = -1 ∧ L.any manyB = false) ∨ ∃ i : Nat, r = i ∧ L.any manyB = true
def IdxChRet (L : List Cho) (w : World) (e : Ending) (w' : World) : Prop := ∃ r, IdxCh L r ∧ e = .returned (.int .i64 r) ∧ Below w.heap.size w w'
set_option maxRecDepth 100000 in
theorem slIndexChoice_c (v : Value) (L : List Cho) (w : World) (hs : IsChos w v L) : Calls Tryz.prog 56 #[v, .func (.func 36) #[] #[]] w (IdxChRet L w) := by
  obtain ⟨S, hs⟩ := hs
  obtain ⟨A, c, rfl, hnc, hc⟩ := hs.form
  go_enter Tryz.func56, Tryz.ntmps56
  go_wp2
  go_loopw [8] (fun i wr => ∃ k : Nat, i = .int .i64 k ∧ k ≤ L.length ∧ Hid (∀ j, j < k → manyB (cho L j) = false) ∧ Below w.heap.size w wr) (fun i _ => L.length - (intOf i).toNat)
  case atStart => exact ⟨0, rfl, Nat.zero_le _, Lib.hid (fun j hj => absurd hj (by omega)), Below.refl _ _⟩
  case round =>
    obtain ⟨k, rfl, hk, HA, hb⟩ := hrel
    by_cases hlt : k < L.length
    · obtain ⟨b, off, rfl, hbk⟩ := hs.addr (by omega)
      have c0 := (hs.below hb).c0 k hlt
      have c1 := (hs.below hb).c1 k hlt
      have c2 := (hs.below hb).c2 k hlt
      have hcall := few47_1_c (cho L k).1 (cho L k).2.1 (S k) (cho L k).2.2 wr ((hs.below hb).2 k hlt)
      obtain ⟨A1, n1, hSk, _, _⟩ := ((hs.below hb).2 k hlt).form
      rw [hSk] at c2 hcall
      have hfd : manyB (cho L k) = true → IdxCh L (k : Int) := fun h => .inr ⟨k, rfl, any_yes47 (fun i h => cho_at h) hlt h⟩
      have hst : manyB (cho L k) = false → ∀ j, j < k + 1 → manyB (cho L j) = false := fun h j hj => by
        rcases Nat.eq_or_lt_of_le (show j ≤ k by omega) with e | e
        · rw [e]; exact h
        · exact HA.out j e
      have hmb : manyB (cho L k) = decide ((20 : Int) < ((cho L k).2.2.length : Int)) := rfl
      rw [← hmb] at hcall
      clear hSk hmb
      generalize manyB (cho L k) = d at *
      generalize cho L k = y at *
      cases hd : d
      · rw [hd] at hcall
        have Hcall := Lib.hid hcall
        have Hst := Lib.hid (hst hd)
        clear hcall hst hfd hd
        go_wp2_with fail
        refine Hcall.out.mono ?_
        rintro e w2 ⟨rfl, hb2⟩
        have hb3 := hb.trans (hb2.mono hb.size)
        go_wp2
        go_roundw
        case rel => exact ⟨k + 1, by go_num, by omega, Hst, hb3⟩
        case measure => simp [intOf]; omega
      · rw [hd] at hcall
        have Hcall := Lib.hid hcall
        have Hfd := Lib.hid (hfd hd)
        clear hcall hst hfd hd
        go_wp2_with fail
        refine Hcall.out.mono ?_
        rintro e w2 ⟨rfl, hb2⟩
        have hb3 := hb.trans (hb2.mono hb.size)
        go_wp2
        go_ret
        exact ⟨_, Hfd.out, rfl, hb3⟩
    · obtain rfl : k = L.length := by omega
      have Hr : Hid (IdxCh L (-1)) := .inl ⟨rfl, any_no47 (fun i h => cho_at h) HA.out⟩
      clear HA
      go_wp2
      go_ret
      exact ⟨_, Hr.out, rfl, hb⟩
theorem slContainsChoice_c (v : Value) (L : List Cho) (w : World) (hs : IsChos w v L) : Calls Tryz.prog 35 #[v, .func (.func 36) #[] #[]] w (Ret w (.bool (L.any manyB))) := by
  have K := Lib.hid (slIndexChoice_c v L w hs)
  clear hs
  cases q : L.any manyB
  all_goals
    have Q := Lib.hid q; clear q
    go_enter Tryz.func35, Tryz.ntmps35
    go_wp2_with fail
    refine K.out.mono ?_
    rintro e w1 ⟨r, hr, rfl, hb⟩
    rcases hr with ⟨rfl, h⟩ | ⟨i, rfl, h⟩
    all_goals first
      | exact absurd (h.symm.trans Q.out) (by decide)
      | (have i0 : decide ((0 : Int) ≤ (i : Int)) = true := decide_eq_true (by omega)
         clear h
         go_wp2_with fail
         go_ret
         exact ⟨rfl, hb⟩)
      | (clear h
         go_wp2_with fail
         go_ret
         exact ⟨rfl, hb⟩)
def fewB (L : List Cho) : Bool := decide ((L.length : Int) ≤ 65) && !L.any manyB
theorem few47_c (v : Value) (L : List Cho) (w : World) (hs : IsChos w v L) : Calls Tryz.prog 17 #[v] w (Ret w (.bool (fewB L))) := by
  have K := Lib.hid (slContainsChoice_c v L w hs)
  obtain ⟨S, hs⟩ := hs
  obtain ⟨A, c, rfl, hnc, hc⟩ := hs.form
  clear hs
  unfold fewB
  cases q0 : decide ((L.length : Int) ≤ 65)
  · go_enter Tryz.func17, Tryz.ntmps17
    go_wp2_with fail
    go_ret
    exact ⟨by simp, Below.refl _ _⟩
  cases q1 : L.any manyB
  all_goals
    rw [q1] at K
    go_enter Tryz.func17, Tryz.ntmps17
    go_wp2_with fail
    refine K.out.mono ?_
    rintro e w1 ⟨rfl, hb⟩
    go_wp2_with fail
    go_ret
    exact ⟨by simp, hb⟩
theorem ivHas47_c (p q x : Int) (w : World) (ho : okSpan (p, q) = true) : Calls Tryz.prog 69 #[.agg #[.int .i64 p, .int .i64 q], .int .i64 x] w (Ret w (.bool (decide (p ≤ x) && decide (x < q)))) := by
  have hb1 := (Below.refl w.heap.size w).alloc (Nat.le_refl _) (.cells #[.int .i64 p, .int .i64 q] 48)
  have hT := heap_alloc_new w (.cells #[.int .i64 p, .int .i64 q] 48)
  have KV : Hid (∀ W, Calls Tryz.prog 61 #[.agg #[.int .i64 p, .int .i64 q]] W (Ret W (.bool true))) := Lib.hid fun W => by have := ivValid_c p q W; rwa [ho] at this
  have HT := Lib.hid hT; have Hb1 := Lib.hid hb1
  clear ho hb1 hT
  cases h1 : decide (p ≤ x) <;> cases h2 : decide (x < q)
  all_goals
    go_enter Tryz.func69, Tryz.ntmps69
    go_wp2_with fail
    refine (KV.out _).mono ?_
    rintro e w1 ⟨rfl, hb⟩
    have hT := (hb.block _ (blk_lt HT.out)).trans HT.out
    have t0 := blk_get hT 0
    have t1 := blk_get hT 1
    simp at t0 t1
    have HB := Lib.hid (Hb1.out.trans (hb.mono Hb1.out.size))
    clear hT hb
    go_wp2_with fail
    go_ret
    exact ⟨rfl, HB.out⟩
end Go.Proofs.YtcppcfinnbeboaaGreat
