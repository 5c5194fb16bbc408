/- Law 42: the entries of a tree, as the law and the reference give them; slices.Equal on lists of entries. -/
import Derived.Test.YtgdcgdjlhljbiaaGreat42
namespace Go.Proofs.Ytgdcgdjlhljbiaa
open Go.RowKit

def sameE (x y : En) : Bool := x.1 == y.1 && x.2.1 == y.2.1 && x.2.2 == y.2.2
theorem sameE_iff (x y : En) : sameE x y = true ↔ x = y := by
  obtain ⟨a, b, c⟩ := x
  obtain ⟨d, e, f⟩ := y
  simp [sameE, and_assoc]
theorem ent_neq (a b c d e f : Int) (w : World) : (binOp .neq 39 (.agg #[.int .i64 a, .int .i64 b, .int .i64 c]) (.agg #[.int .i64 d, .int .i64 e, .int .i64 f])).run Try.prog w = .ok (.bool (!sameE (a, b, c) (d, e, f))) w := by
  rw [run_neq_struct]
  unfold sameE
  cases h1 : a == d <;> cases h2 : b == e <;> cases h3 : c == f <;> simp [go_sem, h1, h2, h3]
theorem ent_eql (a b c d e f : Int) (w : World) : (binOp .eql 39 (.agg #[.int .i64 a, .int .i64 b, .int .i64 c]) (.agg #[.int .i64 d, .int .i64 e, .int .i64 f])).run Try.prog w = .ok (.bool (sameE (a, b, c) (d, e, f))) w := by
  rw [run_eql_struct]
  unfold sameE
  cases h1 : a == d <;> cases h2 : b == e <;> cases h3 : c == f <;> simp [go_sem, h1, h2, h3]
attribute [local go_sem ↓] ent_neq

def sameEL (a b : List En) : Bool := decide (a = b)
theorem sameEL_of {a b : List En} (hl : a.length = b.length) (h : ∀ i, i < a.length → en a i = en b i) : sameEL a b = true := by
  refine decide_eq_true (List.ext_getElem hl fun i h1 h2 => ?_)
  rw [en_at h1, en_at h2, h i h1]
theorem sameEL_ne {a b : List En} {k : Nat} (h : en a k ≠ en b k) : sameEL a b = false := decide_eq_false fun e => h (by rw [e])
set_option maxRecDepth 100000 in
theorem slEqualEntry_c (v1 v2 : Value) (a b : List En) (w : World) (h1 : IsEnts w v1 a) (h2 : IsEnts w v2 b) : Calls Try.prog 23 #[v1, v2] w (Ret w (.bool (sameEL a b))) := by
  obtain ⟨A, c, rfl, hnc, hc⟩ := h1.form
  obtain ⟨B, d, rfl, hnd, hd⟩ := h2.form
  by_cases hl : a.length = b.length
  · have hle : ((a.length : Int) == (b.length : Int)) = true := by rw [beq_iff_eq]; omega
    have hle' : ((a.length : Int) != (b.length : Int)) = false := by rw [bne, hle]; rfl
    have HL := Lib.hid hl
    have hl1 : a.length ≤ b.length := by omega
    have hl2 : b.length ≤ a.length := by omega
    clear hl
    go_enter Try.func23, Try.ntmps23
    go_wp2
    go_loopw [13] (fun i wr => ∃ k : Nat, k ≤ a.length ∧ i = .int .i64 k ∧ Hid (∀ j, j < k → en a j = en b j) ∧ Below w.heap.size w wr) (fun i _ => a.length - (intOf i).toNat)
    case atStart => exact ⟨0, Nat.zero_le _, rfl, fun j hj => absurd hj (by omega), Below.refl _ _⟩
    case round =>
      obtain ⟨k, hk, rfl, Hs, hb⟩ := hrel
      by_cases hlt : k < a.length
      · obtain ⟨g, off, rfl, hbk⟩ := h1.addr (by omega)
        obtain ⟨g', off', rfl, hbk'⟩ := h2.addr (by omega)
        go_wp2
        have e0 := fun x : BW wr => ((h1.below hb).below x.2).c0 k hlt
        have e1 := fun x : BW wr => ((h1.below hb).below x.2).c1 k hlt
        have e2 := fun x : BW wr => ((h1.below hb).below x.2).c2 k hlt
        have e3 := fun x : BW wr => ((h2.below hb).below x.2).c0 k (by omega)
        have e4 := fun x : BW wr => ((h2.below hb).below x.2).c1 k (by omega)
        have e5 := fun x : BW wr => ((h2.below hb).below x.2).c2 k (by omega)
        cases hq : sameE ((en a k).1, (en a k).2.1, (en a k).2.2) ((en b k).1, (en b k).2.1, (en b k).2.2)
        all_goals
          refine wp_region_below (by kernel_rfl) (by kernel_rfl) ?_
          repeat (go_big_quiet_step (fail))
          refine wpQuiet_nil ?_
          rintro w2 ⟨⟨_, hb2⟩, rfl⟩
          have hb3 := hb.trans (hb2.mono hb.size)
          have Hq := Lib.hid hq
          clear e0 e1 e2 e3 e4 e5 hq
        · go_wp2
          go_ret
          refine ⟨ret_bool (sameEL_ne (k := k) fun e => ?_).symm, hb3⟩
          have h := Hq.out
          rw [e, (sameE_iff _ _).2 rfl] at h
          cases h
        · have Hn : Hid (∀ j, j < k + 1 → en a j = en b j) := Lib.hid fun j hj => by
            rcases Nat.lt_succ_iff_lt_or_eq.1 hj with h | rfl
            · exact Hs.out j h
            · exact (sameE_iff _ _).1 Hq.out
          clear Hs Hq
          go_wp2
          go_roundw
          case rel => exact ⟨k + 1, by omega, by go_num, Hn, hb3⟩
          case measure => simp [intOf]; omega
      · obtain rfl : k = a.length := by omega
        go_wp2
        go_ret
        exact ⟨ret_bool (sameEL_of HL.out Hs.out).symm, hb⟩
  · have hres : sameEL a b = false := decide_eq_false fun e => hl (by rw [e])
    rw [hres]
    clear hres
    have hle : ((a.length : Int) == (b.length : Int)) = false := by rw [beq_eq_false_iff_ne]; omega
    have hle' : ((a.length : Int) != (b.length : Int)) = true := by rw [bne, hle]; rfl
    clear hl
    go_enter Try.func23, Try.ntmps23
    go_wp2
    go_ret
    exact ⟨rfl, Below.refl _ _⟩

/-! ### the entries of a valid tree, as the reference and the law give them -/
set_option maxRecDepth 100000 in
theorem r42Entries_c {N : List Nd} {root : Int} (ht : treeB N root = true) (v : Value) (w : World) (hs : IsNodes w v N) : Calls Try.prog 29 #[.agg #[v, .int .i64 root]] w (EntsRet 39 w.heap.size w w (entsT N root)) := by
  obtain ⟨h1, h2⟩ := treeB_valid ht
  obtain ⟨L, hh, m, hsub, _, e1, e2⟩ := entsT_spec h2
  rw [e2]
  obtain ⟨A, c, rfl, hnc, hc⟩ := hs.form
  have hb1 := (Below.refl w.heap.size w).alloc (Nat.le_refl _) (.cells #[.slice A N.length c, .int .i64 root] 24)
  have H := r42walk_c hsub _ _ root (hs.below hb1) (by omega)
  have Hw := Lib.hid H; have Hb1 := Lib.hid hb1
  clear H hb1 ht h1 h2 e1 e2 hs
  go_enter Try.func29, Try.ntmps29
  go_wp2_with fail
  refine Hw.out.mono ?_
  rintro e w2 ⟨v2, rfl, ho, _, hb⟩
  go_wp2_with fail
  go_ret
  have hbF := Hb1.out.trans (hb.mono Hb1.out.size)
  exact ⟨_, rfl, ho.mono Hb1.out.size, hbF, hbF⟩
/-- What entries answers of a tree. -/
def EntsLaw (N : List Nd) (root : Int) (w : World) (e : Ending) (w' : World) : Prop :=
  ∃ v, e = .returned (.tuple #[v, .bool (treeB N root)]) ∧ (treeB N root = true → IsEnts w' v (entsT N root)) ∧ Below w.heap.size w w'
set_option maxRecDepth 100000 in
theorem entries42_c (v : Value) (root : Int) (N : List Nd) (w : World) (hs : IsNodes w v N) : Calls Try.prog 22 #[.agg #[v, .int .i64 root]] w (EntsLaw N root w) := by
  obtain ⟨A, c, rfl, hnc, hc⟩ := hs.form
  have hb1 := (Below.refl w.heap.size w).alloc (Nat.le_refl _) (.cells #[.slice A N.length c, .int .i64 root] 24)
  have hT := heap_alloc_new w (.cells #[.slice A N.length c, .int .i64 root] 24)
  unfold EntsLaw
  have Hs := Lib.hid hs; have Hb1 := Lib.hid hb1; have HT := Lib.hid hT
  clear hs hb1 hT
  cases ht : treeB N root
  all_goals
    have Ht := Lib.hid ht
    clear ht
    go_enter Try.func22, Try.ntmps22
    go_wp2_with fail
    have hb1 := Hb1.out; have hT := HT.out
    clear Hb1 HT
    generalize w.alloc (.cells #[.slice A N.length c, .int .i64 root] 24) = w1 at *
    have hv := r42Valid_c (.slice A N.length c) root N w1 (Hs.out.below hb1)
    rw [Ht.out] at hv
    refine hv.mono ?_
    clear hv
    rintro e w2 ⟨rfl, hb2⟩
    have hT2 := (hb2.block _ (lt_of_block hT)).trans hT
    have hb02 := hb1.trans (hb2.mono hb1.size)
    have t0 := blk_cell hT2 0
    have t1 := blk_cell hT2 1
    simp at t0 t1
    have Hb02 := Lib.hid hb02
    clear hb1 hb2 hT hT2 hb02
  · go_wp2_with fail
    go_ret2
    exact ⟨_, rfl, (fun h => by cases h), Hb02.out⟩
  · have H := r42Entries_c Ht.out (.slice A N.length c) w2 (Hs.out.below Hb02.out)
    have HH := Lib.hid H
    clear H
    go_wp2_with fail
    refine HH.out.mono ?_
    rintro e w3 ⟨v3, rfl, ho, _, hb⟩
    go_wp2_with fail
    go_ret2
    exact ⟨_, rfl, fun _ => ho.ents, Hb02.out.trans (hb.mono Hb02.out.size)⟩
def noneB (N : List Nd) (root : Int) : Bool := decide (N.length = 0) && decide (root = 0)
set_option maxRecDepth 100000 in
theorem none42_c (A : Option Addr) (n c : Nat) (root : Int) (w : World) (hn : n ≤ 1000000) : Calls Try.prog 20 #[.agg #[.slice A n c, .int .i64 root]] w (Ret w (.bool (decide (n = 0) && decide (root = 0)))) := by
  have hb1 := (Below.refl w.heap.size w).alloc (Nat.le_refl _) (.cells #[.slice A n c, .int .i64 root] 24)
  by_cases h1 : n = 0
  · subst h1
    by_cases h2 : root = 0
    · subst h2
      go_enter Try.func20, Try.ntmps20
      go_wp2_with fail
      go_ret
      exact ⟨rfl, hb1⟩
    · have c2 : (root == 0) = false := by simpa using h2
      rw [decide_eq_false h2]
      clear h2
      go_enter Try.func20, Try.ntmps20
      go_wp2_with fail
      go_ret
      exact ⟨rfl, hb1⟩
  · have c1 : ((n : Int) == 0) = false := by simpa using h1
    rw [decide_eq_false h1]
    clear h1
    go_enter Try.func20, Try.ntmps20
    go_wp2_with fail
    go_ret
    exact ⟨rfl, hb1⟩
end Go.Proofs.Ytgdcgdjlhljbiaa
