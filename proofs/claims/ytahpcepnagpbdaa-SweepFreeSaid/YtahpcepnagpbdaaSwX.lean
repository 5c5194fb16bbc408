/- sweep.Free and the reference's. -/
import Derived.Test.YtahpcepnagpbdaaSwW
import Derived.Test.YtahpcepnagpbdaaRunsZ
import Derived.Test.YtahpcepnagpbdaaSwS
namespace Go.Proofs.Ytahpcepnagpbdaa
open Go.RowKit Go.Shelf

def freeP (len : Int) (s : Sp) : Bool := decide (wrap64 (s.2 - s.1) < len)
theorem sFree1_c (p q len : Int) (g : Nat) (w : World) (hg : g < w.heap.size) (hs : w.cell? ⟨g, 0, none⟩ = some (.int .i64 len)) :
    Calls Try.prog 79 #[.agg #[.int .i64 p, .int .i64 q], .pointer (some ⟨g, 0, none⟩)] w (Ret w (.bool (freeP len (p, q)))) := by
  have hB0 := (Below.refl w.heap.size w).alloc (Nat.le_refl _) (.cells #[.int .i64 p, .int .i64 q] 31)
  have x0 : (w.alloc (.cells #[.int .i64 p, .int .i64 q] 31)).cell? ⟨w.heap.size, 0, none⟩ = some (.int .i64 p) := by simp
  have x1 : (w.alloc (.cells #[.int .i64 p, .int .i64 q] 31)).cell? ⟨w.heap.size, 1, none⟩ = some (.int .i64 q) := by simp
  have x4 := (hB0.cell (p := ⟨g, 0, none⟩) hg).trans hs
  obtain ⟨b, hb⟩ : ∃ b, b = freeP len (p, q) := ⟨_, rfl⟩
  rw [← hb]
  have Hb := Lib.hid hb
  clear hb
  go_enter Try.func79, Try.ntmps79
  go_wp2
  go_ret
  exact ⟨ret_bool (by rw [Hb.out]; exact rfl), hB0⟩
theorem pred_free {g : Nat} {len : Int} {w : World} (hg : g < w.heap.size) (hs : w.cell? ⟨g, 0, none⟩ = some (.int .i64 len)) : PredFn 79 #[.pointer (some ⟨g, 0, none⟩)] (freeP len) w :=
  ⟨fun _ _ => by kernel_rfl, fun W x y hb => sFree1_c x y len g W (Nat.lt_of_lt_of_le hg hb.size) ((hb.cell (p := ⟨g, 0, none⟩) hg).trans hs)⟩
def FreeOk (l : List Sp) (s : Sp) (len : Int) (r : List Sp) : Prop := ∃ U, IsOp gMinus [s] l U ∧ r = U.filter fun t => !freeP len t
theorem free_one {l : List Sp} {s : Sp} {len : Int} {r r' : List Sp} (h : FreeOk l s len r) (h' : FreeOk l s len r') : r = r' := by
  obtain ⟨U, hU, rfl⟩ := h
  obtain ⟨U', hU', rfl⟩ := h'
  rw [isOp_unique hU hU']
def FreeSpec (l : List Sp) (s : Sp) (len : Int) (r : List Sp) (k : Int) : Prop := if (rightB l && okSpan s) = true ∧ 1 ≤ len then FreeOk l s len r ∧ k = 0 else r = [] ∧ k = 1
theorem isOp_mem {l m : List Sp} {s : Sp} {U : List Sp} (h : IsOp gMinus [s] m U) (hm : ∀ x, mem m x = mem l x) : IsOp gMinus [s] l U := ⟨h.1, fun x => by rw [h.2 x, hm x]⟩

set_option maxRecDepth 100000 in
set_option maxHeartbeats 4000000 in
theorem sFree_c (v : Value) (l : List Sp) (p q len : Int) (w : World) (h1 : IsSpans w v l) (hl : l.length ≤ 60) : Calls Try.prog 37 #[v, .agg #[.int .i64 p, .int .i64 q], .int .i64 len] w (fun e w' => ∃ r k v', FreeSpec l (p, q) len r k ∧ e = .returned (.tuple #[v', .int .i64 k]) ∧ IsSpans w' v' r ∧ Below w.heap.size w w') := by
  obtain ⟨A, c, rfl, hnc, hc⟩ := h1.form
  have hB0 := ((Below.refl w.heap.size w).alloc (Nat.le_refl _) (.cells #[.int .i64 p, .int .i64 q] 31)).alloc (by simp) (.cells #[.int .i64 len] 3)
  have x0 : ((w.alloc (.cells #[.int .i64 p, .int .i64 q] 31)).alloc (.cells #[.int .i64 len] 3)).cell? ⟨w.heap.size, 0, none⟩ = some (.int .i64 p) := by simp
  have x1 : ((w.alloc (.cells #[.int .i64 p, .int .i64 q] 31)).alloc (.cells #[.int .i64 len] 3)).cell? ⟨w.heap.size, 1, none⟩ = some (.int .i64 q) := by simp
  have x2 : ((w.alloc (.cells #[.int .i64 p, .int .i64 q] 31)).alloc (.cells #[.int .i64 len] 3)).cell? ⟨w.heap.size + 1, 0, none⟩ = some (.int .i64 len) := by simp
  have hz : w.heap.size + 1 < ((w.alloc (.cells #[.int .i64 p, .int .i64 q] 31)).alloc (.cells #[.int .i64 len] 3)).heap.size := by simp
  have k1 := fun w' (h : Below w.heap.size w w') => sright_c _ l w' (h1.below h)
  have k2 := fun w' => ivValid_c p q w'
  have hno : ¬ ((rightB l && okSpan (p, q)) = true ∧ 1 ≤ len) → FreeSpec l (p, q) len [] 1 := fun h => by rw [FreeSpec, if_neg h]; exact ⟨rfl, rfl⟩
  cases hra : rightB l
  · rw [hra] at k1
    have K1 := Lib.hid k1
    have Hno := Lib.hid (hno (by rw [hra]; exact fun h => Bool.false_ne_true h.1))
    clear k1 k2 hno hra
    go_enter Try.func37, Try.ntmps37
    go_wp2_with fail
    generalize (w.alloc (.cells #[.int .i64 p, .int .i64 q] 31)).alloc (.cells #[.int .i64 len] 3) = w0 at *
    refine (K1.out _ hB0).mono ?_
    rintro e w1 ⟨rfl, hb⟩
    have hB := hB0.trans (hb.mono hB0.size)
    go_wp2
    go_ret2
    exact ⟨[], 1, _, Hno.out, rfl, IsSpans.nil, hB⟩
  · rw [hra] at k1
    have K1 := Lib.hid k1
    cases hro : okSpan (p, q)
    · rw [hro] at k2
      have K2 := Lib.hid k2
      have Hno := Lib.hid (hno (by rw [hra, hro]; exact fun h => Bool.false_ne_true h.1))
      clear k1 k2 hno hra hro
      go_enter Try.func37, Try.ntmps37
      go_wp2_with fail
      generalize (w.alloc (.cells #[.int .i64 p, .int .i64 q] 31)).alloc (.cells #[.int .i64 len] 3) = w0 at *
      refine (K1.out _ hB0).mono ?_
      rintro e w1 ⟨rfl, hb⟩
      have hB := hB0.trans (hb.mono hB0.size)
      have y0 := (hb.cell (p := ⟨w.heap.size, 0, none⟩) (Nat.lt_of_succ_lt hz)).trans x0
      have y1 := (hb.cell (p := ⟨w.heap.size, 1, none⟩) (Nat.lt_of_succ_lt hz)).trans x1
      go_wp2_with fail
      refine (K2.out _).mono ?_
      rintro e w2 ⟨rfl, hb⟩
      have hB := hB.trans (hb.mono hB.size)
      go_wp2
      go_ret2
      exact ⟨[], 1, _, Hno.out, rfl, IsSpans.nil, hB⟩
    · rw [hro] at k2
      have K2 := Lib.hid k2
      by_cases hlen : 1 ≤ len
      · have Hyes := Lib.hid (fun r (h : FreeOk l (p, q) len r) => (show FreeSpec l (p, q) len r 0 by rw [FreeSpec, if_pos ⟨by rw [hra, hro]; rfl, hlen⟩]; exact ⟨h, rfl⟩))
        have Hok := Lib.hid (rightB_ok hra); have Hro := Lib.hid hro
        clear k1 k2 hno hra hro
        have hmf : ∀ (fn : Fn) (first cap : Array Value) (w : World), (Instr.makeFunc fn first cap).run Try.prog w = .ok (.func fn first cap) w := fun _ _ _ _ => rfl
        go_enter Try.func37, Try.ntmps37
        go_wp2_with fail
        generalize (w.alloc (.cells #[.int .i64 p, .int .i64 q] 31)).alloc (.cells #[.int .i64 len] 3) = w0 at *
        refine (K1.out _ hB0).mono ?_
        rintro e w1 ⟨rfl, hX⟩
        have y0 := (hX.cell (p := ⟨w.heap.size, 0, none⟩) (Nat.lt_of_succ_lt hz)).trans x0
        have y1 := (hX.cell (p := ⟨w.heap.size, 1, none⟩) (Nat.lt_of_succ_lt hz)).trans x1
        go_wp2_with fail
        refine (K2.out _).mono ?_
        rintro e w2 ⟨rfl, hb⟩
        have hX := hX.trans (hb.mono hX.size)
        clear y0 y1
        have y2 := (hX.cell (p := ⟨w.heap.size + 1, 0, none⟩) hz).trans x2
        go_wp2_with fail
        refine (rOf_c _ l _ (h1.below (hB0.trans (hX.mono hB0.size))) (by omega)).mono ?_
        rintro e w3 ⟨r1, hr1, v3, rfl, h3, hb⟩
        have hX := hX.trans (hb.mono hX.size)
        clear y2
        have y0 := (hX.cell (p := ⟨w.heap.size, 0, none⟩) (Nat.lt_of_succ_lt hz)).trans x0
        have y1 := (hX.cell (p := ⟨w.heap.size, 1, none⟩) (Nat.lt_of_succ_lt hz)).trans x1
        have y2 := (hX.cell (p := ⟨w.heap.size + 1, 0, none⟩) hz).trans x2
        have hz3 := Nat.lt_of_lt_of_le hz hX.size
        obtain ⟨z1, z2, z3, z4, _⟩ := of_small hr1 (by omega) Hok.out
        obtain ⟨m, k⟩ := r1
        simp only at z1 z2 z3 z4 h3
        subst z1
        have hB3 := hB0.trans (hX.mono hB0.size)
        have Z2 := Lib.hid z2; have Z3 := Lib.hid z3
        clear z2 z3 hr1
        go_wp2_with fail
        refine (rNotO_c _ m p q _ h3 Hro.out Z2.out).mono ?_
        rintro e w4 ⟨r2, hr2, v4, rfl, h4, hb4⟩
        obtain ⟨U, hU, hop, _⟩ := op_small hr2 (validB_one Hro.out) Z2.out (by simp; omega)
        subst hU
        have Hop := Lib.hid (isOp_mem hop Z3.out)
        have hUl : U.length ≤ 100000 := by
          have := hr2
          rw [OpSpec, if_pos (by rw [validB_one Hro.out, Z2.out]; rfl)] at this
          obtain ⟨U', _, hl', he⟩ := this
          unfold opR at he
          split at he
          · injection he with he1 _; subst he1; omega
          · injection he with he1 _; subst he1; simp
        clear hr2 hop y0 y1
        go_wp2_with fail
        refine (slDeleteSpan_c 79 _ (freeP len) _ U w3 w4 hb4 h4 (pred_free hz3 y2) hUl).mono ?_
        rintro e w5 ⟨v5, rfl, h5, hb5⟩
        have hfin := hB3.trans (hb5.mono hB3.size)
        have Hres := Lib.hid (Hyes.out _ ⟨U, Hop.out, rfl⟩)
        clear y2
        go_wp2
        go_ret2
        exact ⟨_, 0, v5, Hres.out, rfl, h5, hfin⟩
      · have Hno := Lib.hid (hno (fun h => hlen h.2))
        clear k1 k2 hno hra hro
        go_enter Try.func37, Try.ntmps37
        go_wp2_with fail
        generalize (w.alloc (.cells #[.int .i64 p, .int .i64 q] 31)).alloc (.cells #[.int .i64 len] 3) = w0 at *
        refine (K1.out _ hB0).mono ?_
        rintro e w1 ⟨rfl, hX⟩
        have hB := hB0.trans (hX.mono hB0.size)
        have y0 := (hX.cell (p := ⟨w.heap.size, 0, none⟩) (Nat.lt_of_succ_lt hz)).trans x0
        have y1 := (hX.cell (p := ⟨w.heap.size, 1, none⟩) (Nat.lt_of_succ_lt hz)).trans x1
        go_wp2_with fail
        refine (K2.out _).mono ?_
        rintro e w2 ⟨rfl, hb⟩
        have hB := hB.trans (hb.mono hB.size)
        have hX := hX.trans (hb.mono hX.size)
        clear y0 y1
        have y2 := (hX.cell (p := ⟨w.heap.size + 1, 0, none⟩) hz).trans x2
        go_wp2
        go_ret2
        exact ⟨[], 1, _, Hno.out, rfl, IsSpans.nil, hB⟩
end Go.Proofs.Ytahpcepnagpbdaa
