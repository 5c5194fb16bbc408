/- Law 39: the closures of AggregatePointwise. -/
import Derived.Deep.RegionHeld3
import Derived.Test.YtohjgegnamcnlaaAhm
import Derived.Test.YtohjgegnamcnlaaAiA
namespace Go.Proofs.Ytohjgegnamcnlaa
open Go.RowKit Go.Shelf

set_option maxRecDepth 100000 in
theorem point1_c (k n : Int) (s : ByteArray) (b : Nat) (w : World) : Calls Try.prog 14 #[.agg #[.int .i64 k, .int .i64 n, .string s], .pointer (some ⟨b, 0, none⟩)] w (fun e w' => e = .returned (.func (.func 15) #[] #[.pointer (some ⟨b, 0, none⟩), .pointer (some ⟨w.heap.size, 0, none⟩)]) ∧ w' = w.alloc (.cells #[.int .i64 k, .int .i64 n, .string s] 37)) := by
  go_enter Try.func14, Try.ntmps14
  go_wp2_with fail
  go_ret
  exact ⟨rfl, rfl⟩
theorem ent_point2 : ∀ (args : Array Value) (w : World), Sem.run Try.prog (callFunc 15 args) w = .ok (.enter 15 args) w := fun _ _ => by kernel_rfl
theorem two_vals {W : World} {b : Nat} {x y : Val} (h : W.heap[b]? = some (.cells #[.int .i64 x.1, .int .i64 x.2.1, .string x.2.2, .int .i64 y.1, .int .i64 y.2.1, .string y.2.2] 37 (0, 0))) : IsVals W (.slice (some ⟨b, 0, none⟩) 2 2) [x, y] := by
  refine ⟨some ⟨b, 0, none⟩, 2, rfl, by simp, by omega, fun _ => ⟨b, 0, rfl, blk_lt h, fun i j hi hj => ?_⟩⟩
  have hi2 : i < 2 := hi
  rw [blk_get h]
  rcases (by omega : i = 0 ∨ i = 1) with rfl | rfl <;> rcases (by omega : j = 0 ∨ j = 1 ∨ j = 2) with rfl | rfl | rfl <;> rfl
set_option maxRecDepth 100000 in
theorem point2_c (v vz : Value) (r r2 : VRow) (b1 b2 : Nat) (x : Val) (w : World) (hs : IsVals w v r) (h2 : IsVals w vz r2) (hz : w.cell? ⟨b1, 0, none⟩ = some vz) (hzl : b1 < w.heap.size) (hx : w.heap[b2]? = some (.cells #[.int .i64 x.1, .int .i64 x.2.1, .string x.2.2] 37 (0, 0))) (hl : 0 < r2.length) :
    Calls Try.prog 15 #[v, .pointer (some ⟨b1, 0, none⟩), .pointer (some ⟨b2, 0, none⟩)] w (Ret w (.bool (sameR r [va r2 0, x]))) := by
  obtain ⟨A1, c1, rfl, hn1, hc1⟩ := hs.form
  obtain ⟨A2, c2, rfl, hn2, hc2⟩ := h2.form
  obtain ⟨g2, o2, rfl, hg2⟩ := h2.addr hl
  have f0 := h2.c0 0 hl
  have f1 := h2.c1 0 hl
  have f2 := h2.c2 0 hl
  simp only [Nat.zero_mul, Nat.add_zero] at f0 f1 f2
  have x0 := blk_get hx 0
  have x1 := blk_get hx 1
  have x2 := blk_get hx 2
  simp at x0 x1 x2
  have hxl := blk_lt hx
  obtain ⟨y, hy⟩ : ∃ y, y = va r2 0 := ⟨_, rfl⟩
  rw [← hy] at f0 f1 f2 ⊢
  have hln : (0 : Int) < (r2.length : Int) := by omega
  have hln2 : 0 < r2.length := hl
  have KS : Hid (∀ (Q : World) (bq : Nat), Below w.heap.size w Q → Q.heap[bq]? = some (.cells #[.int .i64 y.1, .int .i64 y.2.1, .string y.2.2, .int .i64 x.1, .int .i64 x.2.1, .string x.2.2] 37 (0, 0)) → Calls Try.prog 16 #[.slice A1 r.length c1, .slice (some ⟨bq, 0, none⟩) 2 2] Q (Ret Q (.bool (sameR r [y, x])))) := Lib.hid fun Q bq hQ hq => r33Same_c _ _ r [y, x] Q (hs.below hQ) (two_vals hq)
  generalize sameR r [y, x] = z at *
  obtain ⟨yk, yn, ys⟩ := y
  obtain ⟨xk, xn, xs⟩ := x
  simp only at f0 f1 f2 x0 x1 x2 KS
  have FB : Hid (∀ Q, Below w.heap.size w Q → Q.cell? ⟨b1, 0, none⟩ = some (.slice (some ⟨g2, o2, none⟩) r2.length c2) ∧ Q.cell? ⟨g2, o2, none⟩ = some (.int .i64 yk) ∧ Q.cell? ⟨g2, o2 + 1, none⟩ = some (.int .i64 yn) ∧ Q.cell? ⟨g2, o2 + 2, none⟩ = some (.string ys) ∧ Q.cell? ⟨b2, 0, none⟩ = some (.int .i64 xk) ∧ Q.cell? ⟨b2, 1, none⟩ = some (.int .i64 xn) ∧ Q.cell? ⟨b2, 2, none⟩ = some (.string xs)) := Lib.hid fun Q h => ⟨(h.cell (p := ⟨b1, 0, none⟩) hzl).trans hz, (h.cell (p := ⟨g2, o2, none⟩) hg2).trans f0, (h.cell (p := ⟨g2, o2 + 1, none⟩) hg2).trans f1, (h.cell (p := ⟨g2, o2 + 2, none⟩) hg2).trans f2, (h.cell (p := ⟨b2, 0, none⟩) hxl).trans x0, (h.cell (p := ⟨b2, 1, none⟩) hxl).trans x1, (h.cell (p := ⟨b2, 2, none⟩) hxl).trans x2⟩
  have kb : Below w.heap.size w w := Below.refl _ _
  clear hs h2 hx hz hy f0 f1 f2 x0 x1 x2
  have hB1 : Below w.heap.size w (w.alloc (.cells #[.int .i64 yk, .int .i64 yn, .string ys, .int .i64 xk, .int .i64 xn, .string xs] 37)).drew := (kb.alloc kb.size _).drew
  have hq1 : (w.alloc (.cells #[.int .i64 yk, .int .i64 yn, .string ys, .int .i64 xk, .int .i64 xn, .string xs] 37)).drew.heap[w.heap.size]? = some (.cells #[.int .i64 yk, .int .i64 yn, .string ys, .int .i64 xk, .int .i64 xn, .string xs] 37 (0, 0)) := heap_alloc_new w (.cells #[.int .i64 yk, .int .i64 yn, .string ys, .int .i64 xk, .int .i64 xn, .string xs] 37)
  go_enter Try.func15, Try.ntmps15
  go_wp2_with fail
  go_region_held3 (fun Q => Q.cell? ⟨b1, 0, none⟩ = some (.slice (some ⟨g2, o2, none⟩) r2.length c2) ∧ Q.cell? ⟨g2, o2, none⟩ = some (.int .i64 yk) ∧ Q.cell? ⟨g2, o2 + 1, none⟩ = some (.int .i64 yn) ∧ Q.cell? ⟨g2, o2 + 2, none⟩ = some (.string ys) ∧ Q.cell? ⟨b2, 0, none⟩ = some (.int .i64 xk) ∧ Q.cell? ⟨b2, 1, none⟩ = some (.int .i64 xn) ∧ Q.cell? ⟨b2, 2, none⟩ = some (.string xs)) ((first | exact FB.out _ kb | exact FB.out _ kb.drew | exact FB.out _ (kb.drew.alloc kb.drew.size _) | exact FB.out _ (kb.alloc kb.size _) | exact HS9)) (first
    | (go_at_call 16; (with_reducible refine (KS.out _ w.heap.size hB1 hq1).mono ?_); rintro e Wa ⟨rfl, hba⟩; have HS9 := FB.out _ (hB1.trans (hba.mono hB1.size))))
  go_wp2_with fail
  go_ret
  exact ⟨rfl, hB1.trans (hba.mono hB1.size)⟩
end Go.Proofs.Ytohjgegnamcnlaa
