/- SweepFree: Free returns the specified spans, as the reference does, or the specified error; a free span has no point in common with the list, and cannot be made longer; whatever the list, the span and the length. No condition. -/
import Derived.Test.YtahpcepnagpbdaaAwake44
import Derived.Test.YtahpcepnagpbdaaSwY
import Derived.Test.YtahpcepnagpbdaaSwC
import Derived.Test.YtahpcepnagpbdaaRunsG
import Derived.Test.YtahpcepnagpbdaaOpen
namespace Go.Proofs.Ytahpcepnagpbdaa
open Go.RowKit Go.ChangeShapes Go.WideShapes Go.ChangeAt

set_option maxRecDepth 100000 in
set_option maxHeartbeats 4000000 in
theorem lawFree_c (v : Value) (l : List Sp) (p q len : Int) (w : World) (h1 : IsSpans w v l) :
    Calls Try.prog 12 #[v, .agg #[.int .i64 p, .int .i64 q], .int .i64 len] w (Ret w (.bool true)) := by
  obtain ⟨A, c, rfl, hnc, hc⟩ := h1.form
  have hla : l.length ≤ 9223372036854775807 := by omega
  go_enter Try.func12, Try.ntmps12
  go_wp2_with fail
  have hB0 := (Below.refl w.heap.size w).alloc (Nat.le_refl _) (.cells #[.int .i64 p, .int .i64 q] 31)
  have h1 := h1.alloc (.cells #[.int .i64 p, .int .i64 q] 31)
  have x0 : (w.alloc (.cells #[.int .i64 p, .int .i64 q] 31)).cell? ⟨w.heap.size, 0, none⟩ = some (.int .i64 p) := by simp
  have x1 : (w.alloc (.cells #[.int .i64 p, .int .i64 q] 31)).cell? ⟨w.heap.size, 1, none⟩ = some (.int .i64 q) := by simp
  have hxs : w.heap.size < (w.alloc (.cells #[.int .i64 p, .int .i64 q] 31)).heap.size := by simp
  generalize hw0 : w.alloc (.cells #[.int .i64 p, .int .i64 q] 31) = w0 at *
  clear hw0
  refine (awake44_c _).mono ?_
  rintro e w1 ⟨rfl, hX⟩
  have hB := hB0.trans (hX.mono hB0.size)
  have h1 := h1.below hX
  go_wp2_with fail
  refine (great44_c _ [l.length] _ (by exact slices_one w1.heap.size rfl hla)).mono ?_
  rintro e w2 ⟨rfl, rfl⟩
  have hB := hB.alloc hB.size (.cells #[.slice A l.length c] 22)
  have h1 := h1.alloc (.cells #[.slice A l.length c] 22)
  have hX := hX.alloc hX.size (.cells #[.slice A l.length c] 22)
  cases hg : anyLong60 [l.length]
  · have hl : l.length ≤ 60 := by simpa [anyLong60, longAt60] using hg
    clear hg
    generalize w1.alloc (.cells #[.slice A l.length c] 22) = w2 at *
    have y0 := (hX.cell (p := ⟨w.heap.size, 0, none⟩) hxs).trans x0
    have y1 := (hX.cell (p := ⟨w.heap.size, 1, none⟩) hxs).trans x1
    go_wp2_with fail
    refine (sFree_c _ l p q len _ h1 hl).mono ?_
    rintro e w3 ⟨r, k, v2, hP, rfl, h2, hb⟩
    have h1 := h1.below hb
    have hB := hB.trans (hb.mono hB.size)
    have hX := hX.trans (hb.mono hX.size)
    clear hb
    have hval := r44Valid_c _ l _ h1
    have hv := fun W => r10Valid_c p q W
    by_cases hyes : (rightB l && okSpan (p, q)) = true ∧ 1 ≤ len
    · rw [FreeSpec, if_pos hyes] at hP
      obtain ⟨hF, rfl⟩ := hP
      obtain ⟨hy1, hlen⟩ := hyes
      have hra : rightB l = true := by revert hy1; cases rightB l <;> simp
      have hro : okSpan (p, q) = true := by revert hy1; cases okSpan (p, q) <;> simp
      rw [hra] at hval
      rw [hro] at hv
      have Hval := Lib.hid hval; have Hv := Lib.hid hv
      have HF := Lib.hid hF; have Hok := Lib.hid (rightB_ok hra); have Hro := Lib.hid hro
      clear hval hv hF hra hro hy1 y0 y1
      go_wp2_with fail
      refine Hval.out.mono ?_
      rintro e w4 ⟨rfl, hb⟩
      have h1 := h1.below hb
      have h2 := h2.below hb
      have hB := hB.trans (hb.mono hB.size)
      have hX := hX.trans (hb.mono hX.size)
      clear hb
      have y0 := (hX.cell (p := ⟨w.heap.size, 0, none⟩) hxs).trans x0
      have y1 := (hX.cell (p := ⟨w.heap.size, 1, none⟩) hxs).trans x1
      go_wp2_with fail
      refine (Hv.out _).mono ?_
      rintro e w5 ⟨rfl, hb⟩
      have h1 := h1.below hb
      have h2 := h2.below hb
      have hB := hB.trans (hb.mono hB.size)
      have hX := hX.trans (hb.mono hX.size)
      clear hb y0 y1
      have y0 := (hX.cell (p := ⟨w.heap.size, 0, none⟩) hxs).trans x0
      have y1 := (hX.cell (p := ⟨w.heap.size, 1, none⟩) hxs).trans x1
      go_wp2_with fail
      refine (r44Free_c _ l p q len _ h1 hl Hok.out Hro.out).mono ?_
      rintro e w6 ⟨r', v3, hF', rfl, h3, hb⟩
      obtain rfl := free_one HF.out hF'
      have h1 := h1.below hb
      have h2 := h2.below hb
      have hB := hB.trans (hb.mono hB.size)
      have hX := hX.trans (hb.mono hX.size)
      clear hb hF' y0 y1
      have hsame := fun W (h : IsSpans W v2 r) (h' : IsSpans W v3 r) => r12Same_c v2 v3 r r W h h'
      rw [(sameL_iff r r).2 rfl] at hsame
      have Hsame := Lib.hid hsame
      clear hsame
      go_wp2_with fail
      refine (Hsame.out _ h2 h3).mono ?_
      rintro e w7 ⟨rfl, hb⟩
      have h1 := h1.below hb
      have h2 := h2.below hb
      have hB := hB.trans (hb.mono hB.size)
      have hX := hX.trans (hb.mono hX.size)
      clear hb h3
      obtain ⟨A2, c2, rfl, hn2, hc2⟩ := h2.form
      go_wp2
      go_loopw [55] (fun i wr => ∃ k : Nat, i = .int .i64 k ∧ k ≤ r.length ∧ Below w7.heap.size w7 wr) (fun i _ => r.length - (intOf i).toNat)
      case atStart => exact ⟨0, rfl, Nat.zero_le _, Below.refl _ _⟩
      case round =>
        obtain ⟨k, rfl, hk, hbw⟩ := hrel
        by_cases hlt : k < r.length
        · obtain ⟨b2, off, rfl, hbk⟩ := h2.addr (by omega)
          have c0 := (h2.below hbw).c0 k hlt
          have c1 := (h2.below hbw).c1 k hlt
          obtain ⟨⟨u1, u2, u3⟩, f1, f2, f3, f4, f5, f6⟩ := free_sp HF.out (idx_mem hlt)
          have hal := hbw.alloc hbw.size (.cells #[.int .i64 (fr r k), .int .i64 (tt r k)] 31)
          generalize fr r k = a at *
          generalize tt r k = b at *
          simp only at u1 u2 u3 f1 f2 f3 f4 f5 f6
          have hXw := hX.trans (hal.mono hX.size)
          have y0 := (hXw.cell (p := ⟨w.heap.size, 0, none⟩) hxs).trans x0
          have y1 := (hXw.cell (p := ⟨w.heap.size, 1, none⟩) hxs).trans x1
          have b0 : (wr.alloc (.cells #[.int .i64 a, .int .i64 b] 31)).cell? ⟨wr.heap.size, 0, none⟩ = some (.int .i64 a) := by simp
          have b1 : (wr.alloc (.cells #[.int .i64 a, .int .i64 b] 31)).cell? ⟨wr.heap.size, 1, none⟩ = some (.int .i64 b) := by simp
          have k0 := r44At_c _ l a _ (h1.below hal) (by omega)
          have k1 := r44At_c _ l (a - 1) _ (h1.below hal) (by omega)
          have k2 := r44At_c _ l b _ (h1.below hal) (by omega)
          rw [f4] at k0
          have K0 := Lib.hid k0; have K1 := Lib.hid k1; have K2 := Lib.hid k2
          have g1 : ¬ b - a < len := by omega
          have g2 : ¬ a < p := by omega
          have g3 : ¬ q < b := by omega
          have g5 : p < a → (atS l (a - 1) == 0) = false := fun h => beq_eq_false_iff_ne.2 (f5 h)
          have g6 : b < q → (atS l b == 0) = false := fun h => beq_eq_false_iff_ne.2 (f6 h)
          generalize atS l (a - 1) = N1 at *
          generalize atS l b = N2 at *
          clear k0 k1 k2 f4 f5 f6 f1
          by_cases e1 : p < a
          · have g5 := g5 e1
            by_cases e2 : b < q
            · have g6 := g6 e2
              go_wp2_with fail
              refine K0.out.mono ?_
              rintro e w8 ⟨rfl, rfl⟩
              go_wp2_with fail
              refine K1.out.mono ?_
              rintro e w8 ⟨rfl, rfl⟩
              go_wp2_with fail
              refine K2.out.mono ?_
              rintro e w8 ⟨rfl, rfl⟩
              go_wp2
              go_roundw
              case rel => exact ⟨k + 1, by go_num, hlt, hal⟩
              case measure => simp [intOf]; omega
            · clear g6
              go_wp2_with fail
              refine K0.out.mono ?_
              rintro e w8 ⟨rfl, rfl⟩
              go_wp2_with fail
              refine K1.out.mono ?_
              rintro e w8 ⟨rfl, rfl⟩
              go_wp2
              go_roundw
              case rel => exact ⟨k + 1, by go_num, hlt, hal⟩
              case measure => simp [intOf]; omega
          · clear g5
            by_cases e2 : b < q
            · have g6 := g6 e2
              go_wp2_with fail
              refine K0.out.mono ?_
              rintro e w8 ⟨rfl, rfl⟩
              go_wp2_with fail
              refine K2.out.mono ?_
              rintro e w8 ⟨rfl, rfl⟩
              go_wp2
              go_roundw
              case rel => exact ⟨k + 1, by go_num, hlt, hal⟩
              case measure => simp [intOf]; omega
            · clear g6
              go_wp2_with fail
              refine K0.out.mono ?_
              rintro e w8 ⟨rfl, rfl⟩
              go_wp2
              go_roundw
              case rel => exact ⟨k + 1, by go_num, hlt, hal⟩
              case measure => simp [intOf]; omega
        · have hB := hB.trans (hbw.mono hB.size)
          go_wp2
          go_ret
          exact ⟨rfl, hB⟩
    · rw [FreeSpec, if_neg hyes] at hP
      obtain ⟨rfl, rfl⟩ := hP
      obtain ⟨A2, c2, rfl, _, _⟩ := h2.form
      cases hra : rightB l
      · rw [hra] at hval
        have Hval := Lib.hid hval
        clear hval hv hra hyes y0 y1
        go_wp2_with fail
        refine Hval.out.mono ?_
        rintro e w4 ⟨rfl, hb⟩
        have hB := hB.trans (hb.mono hB.size)
        go_wp2
        go_ret
        exact ⟨rfl, hB⟩
      · rw [hra] at hval
        have Hval := Lib.hid hval
        cases hro : okSpan (p, q)
        · rw [hro] at hv
          have Hv := Lib.hid hv
          clear hval hv hra hro hyes y0 y1
          go_wp2_with fail
          refine Hval.out.mono ?_
          rintro e w4 ⟨rfl, hb⟩
          have hB := hB.trans (hb.mono hB.size)
          have hX := hX.trans (hb.mono hX.size)
          have y0 := (hX.cell (p := ⟨w.heap.size, 0, none⟩) hxs).trans x0
          have y1 := (hX.cell (p := ⟨w.heap.size, 1, none⟩) hxs).trans x1
          go_wp2_with fail
          refine (Hv.out _).mono ?_
          rintro e w5 ⟨rfl, hb⟩
          have hB := hB.trans (hb.mono hB.size)
          go_wp2
          go_ret
          exact ⟨rfl, hB⟩
        · rw [hro] at hv
          have Hv := Lib.hid hv
          have hlen : ¬ 1 ≤ len := fun h => hyes ⟨by rw [hra, hro]; rfl, h⟩
          clear hval hv hra hro hyes y0 y1
          go_wp2_with fail
          refine Hval.out.mono ?_
          rintro e w4 ⟨rfl, hb⟩
          have hB := hB.trans (hb.mono hB.size)
          have hX := hX.trans (hb.mono hX.size)
          have y0 := (hX.cell (p := ⟨w.heap.size, 0, none⟩) hxs).trans x0
          have y1 := (hX.cell (p := ⟨w.heap.size, 1, none⟩) hxs).trans x1
          go_wp2_with fail
          refine (Hv.out _).mono ?_
          rintro e w5 ⟨rfl, hb⟩
          have hB := hB.trans (hb.mono hB.size)
          go_wp2
          go_ret
          exact ⟨rfl, hB⟩
  · go_wp2
    go_ret
    exact ⟨rfl, hB⟩

set_option maxRecDepth 100000 in
theorem lawFree_lifted (os : Os) (started : os.Started) (H : Type) (enc : TypeId × Value → H) :
    ReturnsInHanded {} Try.checked os 12 .any (Rows.sweepFreeSpec.pre6 enc Try.prog Try.f12 Rows.sweepFreeRow.domain false) (Rows.sweepFreeSpec.post enc Try.prog Try.f12 false true false false) := by
  refine returnsInHanded_of_change (C := Try.checked) Try.own started (by kernel_rfl) Try.func12
    (ChangeSpec.witness6 (enc := enc) (C := Try.checked) false ⟨#[], #[.slice none 0 0, .agg #[.int .i64 0, .int .i64 0], .int .i64 0], []⟩ 8 (by kernel_rfl) (by kernel_rfl) (by kernel_rfl) (by kernel_rfl)) ?_
  intro W base args ds gs before hval0 hW hcnd _
  have hval : ∀ (j : Nat) t v, Try.f12.params[j]? = some t → args[j]? = some v → Value.okWide Try.prog W .any base t v := hval0
  have hW' := hW
  obtain ⟨p, q, hA0, hV, rfl, hfz, hnd⟩ := hW
  have hA : DataW.TrodAll enc Try.prog W 0 (fun _ => true) true Try.f12.params.toList args.toList ds p := hA0
  have hA1 := hA0
  rw [Try.params12] at hA hval
  obtain ⟨v0, v1, v2, d0, d1, d2, p0, p1, p2, rfl, rfl, hp, h0, h1, h2⟩ := trodAll_three hA
  obtain ⟨rfl, rfl⟩ := trodVars_none hV
  obtain ⟨l, g0, r0⟩ := open_spans (hval 0 22 v0 rfl rfl) h0
  obtain ⟨s1, s2, rfl, g1⟩ := open_span (hval 1 31 v1 rfl rfl) h1
  obtain ⟨len, rfl, rfl, rfl, g2⟩ := open_int Try.underlying3 (hval 2 3 v2 rfl rfl) h2
  clear hA0 hval0
  have hlt : ∀ x ∈ p, x.block < W.heap.size := fun x hx => hW'.lt x (by simp [hx])
  refine (lawFree_c v0 l s1 s2 len W g0).mono fun e W' ⟨he, hg⟩ => ?_
  subst he
  exact ⟨_, rfl, post_of_below (pa := p) (pv := []) hW' (fun _ _ _ => trodAll_mk1 (shut_bool Try.underlying4 _))
    (fun sp hsp => trodAll_keep Try.laidOut hg (by kernel_rfl) hA1 hlt (fun x hx => hsp x (by simp [hx])))
    (fun _ _ => rfl) rfl hg (ok_one (by kernel_rfl) rfl (okWide_bool_mk Try.underlying4 _))⟩

theorem lawFree_holds : Rows.SweepFreeSaid :=
  OpenClaim.holds_of_wide 12 Try.f12 rfl rfl rfl rfl rfl rfl rfl ⟨rfl, rfl, rfl, rfl, rfl⟩ rfl rfl rfl rfl rfl (by kernel_rfl) Try.func12 (by kernel_rfl)
    (of_decide_eq_true (by kernel_rfl)) (by unfold Func.isWrapper; first | (rw [if_pos (by decide +kernel)]; kernel_rfl) | (rw [if_neg (by decide +kernel)]; exact ⟨rfl, rfl⟩))
    (fun os started H enc _ => lawFree_lifted os started H enc)
#print axioms lawFree_holds
end Go.Proofs.Ytahpcepnagpbdaa
