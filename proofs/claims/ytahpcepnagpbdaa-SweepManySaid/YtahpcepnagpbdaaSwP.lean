/- The walks of sweep.Join, sweep.Overlaps and of the reference's; slices.Equal at pairs. -/
import Derived.Test.YtahpcepnagpbdaaSwO
namespace Go.Proofs.Ytahpcepnagpbdaa
open Go.RowKit Go.Shelf

def jf (set : Int) : Rel2 := fun s t => bitB set (ofI s t)
theorem pred_common (w : World) : PredFn2 62 #[] comSp w := ⟨fun _ _ => by kernel_rfl, fun W p q r s _ _ _ => scommon_c p q r s W⟩
theorem pred_join {g : Nat} {set : Int} {w : World} (hg : g < w.heap.size) (hs : w.cell? ⟨g, 0, none⟩ = some (.int .i64 set)) : PredFn2 61 #[.pointer (some ⟨g, 0, none⟩)] (jf set) w :=
  ⟨fun _ _ => by kernel_rfl, fun W p q r s hb ho ho' => sJoin1_c p q r s set g W (Nat.lt_of_lt_of_le hg hb.size) ((hb.cell (p := ⟨g, 0, none⟩) hg).trans hs) ho ho'⟩
def OverSpec (a b : List Sp) (r : List Sp) (k : Int) : Prop := if (rightB a && rightB b) = true then PairsSpec comSp a b r k else r = [] ∧ k = 1
def JoinSpec (a b : List Sp) (set : Int) (r : List Sp) (k : Int) : Prop := if (rightB a && rightB b) = true ∧ 0 ≤ set ∧ set ≤ 8191 then PairsSpec (jf set) a b r k else r = [] ∧ k = 1

set_option maxRecDepth 100000 in
set_option maxHeartbeats 1600000 in
theorem sOverlaps_c (va vb : Value) (a b : List Sp) (w : World) (ha : IsSpans w va a) (hb : IsSpans w vb b) : Calls Try.prog 28 #[va, vb] w (PairE w (OverSpec a b)) := by
  obtain ⟨A, ca, rfl, hna, hca⟩ := ha.form
  obtain ⟨B, cb, rfl, hnb, hcb⟩ := hb.form
  have k1 := sright_c _ a w ha
  have k2 := fun w' (h : Below w.heap.size w w') => sright_c _ b w' (hb.below h)
  cases hra : rightB a
  · rw [hra] at k1
    have K1 := Lib.hid k1
    have hsp : OverSpec a b [] 1 := by rw [OverSpec, if_neg (by rw [hra]; exact Bool.false_ne_true)]; exact ⟨rfl, rfl⟩
    have Hsp := Lib.hid hsp
    clear k1 k2 hsp hra
    go_enter Try.func28, Try.ntmps28
    go_wp2_with fail
    refine K1.out.mono ?_
    rintro e w1 ⟨rfl, hb1⟩
    go_wp2
    go_ret2
    exact ⟨[], 1, _, Hsp.out, rfl, IsSpans.nil, hb1⟩
  · rw [hra] at k1
    have K1 := Lib.hid k1
    cases hrb : rightB b
    · rw [hrb] at k2
      have K2 := Lib.hid k2
      have hsp : OverSpec a b [] 1 := by rw [OverSpec, if_neg (by rw [hra, hrb]; exact Bool.false_ne_true)]; exact ⟨rfl, rfl⟩
      have Hsp := Lib.hid hsp
      clear k1 k2 hsp hra hrb
      go_enter Try.func28, Try.ntmps28
      go_wp2_with fail
      refine K1.out.mono ?_
      rintro e w1 ⟨rfl, hb1⟩
      go_wp2_with fail
      refine (K2.out w1 hb1).mono ?_
      rintro e w2 ⟨rfl, hb2⟩
      have hB := hb1.trans (hb2.mono hb1.size)
      go_wp2
      go_ret2
      exact ⟨[], 1, _, Hsp.out, rfl, IsSpans.nil, hB⟩
    · rw [hrb] at k2
      have K2 := Lib.hid k2
      have Hsp := Lib.hid (fun r k (h : PairsSpec comSp a b r k) => (show OverSpec a b r k by rw [OverSpec, if_pos (by rw [hra, hrb]; rfl)]; exact h))
      have Hoa := Lib.hid (rightB_ok hra); have Hob := Lib.hid (rightB_ok hrb)
      have hla := rightB_len hra
      have hlb := rightB_len hrb
      clear k1 k2 hra hrb
      go_enter Try.func28, Try.ntmps28
      go_wp2_with fail
      refine K1.out.mono ?_
      rintro e w1 ⟨rfl, hb1⟩
      go_wp2_with fail
      refine (K2.out w1 hb1).mono ?_
      rintro e w2 ⟨rfl, hb2⟩
      have hB := hb1.trans (hb2.mono hb1.size)
      go_wp2_with fail
      refine (spairs_c 62 #[] comSp _ _ a b w2 (pred_common w2) (ha.below hB) (hb.below hB) Hoa.out Hob.out hla hlb).mono ?_
      rintro e w3 ⟨r, k, v, hr, rfl, hv, hb3⟩
      have hB3 := hB.trans (hb3.mono hB.size)
      have Hr := Lib.hid (Hsp.out r k hr)
      clear hr
      go_wp2
      go_ret2
      exact ⟨r, k, v, Hr.out, rfl, hv, hB3⟩

set_option maxRecDepth 100000 in
set_option maxHeartbeats 1600000 in
theorem sJoin_c (va vb : Value) (a b : List Sp) (set : Int) (w : World) (ha : IsSpans w va a) (hb : IsSpans w vb b) : Calls Try.prog 27 #[va, vb, .int .i64 set] w (PairE w (JoinSpec a b set)) := by
  obtain ⟨A, ca, rfl, hna, hca⟩ := ha.form
  obtain ⟨B, cb, rfl, hnb, hcb⟩ := hb.form
  have hB0 := (Below.refl w.heap.size w).alloc (Nat.le_refl _) (.cells #[.int .i64 set] 3)
  have x0 : (w.alloc (.cells #[.int .i64 set] 3)).cell? ⟨w.heap.size, 0, none⟩ = some (.int .i64 set) := by simp
  have hxs : w.heap.size < (w.alloc (.cells #[.int .i64 set] 3)).heap.size := by simp
  have k1 := fun w' (h : Below w.heap.size w w') => sright_c _ a w' (ha.below h)
  have k2 := fun w' (h : Below w.heap.size w w') => sright_c _ b w' (hb.below h)
  cases hra : rightB a
  · rw [hra] at k1
    have K1 := Lib.hid k1
    have hsp : JoinSpec a b set [] 1 := by rw [JoinSpec, if_neg (by rw [hra]; exact fun h => Bool.false_ne_true h.1)]; exact ⟨rfl, rfl⟩
    have Hsp := Lib.hid hsp
    clear k1 k2 hsp hra
    go_enter Try.func27, Try.ntmps27
    go_wp2_with fail
    refine (K1.out _ hB0).mono ?_
    rintro e w1 ⟨rfl, hb1⟩
    have hB := hB0.trans (hb1.mono hB0.size)
    go_wp2
    go_ret2
    exact ⟨[], 1, _, Hsp.out, rfl, IsSpans.nil, hB⟩
  · rw [hra] at k1
    have K1 := Lib.hid k1
    cases hrb : rightB b
    · rw [hrb] at k2
      have K2 := Lib.hid k2
      have hsp : JoinSpec a b set [] 1 := by rw [JoinSpec, if_neg (by rw [hra, hrb]; exact fun h => Bool.false_ne_true h.1)]; exact ⟨rfl, rfl⟩
      have Hsp := Lib.hid hsp
      clear k1 k2 hsp hra hrb
      go_enter Try.func27, Try.ntmps27
      go_wp2_with fail
      refine (K1.out _ hB0).mono ?_
      rintro e w1 ⟨rfl, hb1⟩
      have hB := hB0.trans (hb1.mono hB0.size)
      go_wp2_with fail
      refine (K2.out w1 hB).mono ?_
      rintro e w2 ⟨rfl, hb2⟩
      have hB := hB.trans (hb2.mono hB.size)
      go_wp2
      go_ret2
      exact ⟨[], 1, _, Hsp.out, rfl, IsSpans.nil, hB⟩
    · rw [hrb] at k2
      have K2 := Lib.hid k2
      have hst : (decide (set < 0) = true ∧ ¬ (0 ≤ set ∧ set ≤ 8191)) ∨ (decide (set < 0) = false ∧ decide (8191 < set) = true ∧ ¬ (0 ≤ set ∧ set ≤ 8191)) ∨ (decide (set < 0) = false ∧ decide (8191 < set) = false ∧ 0 ≤ set ∧ set ≤ 8191) := by
        by_cases h1 : set < 0
        · exact .inl ⟨decide_eq_true h1, by omega⟩
        · by_cases h2 : 8191 < set
          · exact .inr (.inl ⟨decide_eq_false h1, decide_eq_true h2, by omega⟩)
          · exact .inr (.inr ⟨decide_eq_false h1, decide_eq_false h2, by omega, by omega⟩)
      rcases hst with ⟨t1, hn⟩ | ⟨t1, t2, hn⟩ | ⟨t1, t2, hy⟩
      rotate_right
      · have Hsp := Lib.hid (fun r k (h : PairsSpec (jf set) a b r k) => (show JoinSpec a b set r k by rw [JoinSpec, if_pos ⟨by rw [hra, hrb]; rfl, hy⟩]; exact h))
        have Hoa := Lib.hid (rightB_ok hra); have Hob := Lib.hid (rightB_ok hrb)
        have hla := rightB_len hra
        have hlb := rightB_len hrb
        have hmf : ∀ (fn : Fn) (first cap : Array Value) (w : World), (Instr.makeFunc fn first cap).run Try.prog w = .ok (.func fn first cap) w := fun _ _ _ _ => rfl
        clear k1 k2 hra hrb hy
        go_enter Try.func27, Try.ntmps27
        go_wp2_with fail
        generalize w.alloc (.cells #[.int .i64 set] 3) = w0 at *
        refine (K1.out _ hB0).mono ?_
        rintro e w1 ⟨rfl, hb1⟩
        have hB := hB0.trans (hb1.mono hB0.size)
        go_wp2_with fail
        refine (K2.out w1 hB).mono ?_
        rintro e w2 ⟨rfl, hb2⟩
        have hB := hB.trans (hb2.mono hB.size)
        have hX := hb1.trans (hb2.mono hb1.size)
        have y0 := (hX.cell (p := ⟨w.heap.size, 0, none⟩) hxs).trans x0
        have hys := Nat.lt_of_lt_of_le hxs hX.size
        go_wp2_with fail
        refine (spairs_c 61 _ (jf set) _ _ a b w2 (pred_join hys y0) (ha.below hB) (hb.below hB) Hoa.out Hob.out hla hlb).mono ?_
        rintro e w3 ⟨r, k, v, hr, rfl, hv, hb3⟩
        have hB3 := hB.trans (hb3.mono hB.size)
        have Hr := Lib.hid (Hsp.out r k hr)
        clear hr
        go_wp2
        go_ret2
        exact ⟨r, k, v, Hr.out, rfl, hv, hB3⟩
      all_goals
        have hsp : JoinSpec a b set [] 1 := by rw [JoinSpec, if_neg (fun h => hn h.2)]; exact ⟨rfl, rfl⟩
        have Hsp := Lib.hid hsp
        clear k1 k2 hsp hra hrb hn
        go_enter Try.func27, Try.ntmps27
        go_wp2_with fail
        generalize w.alloc (.cells #[.int .i64 set] 3) = w0 at *
        refine (K1.out _ hB0).mono ?_
        rintro e w1 ⟨rfl, hb1⟩
        have hB := hB0.trans (hb1.mono hB0.size)
        go_wp2_with fail
        refine (K2.out w1 hB).mono ?_
        rintro e w2 ⟨rfl, hb2⟩
        have hB := hB.trans (hb2.mono hB.size)
        have hX := hb1.trans (hb2.mono hb1.size)
        have y0 := (hX.cell (p := ⟨w.heap.size, 0, none⟩) hxs).trans x0
        go_wp2
        go_ret2
        exact ⟨[], 1, _, Hsp.out, rfl, IsSpans.nil, hB⟩
end Go.Proofs.Ytahpcepnagpbdaa
