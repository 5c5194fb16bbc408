/- Law 39: aggregate.result. -/
import Derived.Laws.ResultCell
import Derived.Test.YtohjgegnamcnlaaGreatZab
import Derived.Test.YtohjgegnamcnlaaGreatAgV
namespace Go.Proofs.YtohjgegnamcnlaaGreat
open Go.RowKit Go.Shelf

theorem results_cell_row2 {P : Program} {fn : Func} {p u : Tmp} {ty : TypeId} (h : fn.results = #[.cell p ty, .tmp u]) (tmps : Array Value) (w : World) (g : Nat) (t : TypeId) (cs : Array Value) (fr : Nat × Nat) (d : TypeDesc)
    (hp : tmps.getD p undef = .pointer (some ⟨g, 0, none⟩)) (hg : w.heap[g]? = some (.cells cs t fr))
    (hu : P.underlying ty = some d) (hd : (match d with | .struct _ | .array _ _ => true | _ => false) = true) (hi : (P.info? ty).map (·.size) = some cs.size) :
    (results fn tmps).run P w = .ok (.tuple #[.agg cs, tmps.getD u undef]) w := by
  have hp' : tmps[p]?.getD undef = .pointer (some ⟨g, 0, none⟩) := by simpa using hp
  simp [results, h, hp', asAddr, run_loadVar_row w g t ty cs fr d hg hu hd hi]
set_option maxRecDepth 100000 in
theorem aresult_count (v : Value) (R : List VRow) (col : Int) (w : World) (hs : IsRv w v R) : Calls Tryz.prog 38 #[v, .int .i64 1, .int .i64 col] w (Ret w (.tuple #[encV (1, (R.length : Int), ⟨#[]⟩), .int .i64 0])) := by
  obtain ⟨S, hs⟩ := hs
  obtain ⟨A, c, rfl, hnc, hc⟩ := hs.form
  go_enter Tryz.func38, Tryz.ntmps38
  go_wp2_with fail
  refine bodyPost_ret (results_cell_row2 rfl _ _ w.heap.size 51 _ _ _ rfl (heap_alloc_new _ _) Tryz.underlying51 rfl (by kernel_rfl)) rfl ?_
  exact ⟨rfl, (Below.refl _ _).alloc (Nat.le_refl _) _⟩
/-! ### sums -/
def colN (R : List VRow) (k : Nat) : List Int := R.map fun r => (va r k).2.1
def sumS (t : Int) : List Int → Nat
  | [] => 0
  | n :: l => addS n t + sumS t l
def sumI : List Int → Int
  | [] => 0
  | n :: l => n + sumI l
theorem sumS_append (t : Int) : ∀ a b : List Int, sumS t (a ++ b) = sumS t a + sumS t b
  | [], b => by simp [sumS]
  | n :: a, b => by
    show addS n t + sumS t (a ++ b) = addS n t + sumS t a + sumS t b
    rw [sumS_append t a b]
    omega
theorem addS_one (n : Int) : (addS n 1 : Int) - addS n (-1) = n ∧ (addS n 1 = n.natAbs ∨ addS n 1 = 0) ∧ (addS n (-1) = n.natAbs ∨ addS n (-1) = 0) := by
  unfold addS
  rcases Int.lt_trichotomy n 0 with h | h | h
  · have h1 : decide (n < 0) = true := decide_eq_true h
    have h2 : decide (n = 0) = false := decide_eq_false (by omega)
    rw [h1, h2]
    simp
    omega
  · subst h
    simp
  · have h1 : decide (n < 0) = false := decide_eq_false (by omega)
    have h2 : decide (n = 0) = false := decide_eq_false (by omega)
    rw [h1, h2]
    simp
    omega
theorem sumS_diff : ∀ l : List Int, (sumS 1 l : Int) - sumS (-1) l = sumI l
  | [] => rfl
  | n :: l => by
    have h1 := sumS_diff l
    have h2 := (addS_one n).1
    show ((addS n 1 + sumS 1 l : Nat) : Int) - ((addS n (-1) + sumS (-1) l : Nat) : Int) = n + sumI l
    omega
theorem sumS_le {t : Int} (ht : t = 1 ∨ t = -1) : ∀ l : List Int, (∀ n ∈ l, -9223372036854775808 ≤ n ∧ n ≤ 9223372036854775807) → sumS t l ≤ l.length * 9223372036854775808
  | [], _ => by simp [sumS]
  | n :: l, h => by
    have h1 := sumS_le ht l fun m hm => h m (by simp [hm])
    have h2 := h n (by simp)
    have h3 : addS n t ≤ 9223372036854775808 := by
      rcases ht with rfl | rfl
      · rcases (addS_one n).2.1 with e | e <;> omega
      · rcases (addS_one n).2.2 with e | e <;> omega
    show addS n t + sumS t l ≤ (l.length + 1) * 9223372036854775808
    omega
/-- The sum of numbers, and the error code. -/
def resS (l : List Int) : Int × Int := if -9223372036854775808 ≤ sumI l ∧ sumI l ≤ 9223372036854775807 then (sumI l, 0) else (0, 9)
theorem lessS_res (l : List Int) : lessS (sumS 1 l) (sumS (-1) l) = resS l := by
  unfold lessS resS
  rw [sumS_diff]
theorem sum_zero {w : World} {q : Nat} (h : w.heap[q]? = some (.cells #[.int .u64 0, .int .u64 0] 85 (0, 0))) : SumAt w q 0 := h
def ColOk (R : List VRow) (k : Nat) : Prop := ∀ r ∈ R, k < r.length ∧ I64 (va r k)
set_option maxRecDepth 100000 in
set_option maxHeartbeats 4000000 in
theorem aresult_sum (v : Value) (R : List VRow) (k : Nat) (w : World) (hs : IsRv w v R) (hn : R.length ≤ 1000000) (hk : ColOk R k) : Calls Tryz.prog 38 #[v, .int .i64 2, .int .i64 (k : Int)] w (Ret w (.tuple #[encV (1, (resS (colN R k)).1, ⟨#[]⟩), .int .i64 (resS (colN R k)).2])) := by
  obtain ⟨S, hs⟩ := hs
  obtain ⟨A, c, rfl, hnc, hc⟩ := hs.form
  have Hk := Lib.hid hk; have Hn := Lib.hid hn
  clear hk hn
  obtain ⟨res, hres⟩ : ∃ r, r = resS (colN R k) := ⟨_, rfl⟩
  rw [← hres]
  have Hres := Lib.hid (hres.trans (lessS_res _).symm)
  clear hres
  obtain ⟨W0, hW0⟩ : ∃ W, W = ((w.alloc (.cells #[.int .i64 0, .int .i64 0, .string ⟨#[]⟩] 51)).alloc (.cells #[.int .u64 0, .int .u64 0] 85)).alloc (.cells #[.int .u64 0, .int .u64 0] 85) := ⟨_, rfl⟩
  have hz1 : (w.alloc (.cells #[.int .i64 0, .int .i64 0, .string ⟨#[]⟩] 51)).heap.size = w.heap.size + 1 := by simp
  have hz2 : ((w.alloc (.cells #[.int .i64 0, .int .i64 0, .string ⟨#[]⟩] 51)).alloc (.cells #[.int .u64 0, .int .u64 0] 85)).heap.size = w.heap.size + 2 := by simp
  have b1 := (Below.refl w.heap.size w).alloc (Nat.le_refl _) (.cells #[.int .i64 0, .int .i64 0, .string ⟨#[]⟩] 51)
  have b2 := (Below.refl _ (w.alloc (.cells #[.int .i64 0, .int .i64 0, .string ⟨#[]⟩] 51))).alloc (Nat.le_refl _) (.cells #[.int .u64 0, .int .u64 0] 85)
  have b3 := (Below.refl _ ((w.alloc (.cells #[.int .i64 0, .int .i64 0, .string ⟨#[]⟩] 51)).alloc (.cells #[.int .u64 0, .int .u64 0] 85))).alloc (Nat.le_refl _) (.cells #[.int .u64 0, .int .u64 0] 85)
  have T0 : W0.heap[w.heap.size]? = some (.cells #[.int .i64 0, .int .i64 0, .string ⟨#[]⟩] 51 (0, 0)) := by
    rw [hW0]
    exact (b3.block _ (by omega)).trans ((b2.block _ (by omega)).trans (heap_alloc_new w _))
  have T1 : W0.heap[w.heap.size + 1]? = some (.cells #[.int .u64 0, .int .u64 0] 85 (0, 0)) := by
    rw [hW0]
    refine (b3.block _ (by omega)).trans ?_
    have := heap_alloc_new (w.alloc (.cells #[.int .i64 0, .int .i64 0, .string ⟨#[]⟩] 51)) (.cells #[.int .u64 0, .int .u64 0] 85)
    rw [hz1] at this
    exact this
  have T2 : W0.heap[w.heap.size + 2]? = some (.cells #[.int .u64 0, .int .u64 0] 85 (0, 0)) := by
    rw [hW0]
    have := heap_alloc_new ((w.alloc (.cells #[.int .i64 0, .int .i64 0, .string ⟨#[]⟩] 51)).alloc (.cells #[.int .u64 0, .int .u64 0] 85)) (.cells #[.int .u64 0, .int .u64 0] 85)
    rw [hz2] at this
    exact this
  have hb0 : Below w.heap.size w W0 := by rw [hW0]; exact (b1.trans (b2.mono (by omega))).trans (b3.mono (by omega))
  have HW0 := Lib.hid hW0
  have hz1 := hz1; have hz2 := hz2
  clear hW0 b1 b2 b3
  go_enter Tryz.func38, Tryz.ntmps38
  go_wp2_with fail
  rw [← HW0.out]
  clear hz1 hz2
  try go_frame
  go_loopw [28] (fun i X => ∃ m : Nat, i = .int .i64 (m : Int) ∧ m ≤ R.length ∧ SumAt X (w.heap.size + 1) (sumS 1 ((colN R k).take m)) ∧ SumAt X (w.heap.size + 2) (sumS (-1) ((colN R k).take m)) ∧ X.heap[w.heap.size]? = some (.cells #[.int .i64 0, .int .i64 0, .string ⟨#[]⟩] 51 (0, 0)) ∧ Below w.heap.size w X) (fun i _ => R.length - (intOf i).toNat)
  case atStart => exact ⟨0, rfl, Nat.zero_le _, sum_zero T1, sum_zero T2, T0, hb0⟩
  case round =>
    obtain ⟨m, rfl, hm, hs1, hs2, hg6, hb⟩ := hrel
    rename World => X
    have hsz : w.heap.size + 2 < X.heap.size := blk_lt hs2
    by_cases hlt : m < R.length
    · obtain ⟨b, off, rfl, hbl⟩ := hs.addr (by omega)
      have hin := hs.below hb
      have c0 := hin.cell m hlt
      have hr := hs.2 m hlt
      obtain ⟨hkr, hi1, hi2⟩ := Hk.out _ (vr_mem hlt)
      obtain ⟨Ar, cr, hSr, hnr, hcr⟩ := hr.form
      rw [hSr] at c0 hr
      obtain ⟨br, ofr, rfl, hbr⟩ := hr.addr (by omega)
      have v1 := (hb.cell (p := ⟨br, ofr + k * 3 + 1, none⟩) hbr).trans (hr.c1 k hkr)
      have hcl : (colN R k).length = R.length := by simp [colN]
      have HT : Hid ((colN R k).take (m + 1) = (colN R k).take m ++ [(va (vr R m) k).2.1]) := Lib.hid (by
        rw [List.take_succ_eq_append_getElem (by omega)]
        simp [colN, vr_at hlt])
      have hall : ∀ n ∈ (colN R k).take m, -9223372036854775808 ≤ n ∧ n ≤ 9223372036854775807 := fun n hn => by
        obtain ⟨r, hr, rfl⟩ := List.mem_map.1 (List.mem_of_mem_take hn)
        exact (Hk.out r hr).2
      have hl1 := sumS_le (t := 1) (.inl rfl) _ hall
      have hl2 := sumS_le (t := -1) (.inr rfl) _ hall
      have hn := Hn.out
      rw [List.length_take] at hl1 hl2
      have a1 := (addS_one (va (vr R m) k).2.1).2.1
      have a2 := (addS_one (va (vr R m) k).2.1).2.2
      have hmin : min m (colN R k).length ≤ 1000000 := by omega
      generalize (colN R k).take m = L at *
      generalize vr R m = row at *
      have hkl : k < row.length := hkr
      generalize (va row k).2.1 = x at *
      have K1 := Lib.hid (sumadd_c (w.heap.size + 1) (sumS 1 L) x 1 X hs1 ⟨hi1, hi2⟩ (by omega) (by omega) (by omega))
      have HR2 := Lib.hid hs2; have HG6 := Lib.hid hg6
      clear hs1 hs2 hg6 T0 T1 T2 hb0 hin hr hall hSr
      go_wp2_with fail
      refine K1.out.mono ?_
      rintro e W1 ⟨rfl, hs1, hon1⟩
      have hb1 : Below w.heap.size w W1 := hb.trans (hon1.bel.mono (by omega))
      have hs2 : SumAt W1 (w.heap.size + 2) (sumS (-1) L) := (hon1.oth _ hsz (by omega)).trans HR2.out
      have hg6 := (hon1.oth w.heap.size (by omega) (by omega)).trans HG6.out
      have v2 := (hon1.oth br (by omega) (by omega))
      have v1 : W1.cell? ⟨br, ofr + k * 3 + 1, none⟩ = some (.int .i64 x) := (World.cell?_of_block v2).trans v1
      have K2 := Lib.hid (sumadd_c (w.heap.size + 2) (sumS (-1) L) x (-1) W1 hs2 ⟨hi1, hi2⟩ (by omega) (by omega) (by omega))
      have Hs1 := Lib.hid hs1; have HG6 := Lib.hid hg6
      clear hs1 hs2 hg6 v2 hon1
      go_wp2_with fail
      refine K2.out.mono ?_
      rintro e W2 ⟨rfl, hs2, hon2⟩
      have hb2 : Below w.heap.size w W2 := hb1.trans (hon2.bel.mono (by omega))
      have hs1 : SumAt W2 (w.heap.size + 1) (sumS 1 L + addS x 1) := (hon2.oth _ (blk_lt Hs1.out) (by omega)).trans Hs1.out
      have hg6 := (hon2.oth w.heap.size (blk_lt HG6.out) (by omega)).trans HG6.out
      have Hs1 := Lib.hid hs1; have Hs2 := Lib.hid hs2; have HG6 := Lib.hid hg6
      clear hs1 hs2 hg6 hon2
      go_wp2_with fail
      go_roundw
      case rel => exact ⟨m + 1, by go_num, hlt, by rw [HT.out, sumS_append]; exact Hs1.out, by rw [HT.out, sumS_append]; exact Hs2.out, HG6.out, hb2⟩
      case measure => simp [intOf]; omega
    · obtain rfl : m = R.length := by omega
      have hcl : (colN R k).length = R.length := by simp [colN]
      rw [← hcl, List.take_length] at hs1 hs2
      have hall : ∀ n ∈ colN R k, -9223372036854775808 ≤ n ∧ n ≤ 9223372036854775807 := fun n hn => by
        obtain ⟨r, hr, rfl⟩ := List.mem_map.1 hn
        exact (Hk.out r hr).2
      have hl1 := sumS_le (t := 1) (.inl rfl) _ hall
      have hl2 := sumS_le (t := -1) (.inr rfl) _ hall
      have hn := Hn.out
      have K3 := Lib.hid (sumless_c (sumS 1 (colN R k)) (sumS (-1) (colN R k)) (by omega) (by omega) X)
      rw [← Hres.out] at K3
      have p0 := blk_get hs1 0
      have p1 := blk_get hs1 1
      have m0 := blk_get hs2 0
      have m1 := blk_get hs2 1
      simp at p0 p1 m0 m1
      have HG6 := Lib.hid hg6
      clear hs1 hs2 hg6 T0 T1 T2 hb0 hl1 hl2 hall
      go_wp2_with fail
      refine K3.out.mono ?_
      rintro e W1 ⟨rfl, hb1⟩
      have hg6 := (hb1.block w.heap.size (by omega)).trans HG6.out
      have g0 := blk_soft hg6 0
      have g1 := blk_soft hg6 1
      have g2 := blk_soft hg6 2
      have q0 := blk_get hg6 0
      have q1 := blk_get hg6 1
      have q2 := blk_get hg6 2
      simp at q0 q1 q2
      have HG6 := Lib.hid hg6
      have hbw : Below w.heap.size w W1 := hb.trans (hb1.mono hb.size)
      clear hg6 hb1
      go_wp2_with fail
      have hfin := blk_set (blk_set (blk_set HG6.out 0 (.int .i64 1)) 1 (.int .i64 res.1)) 2 (.string ⟨#[]⟩)
      simp at hfin
      refine bodyPost_ret (results_cell_row2 rfl _ _ w.heap.size 51 _ _ _ rfl hfin Tryz.underlying51 rfl (by kernel_rfl)) rfl ?_
      exact ⟨rfl, ((hbw.setCell (p := ⟨w.heap.size, 0, none⟩) (Nat.le_refl _) _).setCell (p := ⟨w.heap.size, 1, none⟩) (Nat.le_refl _) _).setCell (p := ⟨w.heap.size, 2, none⟩) (Nat.le_refl _) _⟩
/-! ### the least and the greatest value -/
theorem below_row {B g : Nat} {w0 w : World} (hb : Below B w0 w) (hg : B ≤ g) (cs : Array Value) : Below B w0 (w.setRow g cs) :=
  hb.trans ⟨rfl, rfl, rfl, by simp, fun i hi => setRow_other w g i cs (by omega)⟩
def bst (fn : Int) (b x : Val) : Val := if (fn = 3 ∧ cmpV x b < 0) ∨ (fn = 4 ∧ 0 < cmpV x b) then x else b
def colV (R : List VRow) (k : Nat) : List Val := R.map fun r => va r k
def bestV (fn : Int) : List Val → Val
  | [] => (0, 0, ⟨#[]⟩)
  | v :: l => l.foldl (bst fn) v
set_option maxRecDepth 100000 in
set_option maxHeartbeats 4000000 in
theorem aresult_best (v : Value) (R : List VRow) (k : Nat) (fn : Int) (w : World) (hs : IsRv w v R) (hn : 0 < R.length) (hk : ∀ r ∈ R, k < r.length ∧ vB (va r k) = true) (hf : fn = 3 ∨ fn = 4) :
    Calls Tryz.prog 38 #[v, .int .i64 fn, .int .i64 (k : Int)] w (Ret w (.tuple #[encV (bestV fn (colV R k)), .int .i64 0])) := by
  obtain ⟨S, hs⟩ := hs
  obtain ⟨A, c, rfl, hnc, hc⟩ := hs.form
  obtain ⟨b, off, rfl, hbl⟩ := hs.addr hn
  have Hk := Lib.hid hk
  clear hk
  have hf1 : (fn == 1) = false := by rcases hf with rfl | rfl <;> rfl
  have hf2 : (fn == 2) = false := by rcases hf with rfl | rfl <;> rfl
  have Hf := Lib.hid hf
  clear hf
  have c0 := hs.cell 0 hn
  have hr := hs.2 0 hn
  have hk0 := (Hk.out _ (vr_mem hn)).1
  obtain ⟨Ar, cr, hSr, hnr, hcr⟩ := hr.form
  rw [hSr] at c0 hr
  obtain ⟨br, ofr, rfl, hbr⟩ := hr.addr (by omega)
  have x0 := hr.c0 k hk0
  have x1 := hr.c1 k hk0
  have x2 := hr.c2 k hk0
  rw [Nat.add_zero] at c0
  obtain ⟨row, hrow⟩ : ∃ r, r = vr R 0 := ⟨_, rfl⟩
  rw [← hrow] at x0 x1 x2 c0 hnr hk0
  have Hv0 : Hid (vB (va row k) = true) := Lib.hid (by rw [hrow]; exact (Hk.out _ (vr_mem hn)).2)
  have HV : Hid (colV R k = va row k :: (colV R k).drop 1) := Lib.hid (by
    have h0 : 0 < (colV R k).length := by unfold colV; rw [List.length_map]; exact hn
    have h1 : (colV R k)[0] = va row k := by rw [hrow, ← vr_at hn]; simp [colV]
    rw [← h1]
    exact (List.drop_eq_getElem_cons h0 : (colV R k).drop 0 = _))
  clear hr hrow hSr
  obtain ⟨⟨v0k, v0n, v0s⟩, hv0⟩ : ∃ v, v = va row k := ⟨_, rfl⟩
  rw [← hv0] at x0 x1 x2 Hv0 HV
  simp only at x0 x1 x2
  have hkl : k < row.length := hk0
  clear hv0
  have hn1 : 1 ≤ R.length := hn
  obtain ⟨o2, ho2⟩ : ∃ o, o = if c = 1 then off else off + 1 := ⟨_, rfl⟩
  have hinR : Hid (∀ m, m + 1 < R.length → w.cell? ⟨b, o2 + m, none⟩ = some (S (m + 1))) := Lib.hid fun m hm => by
    have hc1 : c ≠ 1 := by omega
    rw [ho2, if_neg hc1, Nat.add_assoc, Nat.add_comm 1 m]
    exact hs.cell (m + 1) hm
  have hin2 : Hid (∀ m, m + 1 < R.length → IsVals w (S (m + 1)) (vr R (m + 1))) := Lib.hid fun m hm => hs.2 (m + 1) hm
  obtain ⟨W0, hW0⟩ : ∃ W, W = (w.alloc (.cells #[.int .i64 0, .int .i64 0, .string ⟨#[]⟩] 51)).alloc (.cells #[.int .i64 v0k, .int .i64 v0n, .string v0s] 51) := ⟨_, rfl⟩
  have hz1 : (w.alloc (.cells #[.int .i64 0, .int .i64 0, .string ⟨#[]⟩] 51)).heap.size = w.heap.size + 1 := by simp
  have hbA := (Below.refl w.heap.size w).alloc (Nat.le_refl _) (.cells #[.int .i64 0, .int .i64 0, .string ⟨#[]⟩] 51)
  have b2 := (Below.refl _ (w.alloc (.cells #[.int .i64 0, .int .i64 0, .string ⟨#[]⟩] 51))).alloc (Nat.le_refl _) (.cells #[.int .i64 v0k, .int .i64 v0n, .string v0s] 51)
  have T0 : W0.heap[w.heap.size]? = some (.cells #[.int .i64 0, .int .i64 0, .string ⟨#[]⟩] 51 (0, 0)) := by
    rw [hW0]
    exact (b2.block _ (by omega)).trans (heap_alloc_new w _)
  have T1 : W0.heap[w.heap.size + 1]? = some (.cells #[.int .i64 v0k, .int .i64 v0n, .string v0s] 51 (0, 0)) := by
    rw [hW0]
    have := heap_alloc_new (w.alloc (.cells #[.int .i64 0, .int .i64 0, .string ⟨#[]⟩] 51)) (.cells #[.int .i64 v0k, .int .i64 v0n, .string v0s] 51)
    rw [hz1] at this
    exact this
  have hb0 : Below w.heap.size w W0 := by rw [hW0]; exact hbA.trans (b2.mono (by omega))
  have c0 := (hbA.cell (p := ⟨b, off, none⟩) hbl).trans c0
  have x0 := (hbA.cell (p := ⟨br, ofr + k * 3, none⟩) hbr).trans x0
  have x1 := (hbA.cell (p := ⟨br, ofr + k * 3 + 1, none⟩) hbr).trans x1
  have x2 := (hbA.cell (p := ⟨br, ofr + k * 3 + 2, none⟩) hbr).trans x2
  have HW0 := Lib.hid hW0
  clear hW0 b2 hbA hs
  obtain ⟨T, hT⟩ : ∃ T, T = (colV R k).drop 1 := ⟨_, rfl⟩
  rw [← hT] at HV
  have hTl : T.length = R.length - 1 := by rw [hT]; simp [colV]
  have HTg : Hid (∀ m (h : m < T.length), T[m] = va (vr R (m + 1)) k) := Lib.hid fun m h => by
    subst hT
    have hm : m + 1 < R.length := by rw [hTl] at h; omega
    rw [List.getElem_drop]
    have e : 1 + m = m + 1 := Nat.add_comm 1 m
    simp only [e, colV, List.getElem_map, vr_at hm]
  have HTl := Lib.hid hTl
  clear hT hTl
  have HRes : Hid (bestV fn (colV R k) = T.foldl (bst fn) (v0k, v0n, v0s)) := Lib.hid (by rw [HV.out]; rfl)
  generalize bestV fn (colV R k) = res at HRes ⊢
  clear HV
  go_enter Tryz.func38, Tryz.ntmps38
  go_wp2_with fail
  all_goals
    rw [← HW0.out]
    first
      | (rw [show off + 1 = o2 from by rw [ho2, if_neg (by assumption)]])
      | (rw [show off = o2 from by rw [ho2, if_pos (by assumption)]])
    clear ho2
    try go_frame
    go_loopw [63] (fun i X => ∃ (m : Nat) (bv : Val), i = .int .i64 (m : Int) ∧ m + 1 ≤ R.length ∧ Hid ((T.take m).foldl (bst fn) (v0k, v0n, v0s) = bv) ∧ Hid (vB bv = true) ∧ X.heap[w.heap.size + 1]? = some (.cells #[.int .i64 bv.1, .int .i64 bv.2.1, .string bv.2.2] 51 (0, 0)) ∧ X.heap[w.heap.size]? = some (.cells #[.int .i64 0, .int .i64 0, .string ⟨#[]⟩] 51 (0, 0)) ∧ Below w.heap.size w X) (fun i _ => R.length - (intOf i).toNat)
    case atStart => exact ⟨0, (v0k, v0n, v0s), rfl, hn1, Lib.hid rfl, Hv0, T1, T0, hb0⟩
    case round =>
      obtain ⟨m, ⟨bk, bn, bs⟩, rfl, hm, HB, HVb, hbx, hg6, hb⟩ := hrel
      rename World => X
      simp only at hbx
      have hszX : w.heap.size + 1 < X.heap.size := blk_lt hbx
      by_cases hlt : m + 1 < R.length
      · have c0 := (hb.cell (p := ⟨b, o2 + m, none⟩) hbl).trans (hinR.out m hlt)
        have hr := hin2.out m hlt
        obtain ⟨hkr, hvr⟩ := Hk.out _ (vr_mem hlt)
        obtain ⟨Am, cm, hSm, hnm, hcm⟩ := hr.form
        rw [hSm] at c0 hr
        obtain ⟨bm, om, rfl, hbm⟩ := hr.addr (by omega)
        have y0 := (hb.cell (p := ⟨bm, om + k * 3, none⟩) hbm).trans (hr.c0 k hkr)
        have y1 := (hb.cell (p := ⟨bm, om + k * 3 + 1, none⟩) hbm).trans (hr.c1 k hkr)
        have y2 := (hb.cell (p := ⟨bm, om + k * 3 + 2, none⟩) hbm).trans (hr.c2 k hkr)
        have hmT : m < T.length := by rw [HTl.out]; omega
        have HT : Hid (T.take (m + 1) = T.take m ++ [va (vr R (m + 1)) k]) := Lib.hid (by rw [List.take_succ_eq_append_getElem hmT, HTg.out m hmT])
        have hkm : k < (vr R (m + 1)).length := hkr
        generalize vr R (m + 1) = rm at *
        obtain ⟨⟨xk, xn, xs⟩, hx⟩ : ∃ v, v = va rm k := ⟨_, rfl⟩
        rw [← hx] at y0 y1 y2 hvr HT
        simp only at y0 y1 y2
        have HVx := Lib.hid hvr
        clear hx hr hSm hvr
        have hbmX : bm < X.heap.size := Nat.lt_of_lt_of_le hbm hb.size
        have z0 := blk_get hbx 0
        have z1 := blk_get hbx 1
        have z2 := blk_get hbx 2
        simp at z0 z1 z2
        have e0 := fun x : BW X => bw_cell x y0 hbmX
        have e1 := fun x : BW X => bw_cell x y1 hbmX
        have e2 := fun x : BW X => bw_cell x y2 hbmX
        have e3 := fun x : BW X => bw_cell x z0 hszX
        have e4 := fun x : BW X => bw_cell x z1 hszX
        have e5 := fun x : BW X => bw_cell x z2 hszX
        have KC : Hid (∀ Y, Calls Tryz.prog 65 #[.agg #[.int .i64 xk, .int .i64 xn, .string xs], .agg #[.int .i64 bk, .int .i64 bn, .string bs]] Y (Ret Y (.int .i64 (cmpV (xk, xn, xs) (bk, bn, bs))))) := Lib.hid fun Y => (vCompare_c (xk, xn, xs) (bk, bn, bs) Y).mono fun _ _ ⟨he, hw⟩ => ⟨by rw [he, HVx.out, HVb.out]; rfl, gw_below hw⟩
        obtain ⟨d, hd⟩ : ∃ d, d = cmpV (xk, xn, xs) (bk, bn, bs) := ⟨_, rfl⟩
        rw [← hd] at KC
        have Hd := Lib.hid hd
        clear hd z0 z1 z2
        have hm1 : (m : Int) < (R.length : Int) - 1 := by omega
        have hm2 : m < R.length - 1 := by omega
        go_wp2_with fail
        refine wp_region_below (by kernel_rfl) (by kernel_rfl) ?_
        repeat (go_big_quiet_step ((go_at_call 65; exact calls_bw _ (KC.out _))))
        refine wpQuiet_nil ?_
        rintro w5 ⟨⟨_, hb5⟩, rfl⟩
        have y0 := (hb5.cell (p := ⟨bm, om + k * 3, none⟩) hbmX).trans y0
        have y1 := (hb5.cell (p := ⟨bm, om + k * 3 + 1, none⟩) hbmX).trans y1
        have y2 := (hb5.cell (p := ⟨bm, om + k * 3 + 2, none⟩) hbmX).trans y2
        have hbx2 := (hb5.block _ hszX).trans hbx
        have hg6 := (hb5.block _ (by omega)).trans hg6
        have hb6 := hb.trans (hb5.mono hb.size)
        have z0 := blk_get hbx2 0
        have z1 := blk_get hbx2 1
        have z2 := blk_get hbx2 2
        have s0 := blk_soft hbx2 0
        have s1 := blk_soft hbx2 1
        have s2 := blk_soft hbx2 2
        simp at z0 z1 z2
        clear e0 e1 e2 e3 e4 e5 hb5 hbx
        have hcas : ((fn == 3) = true ∧ (fn == 4) = false) ∨ ((fn == 3) = false ∧ (fn == 4) = true) := by rcases Hf.out with e | e <;> (rw [e]; decide)
        rcases hcas with ⟨f3, f4⟩ | ⟨f3, f4⟩
        · have F3 := Lib.hid f3; have F4 := Lib.hid f4
          cases q : decide (d < 0)
          · have Hb6 := Lib.hid hb6
            clear hb6
            go_wp2_with fail
            go_roundw
            case rel => exact ⟨m + 1, (bk, bn, bs), by go_num, by omega, Lib.hid (by rw [HT.out, List.foldl_append, HB.out]; show bst _ _ _ = _; unfold bst; rw [if_neg (by rintro (⟨_, h⟩ | ⟨h, _⟩); exact (of_decide_eq_false q) (Hd.out ▸ h); have e := F4.out; rw [h] at e; cases e)]), HVb, hbx2, hg6, Hb6.out⟩
            case measure => simp [intOf]; omega
          · have Hb6 := Lib.hid hb6
            clear hb6
            go_wp2_with (refine wpList_store_row rfl 51 _ _ (by rfl) (w.heap.size + 1) #[.int .i64 xk, .int .i64 xn, .string xs] (by rfl) (by rfl) 51 _ hbx2 (by kernel_rfl) rfl (by simp [Value.oneCell']) ?_)
            have hst := setRow_heap w5 (w.heap.size + 1) _ #[.int .i64 xk, .int .i64 xn, .string xs] _ _ hbx2
            have hg := (setRow_other w5 (w.heap.size + 1) w.heap.size #[.int .i64 xk, .int .i64 xn, .string xs] (by omega)).trans hg6
            have hbe := below_row Hb6.out (Nat.le_succ w.heap.size) #[.int .i64 xk, .int .i64 xn, .string xs]
            have HST := Lib.hid hst; have HG := Lib.hid hg; have HBE := Lib.hid hbe
            clear hst hg hbe hbx2 hg6
            go_roundw
            case rel => exact ⟨m + 1, (xk, xn, xs), by go_num, by omega, Lib.hid (by rw [HT.out, List.foldl_append, HB.out]; show bst _ _ _ = _; unfold bst; rw [if_pos (.inl ⟨eq_of_beq F3.out, Hd.out ▸ of_decide_eq_true q⟩)]), HVx, HST.out, HG.out, HBE.out⟩
            case measure => simp [intOf]; omega
        · have F3 := Lib.hid f3; have F4 := Lib.hid f4
          cases q : decide (0 < d)
          · have Hb6 := Lib.hid hb6
            clear hb6
            go_wp2_with fail
            go_roundw
            case rel => exact ⟨m + 1, (bk, bn, bs), by go_num, by omega, Lib.hid (by rw [HT.out, List.foldl_append, HB.out]; show bst _ _ _ = _; unfold bst; rw [if_neg (by rintro (⟨h, _⟩ | ⟨_, h⟩); have e := F3.out; rw [h] at e; cases e; exact (of_decide_eq_false q) (Hd.out ▸ h))]), HVb, hbx2, hg6, Hb6.out⟩
            case measure => simp [intOf]; omega
          · have Hb6 := Lib.hid hb6
            clear hb6
            go_wp2_with (refine wpList_store_row rfl 51 _ _ (by rfl) (w.heap.size + 1) #[.int .i64 xk, .int .i64 xn, .string xs] (by rfl) (by rfl) 51 _ hbx2 (by kernel_rfl) rfl (by simp [Value.oneCell']) ?_)
            have hst := setRow_heap w5 (w.heap.size + 1) _ #[.int .i64 xk, .int .i64 xn, .string xs] _ _ hbx2
            have hg := (setRow_other w5 (w.heap.size + 1) w.heap.size #[.int .i64 xk, .int .i64 xn, .string xs] (by omega)).trans hg6
            have hbe := below_row Hb6.out (Nat.le_succ w.heap.size) #[.int .i64 xk, .int .i64 xn, .string xs]
            have HST := Lib.hid hst; have HG := Lib.hid hg; have HBE := Lib.hid hbe
            clear hst hg hbe hbx2 hg6
            go_roundw
            case rel => exact ⟨m + 1, (xk, xn, xs), by go_num, by omega, Lib.hid (by rw [HT.out, List.foldl_append, HB.out]; show bst _ _ _ = _; unfold bst; rw [if_pos (.inr ⟨eq_of_beq F4.out, Hd.out ▸ of_decide_eq_true q⟩)]), HVx, HST.out, HG.out, HBE.out⟩
            case measure => simp [intOf]; omega
      · have hRm : R.length = m + 1 := by omega
        have hTm : T.take m = T := List.take_of_length_le (by rw [HTl.out]; omega)
        have HRb : Hid (res = (bk, bn, bs)) := Lib.hid (by rw [HRes.out, ← HB.out, hTm])
        have z0 := blk_get hbx 0
        have z1 := blk_get hbx 1
        have z2 := blk_get hbx 2
        have g0 := blk_soft hg6 0
        have g1 := blk_soft hg6 1
        have g2 := blk_soft hg6 2
        have q0 := blk_get hg6 0
        have q1 := blk_get hg6 1
        have q2 := blk_get hg6 2
        simp at z0 z1 z2 q0 q1 q2
        have HG6 := Lib.hid hg6
        have hm1 : ¬ (m : Int) < (R.length : Int) - 1 := by omega
        have hm2 : ¬ m < R.length - 1 := by omega
        have hm3 : R.length - 1 = m := by omega
        clear hg6 hbx hTm hRm
        go_wp2_with fail
        have hfin := blk_set (blk_set (blk_set HG6.out 0 (.int .i64 bk)) 1 (.int .i64 bn)) 2 (.string bs)
        simp at hfin
        refine bodyPost_ret (results_cell_row2 rfl _ _ w.heap.size 51 _ _ _ rfl hfin Tryz.underlying51 rfl (by kernel_rfl)) rfl ?_
        exact ⟨by rw [HRb.out]; rfl, ((hb.setCell (p := ⟨w.heap.size, 0, none⟩) (Nat.le_refl _) _).setCell (p := ⟨w.heap.size, 1, none⟩) (Nat.le_refl _) _).setCell (p := ⟨w.heap.size, 2, none⟩) (Nat.le_refl _) _⟩
end Go.Proofs.YtohjgegnamcnlaaGreat
