/- Law 39: the reference's Total. -/
import Derived.Test.YtohjgegnamcnlaaGreatAjL
import Derived.Test.YtohjgegnamcnlaaGreatAjT
namespace Go.Proofs.YtohjgegnamcnlaaGreat
open Go.RowKit Go.Shelf

/-- A step of Total: the four carries. -/
structure CarS (B x v d h0 l0 : Int) (pa pb pc pd : Int) (r1 r2 r3 r4 : Int × Int) : Prop where
  e1 : carR 32768 140737488355328 h0 l0 pa = r1
  e2 : carR 2147483648 2147483648 r1.1 r1.2 pb = r2
  e3 : carR 140737488355328 32768 r2.1 r2.2 pc = r3
  e4 : carR 4611686018427387904 1 r3.1 r3.2 pd = r4
  d1 : Dig (B + 1099511627777) (x + pa * 140737488355328) r1.1 r1.2
  d2 : Dig (B + 1099511627777 + 1099511627777) (x + pa * 140737488355328 + pb * 2147483648) r2.1 r2.2
  d3 : Dig (B + 1099511627777 + 1099511627777 + 1099511627777) (x + pa * 140737488355328 + pb * 2147483648 + pc * 32768) r3.1 r3.2
  d4 : Dig (B + 4398046511108) (x + v * d) r4.1 r4.2
def i55 (p : Int) : Prop := -36028797018963968 ≤ p ∧ p ≤ 36028797018963968
theorem carS_of {B x v d h0 l0 v1 v0 ha xb yc wd : Int} (hd : Dig B x h0 l0) (e1 : v = v1 * 2147483648 + v0) (e2 : v1 = ha * 65536 + xb) (e3 : v0 = yc * 32768 + wd) (b1 : i55 (ha * d)) (b2 : i55 (xb * d)) (b3 : i55 (yc * d)) (b4 : i55 (wd * d)) : ∃ r1 r2 r3 r4, CarS B x v d h0 l0 (ha * d) (xb * d) (yc * d) (wd * d) r1 r2 r3 r4 := by
  have h1 := carR_dig (K := 32768) (S := 140737488355328) hd (by rfl) (by omega) (by omega) b1 (by omega)
  have h2 := carR_dig (K := 2147483648) (S := 2147483648) h1 (by rfl) (by omega) (by omega) b2 (by omega)
  have h3 := carR_dig (K := 140737488355328) (S := 32768) h2 (by rfl) (by omega) (by omega) b3 (by omega)
  have h4 := carR_dig (K := 4611686018427387904) (S := 1) h3 (by rfl) (by omega) (by omega) b4 (by omega)
  have e := prod_parts (d := d) e1 e2 e3
  refine ⟨_, _, _, _, rfl, rfl, rfl, rfl, h1, h2, h3, ?_⟩
  have e5 : x + ha * d * 140737488355328 + xb * d * 2147483648 + yc * d * 32768 + wd * d * 1 = x + v * d := by omega
  rw [e5] at h4
  exact h4.mono (by omega)
/-- The parts of a number, and the products with a length. -/
theorem parts_of {v d : Int} (hv : -9223372036854775808 ≤ v ∧ v ≤ 9223372036854775807) (hd : 0 ≤ d ∧ d ≤ 549755813888) :
    (-4294967296 ≤ v / 2147483648 ∧ v / 2147483648 ≤ 4294967296) ∧ (0 ≤ v % 2147483648 ∧ v % 2147483648 < 2147483648) ∧ i55 (v / 2147483648 / 65536 * d) ∧ i55 (v / 2147483648 % 65536 * d) ∧ i55 (v % 2147483648 / 32768 * d) ∧ i55 (v % 2147483648 % 32768 * d) := by
  have key : ∀ a : Int, -65536 ≤ a ∧ a ≤ 65536 → i55 (a * d) := fun a ha => by
    have := prod_bound (A := 65536) (D := 549755813888) (a := a) (d := d) (by omega) (by omega)
    unfold i55
    omega
  exact ⟨by omega, by omega, key _ (by omega), key _ (by omega), key _ (by omega), key _ (by omega)⟩
set_option maxRecDepth 100000 in
set_option maxHeartbeats 16000000 in
theorem r39Total_c (v : Value) (F : List Fct) (colI : Int) (q : Sp) (w : World) (hs : IsFs w v F) (hm : MachF F) (hn : F.length ≤ 16) (hsm : ∀ f ∈ F, ∀ x ∈ f.1, x.2.2.size ≤ 1000000000) : Calls Tryz.prog 14 #[v, .int .i64 colI, .agg #[.int .i64 q.1, .int .i64 q.2]] w (Ret w (.tuple #[.int .i64 (TotS F colI q).1, .int .i64 (TotS F colI q).2])) := by
  have KV : Hid (∀ X, Below w.heap.size w X → Calls Tryz.prog 18 #[v] X (Ret X (.bool (validF F)))) := Lib.hid fun X h => r39Valid_c v F X (hs.below h)
  have KS : Hid (∀ X, Calls Tryz.prog 53 #[.agg #[.int .i64 q.1, .int .i64 q.2]] X (Ret X (.bool (spT q)))) := Lib.hid fun X => r39Span_c q X
  have KN : Hid (validF F = true → ∀ X, Below w.heap.size w X → Calls Tryz.prog 47 #[v] X (NormRet F X)) := Lib.hid fun hv X h => r39Normal_c v F X (hs.below h) (by omega) (fun f hf => (spT_ok ((valid_rows hv).2 f hf).2.1).1) hsm (fun f hf => ((valid_rows hv).2 f hf).1.1)
  obtain ⟨S, hs⟩ := hs
  obtain ⟨A, cc, rfl, hnc, hcc⟩ := hs.form
  obtain ⟨res, hres⟩ : ∃ r, r = TotS F colI q := ⟨_, rfl⟩
  rw [← hres]
  have HRes := Lib.hid hres; have Hm := Lib.hid hm
  clear hres hm hsm
  obtain ⟨q1, q2⟩ := q
  simp only at KS ⊢
  obtain ⟨W0, hW0⟩ : ∃ W, W = w.alloc (.cells #[.int .i64 q1, .int .i64 q2] 34) := ⟨_, rfl⟩
  have hT : W0.heap[w.heap.size]? = some (.cells #[.int .i64 q1, .int .i64 q2] 34 (0, 0)) := by rw [hW0]; exact heap_alloc_new w _
  have hb0 : Below w.heap.size w W0 := by rw [hW0]; exact (Below.refl _ _).alloc (Nat.le_refl _) _
  have HT : Hid (∀ X, Below W0.heap.size W0 X → X.heap[w.heap.size]? = some (.cells #[.int .i64 q1, .int .i64 q2] 34 (0, 0))) := Lib.hid fun X h => (h.block _ (blk_lt hT)).trans hT
  have HW0 := Lib.hid hW0; have HB0 := Lib.hid hb0
  clear hW0 hT hb0
  go_enter Tryz.func14, Tryz.ntmps14
  go_wp2_with fail
  rw [← HW0.out]
  refine (KV.out W0 HB0.out).mono ?_
  rintro e W1 ⟨rfl, hb1⟩
  have HB1 := Lib.hid (HB0.out.trans (hb1.mono HB0.out.size))
  cases hv : validF F
  · have HF : Hid (res = (0, 1)) := Lib.hid (by rw [HRes.out]; exact tots_bad (by rw [hv]; rfl))
    clear hv
    go_wp2_with fail
    go_ret2
    exact ⟨by rw [HF.out]; rfl, HB1.out⟩
  have t1 := HT.out W1 hb1
  have x0 := blk_get t1 0
  have x1 := blk_get t1 1
  simp at x0 x1
  have H1 := Lib.hid hb1
  clear hb1 t1
  go_wp2_with fail
  refine (KS.out W1).mono ?_
  rintro e W2 ⟨rfl, hb2⟩
  have H2 : Hid (Below W0.heap.size W0 W2) := Lib.hid (H1.out.trans (hb2.mono H1.out.size))
  have HB2 := Lib.hid (HB1.out.trans (hb2.mono HB1.out.size))
  clear hb2 x0 x1
  cases hsp : spT (q1, q2)
  · have HF : Hid (res = (0, 1)) := Lib.hid (by rw [HRes.out]; exact tots_bad (by rw [hsp]; simp))
    clear hv hsp
    go_wp2_with fail
    go_ret2
    exact ⟨by rw [HF.out]; rfl, HB2.out⟩
  by_cases h0 : F.length = 0
  · have HF : Hid (res = (0, 0)) := Lib.hid (by
      have hF : F = [] := List.length_eq_zero_iff.1 h0
      rw [HRes.out, tots_ok (by rw [hv, hsp]; unfold hasB; rw [decide_eq_true h0]; rfl) (by rw [h0]; simp), hF, totF_nil]
      rfl)
    have f0 : ((F.length : Int) == 0) = true := by rw [h0]; rfl
    have f1 : decide ((0 : Int) < (F.length : Int)) = false := decide_eq_false (by omega)
    have f2 : ¬ 0 < F.length := by omega
    clear hv hsp
    go_wp2_with fail
    go_ret2
    exact ⟨by rw [HF.out]; rfl, HB2.out⟩
  have hp : 0 < F.length := by omega
  have f0 : ((F.length : Int) == 0) = false := by rw [beq_eq_false_iff_ne]; omega
  have f1 : decide ((0 : Int) < (F.length : Int)) = true := decide_eq_true (by omega)
  have hHas : hasB F colI = !(decide (colI < 0) || decide (((row0 F).length : Int) ≤ colI)) := by
    unfold hasB
    rw [decide_eq_false h0, Bool.false_or, Bool.not_or, ← decide_not, ← decide_not]
    congr 1 <;> rw [decide_eq_decide] <;> omega
  obtain ⟨b, off, rfl, hbl⟩ := hs.addr hp
  obtain ⟨A0, p0, hS0, _, _⟩ := (hs.2 0 hp).form
  have hrr : (fc F 0).1 = row0 F := rfl
  have hv0 := hs.2 0 hp
  have c0 := (hs.below HB2.out).c0 0 hp
  rw [hrr] at hS0 hv0
  rw [hS0] at c0 hv0
  simp only [Nat.zero_mul, Nat.add_zero] at c0
  have HV0 := Lib.hid hv0
  clear hrr hS0 hv0
  cases k1 : decide (colI < 0)
  rotate_left
  · have HF : Hid (res = (0, 1)) := Lib.hid (by rw [HRes.out]; exact tots_bad (by rw [hHas, k1]; simp))
    clear hv hsp hHas
    go_wp2_with fail
    go_ret2
    exact ⟨by rw [HF.out]; rfl, HB2.out⟩
  obtain ⟨m, rfl⟩ : ∃ m : Nat, colI = (m : Int) := ⟨colI.toNat, by have := of_decide_eq_false k1; omega⟩
  have hmt : (m : Int).toNat = m := by omega
  cases k2 : decide (((row0 F).length : Int) ≤ (m : Int))
  rotate_left
  · have HF : Hid (res = (0, 1)) := Lib.hid (by rw [HRes.out]; exact tots_bad (by rw [hHas, k1, k2]; simp))
    have k3 : decide ((row0 F).length ≤ m) = true := decide_eq_true (by have := of_decide_eq_true k2; omega)
    clear hv hsp hHas
    go_wp2_with fail
    go_ret2
    exact ⟨by rw [HF.out]; rfl, HB2.out⟩
  have k3 : decide ((row0 F).length ≤ m) = false := decide_eq_false (by have := of_decide_eq_false k2; omega)
  have hml : m < (row0 F).length := by have := of_decide_eq_false k2; omega
  have hok : (!validF F || !hasB F (m : Int) || !spT (q1, q2)) = false := by rw [hv, hHas, k1, k2, hsp]; rfl
  obtain ⟨b0, o0, rfl, hb00⟩ := HV0.out.addr (by omega)
  have y0 := (HV0.out.below HB2.out).c0 m hml
  cases k4 : ((va (row0 F) m).1 == 1)
  · have HF : Hid (res = (0, 13)) := Lib.hid (by rw [HRes.out]; exact tots_type hok ⟨h0, by rw [hmt]; intro e; rw [e] at k4; cases k4⟩)
    have k5 : ((va (row0 F) m).1 != 1) = true := by rw [bne, k4]; rfl
    generalize (va (row0 F) m).1 = kd at y0 k4 k5
    clear hv hsp hHas hok
    go_wp2_with fail
    go_ret2
    exact ⟨by rw [HF.out]; rfl, HB2.out⟩
  have HF : Hid (res = totR (totF F m (q1, q2))) := Lib.hid (by rw [HRes.out, tots_ok hok (by rw [hmt]; intro h; exact h.2 (eq_of_beq k4)), hmt])
  have k5 : ((va (row0 F) m).1 != 1) = false := by rw [bne, k4]; rfl
  generalize (va (row0 F) m).1 = kd at y0 k4 k5
  have hrowF : ∀ f ∈ F, m < f.1.length ∧ I64 (va f.1 m) := fun f hf => by
    have h1 := ((valid_rows hv).2 f hf).1.2.2
    exact ⟨by omega, Hm.out f hf _ (va_mem (by omega))⟩
  have HRow := Lib.hid hrowF
  have hq := spT_ok hsp
  unfold OkSp at hq
  have Hq : Hid (q1 < q2 ∧ -62135596800 ≤ q1 ∧ q2 ≤ 253402300800) := Lib.hid ⟨hq.1.2.1, hq.2.1, hq.2.2⟩
  have KN2 := Lib.hid (KN.out hv W2 HB2.out)
  clear hv hsp hHas hok hrowF hq hmt k1
  go_wp2_with fail
  refine KN2.out.mono ?_
  rintro e W3 ⟨vn, N, rfl, hN, hNl, ⟨SN, hNs⟩, hb3⟩
  obtain ⟨AN, cN, rfl, _, _⟩ := hNs.form
  have H3 : Hid (Below W0.heap.size W0 W3) := Lib.hid (H2.out.trans (hb3.mono H2.out.size))
  have HB3 := Lib.hid (HB2.out.trans (hb3.mono HB2.out.size))
  have hNrow : ∀ f ∈ N, m < f.1.length ∧ I64 (va f.1 m) := fun f hf => by
    have h1 := norm_mem_ok hN f hf
    unfold OkSp at h1
    obtain ⟨g, hg, e, _⟩ := (hN.pts f.1 f.2.1).1 ⟨f, hf, rfl, Int.le_refl _, h1.2.1⟩
    rw [← e]
    exact HRow.out g hg
  have HNr := Lib.hid hNrow
  have HAll := Lib.hid (totN_all hN m (q1, q2))
  have hNl5 : N.length ≤ 512 := Nat.le_trans hNl (Nat.mul_le_mul hn (show 2 * F.length ≤ 32 by omega))
  have HNs := Lib.hid hNs
  clear hb3 hN hNl hNrow hNs y0 c0 k2 k3 k4 k5 f0 f1
  go_wp2_with fail
  try go_frame
  go_loopw [8, 9, 11] (fun hi lo i X => ∃ (h l : Int) (k : Nat), hi = .int .i64 h ∧ lo = .int .i64 l ∧ i = .int .i64 (k : Int) ∧ k ≤ N.length ∧ Hid (Dig ((k : Int) * 4398046511108) (totN N m (q1, q2) k) h l) ∧ Hid (Below W3.heap.size W3 X)) (fun _ _ i _ => N.length - (intOf i).toNat)
  case atStart => exact ⟨0, 0, 0, rfl, rfl, rfl, Nat.zero_le _, Lib.hid (by rw [totN_zero]; exact Dig.start), Lib.hid (Below.refl _ _)⟩
  case round =>
    obtain ⟨h, l, k, rfl, rfl, rfl, hk, HD, HB⟩ := hrel
    rename World => X
    have HBw : Hid (Below w.heap.size w X) := Lib.hid (HB3.out.trans (HB.out.mono HB3.out.size))
    by_cases hlt : k < N.length
    · obtain ⟨bn, on, rfl, hbn⟩ := HNs.out.addr (by omega)
      have hin := HNs.out.below HB.out
      have c0 := hin.c0 k hlt
      have c1 := hin.c1 k hlt
      have c2 := hin.c2 k hlt
      have hvr := HNs.out.2 k hlt
      obtain ⟨Ar, pr, hSr, _, _⟩ := hvr.form
      rw [hSr] at c0 hvr
      obtain ⟨hmr, hi1, hi2⟩ := HNr.out _ (fc_mem hlt)
      have hsucc := totN_succ (col := m) (q := (q1, q2)) hlt Hq.out.1
      have hbnX : bn < X.heap.size := Nat.lt_of_lt_of_le hbn HB.out.size
      have t1 := HT.out X (H3.out.trans (HB.out.mono H3.out.size))
      have htl := blk_lt t1
      have x0 := blk_get t1 0
      have x1 := blk_get t1 1
      simp at x0 x1
      obtain ⟨br, ofr, rfl, hbr⟩ := hvr.addr (by omega)
      have y1 := (hvr.below HB.out).c1 m hmr
      generalize hf : fc N k = f at c0 c1 c2 hvr hmr hi1 hi2 hsucc y1
      obtain ⟨row, ⟨s1, s2⟩⟩ := f
      simp only at c0 c1 c2 hvr hmr hi1 hi2 hsucc y1
      generalize (va row m).2.1 = vv at y1 hi1 hi2 hsucc
      have Hlt := Lib.hid hlt
      have e0 := fun z : BW X => bw_cell z c1 hbnX
      have e1 := fun z : BW X => bw_cell z (show X.cell? ⟨bn, on + k * 3 + 1 + 1, none⟩ = some (.int .i64 s2) from c2) hbnX
      have e2 := fun z : BW X => bw_cell z x0 htl
      have e3 := fun z : BW X => bw_cell z x1 htl
      have hq := Hq.out
      have FB : Hid (∀ Y, Below X.heap.size X Y → Y.cell? ⟨bn, on + k * 3, none⟩ = some (.slice (some ⟨br, ofr, none⟩) row.length pr) ∧ Y.cell? ⟨br, ofr + m * 3 + 1, none⟩ = some (.int .i64 vv)) := Lib.hid fun Y h => ⟨(h.cell (p := ⟨bn, on + k * 3, none⟩) hbnX).trans c0, (h.cell (p := ⟨br, ofr + m * 3 + 1, none⟩) (Nat.lt_of_lt_of_le hbr HB.out.size)).trans y1⟩
      obtain ⟨a, ha⟩ : ∃ a, a = max s1 q1 := ⟨_, rfl⟩
      obtain ⟨z, hz⟩ : ∃ z, z = min s2 q2 := ⟨_, rfl⟩
      rw [← ha, ← hz] at hsucc
      clear hin c0 c1 c2 hvr hSr t1 x0 x1 y1 hf
      by_cases hlen : a < z
      · have HS0 := hsucc.trans (by rw [if_pos hlen])
        have hd : 0 ≤ z - a ∧ z - a ≤ 549755813888 := by omega
        obtain ⟨p1, p2, p3, p4, p5, p6⟩ := parts_of (v := vv) (d := z - a) ⟨hi1, hi2⟩ hd
        have hC0 := carS_of (v := vv) (d := z - a) (v1 := vv / 2147483648) (v0 := vv % 2147483648) (ha := vv / 2147483648 / 65536) (xb := vv / 2147483648 % 65536) (yc := vv % 2147483648 / 32768) (wd := vv % 2147483648 % 32768) HD.out (by omega) (by omega) (by omega) p3 p4 p5 p6
        have hS := HS0
        have Ha := Lib.hid ha; have Hz := Lib.hid hz; have Hlen := Lib.hid hlen
        have hD := HD.out
        unfold Dig at hD
        have hk5 : (k : Int) * 4398046511108 ≤ 600 * 4398046511108 := by omega
        obtain ⟨⟨h1, l1⟩, ⟨h2, l2⟩, ⟨h3, l3⟩, ⟨h4, l4⟩, hC⟩ := hC0
        have hd1 := hC.d1; have hd2 := hC.d2; have hd3 := hC.d3
        unfold Dig at hd1 hd2 hd3
        simp only at hd1 hd2 hd3
        have KF1 : Hid (∀ Z, Calls Tryz.prog 54 #[.int .i64 vv, .int .i64 2147483648] Z (Ret Z (.int .i64 (vv / 2147483648)))) := Lib.hid fun Z => r01Floor_c vv 2147483648 Z ⟨hi1, hi2⟩ (by omega)
        have KM1 : Hid (∀ Z, Calls Tryz.prog 55 #[.int .i64 vv, .int .i64 2147483648] Z (Ret Z (.int .i64 (vv % 2147483648)))) := Lib.hid fun Z => r01Mod_c vv 2147483648 Z ⟨hi1, hi2⟩ (by omega)
        have KF2 : Hid (∀ Z, Calls Tryz.prog 54 #[.int .i64 (vv / 2147483648), .int .i64 65536] Z (Ret Z (.int .i64 (vv / 2147483648 / 65536)))) := Lib.hid fun Z => r01Floor_c _ 65536 Z (by omega) (by omega)
        have KM2 : Hid (∀ Z, Calls Tryz.prog 55 #[.int .i64 (vv / 2147483648), .int .i64 65536] Z (Ret Z (.int .i64 (vv / 2147483648 % 65536)))) := Lib.hid fun Z => r01Mod_c _ 65536 Z (by omega) (by omega)
        have KF3 : Hid (∀ Z, Calls Tryz.prog 54 #[.int .i64 (vv % 2147483648), .int .i64 32768] Z (Ret Z (.int .i64 (vv % 2147483648 / 32768)))) := Lib.hid fun Z => r01Floor_c _ 32768 Z (by omega) (by omega)
        have KM3 : Hid (∀ Z, Calls Tryz.prog 55 #[.int .i64 (vv % 2147483648), .int .i64 32768] Z (Ret Z (.int .i64 (vv % 2147483648 % 32768)))) := Lib.hid fun Z => r01Mod_c _ 32768 Z (by omega) (by omega)
        have w1 : IntKind.i64.wrap (z - a) = z - a := by rw [IntKind.wrap_i64]; omega
        have hge : decide (z ≤ a) = false := decide_eq_false (by omega)
        have HD4 : Hid (Dig (((k + 1 : Nat) : Int) * 4398046511108) (totN N m (q1, q2) (k + 1)) h4 l4) := Lib.hid (by
          have := hC.d4
          rw [hS]
          exact this.mono (by omega))
        generalize vv / 2147483648 = v1 at *
        generalize vv % 2147483648 = v0 at *
        generalize v1 / 65536 = va1 at *
        generalize v1 % 65536 = va2 at *
        generalize v0 / 32768 = va3 at *
        generalize v0 % 32768 = va4 at *
        obtain ⟨d, hdd⟩ : ∃ d, d = z - a := ⟨_, rfl⟩
        rw [← hdd] at hC p3 p4 p5 p6 w1
        have w2 : IntKind.i64.wrap (va1 * d) = va1 * d := by unfold i55 at p3; rw [IntKind.wrap_i64]; omega
        have w3 : IntKind.i64.wrap (va2 * d) = va2 * d := by unfold i55 at p4; rw [IntKind.wrap_i64]; omega
        have w4 : IntKind.i64.wrap (va3 * d) = va3 * d := by unfold i55 at p5; rw [IntKind.wrap_i64]; omega
        have w5 : IntKind.i64.wrap (va4 * d) = va4 * d := by unfold i55 at p6; rw [IntKind.wrap_i64]; omega
        have K47 : Hid (∀ Z, Calls Tryz.prog 56 #[.int .i64 h, .int .i64 l, .int .i64 (va1 * d), .int .i64 47] Z (Ret Z (.tuple #[.int .i64 h1, .int .i64 l1]))) := Lib.hid fun Z => by
          have := r39carry47 h l (va1 * d) Z (by omega) (by omega) p3
          rw [hC.e1] at this
          exact this
        have K31 : Hid (∀ Z, Calls Tryz.prog 56 #[.int .i64 h1, .int .i64 l1, .int .i64 (va2 * d), .int .i64 31] Z (Ret Z (.tuple #[.int .i64 h2, .int .i64 l2]))) := Lib.hid fun Z => by
          have := r39carry31 h1 l1 (va2 * d) Z (by omega) (by omega) p4
          rw [show carR 2147483648 2147483648 h1 l1 (va2 * d) = (h2, l2) from hC.e2] at this
          exact this
        have K15 : Hid (∀ Z, Calls Tryz.prog 56 #[.int .i64 h2, .int .i64 l2, .int .i64 (va3 * d), .int .i64 15] Z (Ret Z (.tuple #[.int .i64 h3, .int .i64 l3]))) := Lib.hid fun Z => by
          have := r39carry15 h2 l2 (va3 * d) Z (by omega) (by omega) p5
          rw [show carR 140737488355328 32768 h2 l2 (va3 * d) = (h3, l3) from hC.e3] at this
          exact this
        have K00 : Hid (∀ Z, Calls Tryz.prog 56 #[.int .i64 h3, .int .i64 l3, .int .i64 (va4 * d), .int .i64 0] Z (Ret Z (.tuple #[.int .i64 h4, .int .i64 l4]))) := Lib.hid fun Z => by
          have := r39carry0 h3 l3 (va4 * d) Z (by omega) (by omega) p6
          rw [show carR 4611686018427387904 1 h3 l3 (va4 * d) = (h4, l4) from hC.e4] at this
          exact this
        have Hdd := Lib.hid hdd
        clear hd hd1 hd2 hd3 hD hS p1 p2 p3 p4 p5 p6 hk5 hC hi1 hi2 hq HS0 hlen ha hz hdd
        go_wp2_with fail
        refine wp_region_below (by kernel_rfl) (by kernel_rfl) ?_
        repeat (go_big_quiet_step (fail))
        refine wpQuiet_nil ?_
        rintro Y ⟨⟨_, hbY⟩, rfl⟩
        rw [← Ha.out, ← Hz.out]
        obtain ⟨c0, y1⟩ := FB.out Y hbY
        have hs0 := HB.out.trans (hbY.mono HB.out.size)
        rw [Hdd.out] at w1
        clear e0 e1 e2 e3 hbY
        go_wp2_with fail
        rw [← Hdd.out]
        clear c0 y1
        refine (KF1.out _).mono ?_
        rintro e Z1 ⟨rfl, hz1⟩
        have hs1 := hs0.trans (hz1.mono hs0.size)
        clear hz1
        go_wp2_with fail
        refine (KM1.out _).mono ?_
        rintro e Z2 ⟨rfl, hz2⟩
        have hs2 := hs1.trans (hz2.mono hs1.size)
        clear hz2
        go_wp2_with fail
        refine (KF2.out _).mono ?_
        rintro e Z3 ⟨rfl, hz3⟩
        have hs3 := hs2.trans (hz3.mono hs2.size)
        clear hz3
        go_wp2_with fail
        refine (KM2.out _).mono ?_
        rintro e Z4 ⟨rfl, hz4⟩
        have hs4 := hs3.trans (hz4.mono hs3.size)
        clear hz4
        go_wp2_with fail
        refine (KF3.out _).mono ?_
        rintro e Z5 ⟨rfl, hz5⟩
        have hs5 := hs4.trans (hz5.mono hs4.size)
        clear hz5
        go_wp2_with fail
        refine (KM3.out _).mono ?_
        rintro e Z6 ⟨rfl, hz6⟩
        have hs6 := hs5.trans (hz6.mono hs5.size)
        clear hz6
        go_wp2_with fail
        refine (K47.out _).mono ?_
        rintro e Z7 ⟨rfl, hz7⟩
        have hs7 := hs6.trans (hz7.mono hs6.size)
        clear hz7
        go_wp2_with fail
        refine (K31.out _).mono ?_
        rintro e Z8 ⟨rfl, hz8⟩
        have hs8 := hs7.trans (hz8.mono hs7.size)
        clear hz8
        go_wp2_with fail
        refine (K15.out _).mono ?_
        rintro e Z9 ⟨rfl, hz9⟩
        have hs9 := hs8.trans (hz9.mono hs8.size)
        clear hz9
        go_wp2_with fail
        refine (K00.out _).mono ?_
        rintro e Z10 ⟨rfl, hz10⟩
        have hs10 := hs9.trans (hz10.mono hs9.size)
        clear hz10
        go_wp2_with fail
        have HBe := Lib.hid hs10
        go_roundw
        case rel => exact ⟨h4, l4, k + 1, rfl, rfl, by go_num, Hlt.out, HD4, HBe⟩
        case measure => have := Hlt.out; simp [intOf]; omega
      · have HS := Lib.hid (hsucc.trans (by rw [if_neg hlen, Int.add_zero]))
        have Ha := Lib.hid ha; have Hz := Lib.hid hz
        have hge : decide (z ≤ a) = true := decide_eq_true (by omega)
        clear hsucc hq hlen ha hz hi1 hi2
        go_wp2_with fail
        refine wp_region_below (by kernel_rfl) (by kernel_rfl) ?_
        repeat (go_big_quiet_step (fail))
        refine wpQuiet_nil ?_
        rintro Y ⟨⟨_, hbY⟩, rfl⟩
        rw [← Ha.out, ← Hz.out]
        have HBe := Lib.hid (HB.out.trans (hbY.mono HB.out.size))
        clear e0 e1 e2 e3 hbY
        go_wp2_with fail
        go_roundw
        case rel => exact ⟨h, l, k + 1, rfl, rfl, by go_num, Hlt.out, Lib.hid (by rw [HS.out]; exact HD.out.mono (by omega)), HBe⟩
        case measure => have := Hlt.out; simp [intOf]; omega
    · obtain rfl : k = N.length := by omega
      have hD := HD.out
      rw [HAll.out] at hD
      have hF := HF.out
      rw [dig_tot hD] at hF
      unfold Dig at hD
      have f9 : ((-2 : Int) ≤ h ∧ h ≤ 1 → IntKind.i64.wrap (h * 4611686018427387904) = h * 4611686018427387904 ∧ IntKind.i64.wrap (h * 4611686018427387904 + l) = h * 4611686018427387904 + l) := fun hh => by
        rw [IntKind.wrap_i64, IntKind.wrap_i64]
        omega
      clear hD
      cases g1 : decide (h < -2)
      rotate_left
      · have HR : Hid (res = (0, 9)) := Lib.hid (by rw [hF, if_pos (.inl (of_decide_eq_true g1))])
        clear hF f9
        go_wp2_with fail
        go_ret2
        exact ⟨by rw [HR.out]; rfl, HBw.out⟩
      cases g2 : decide (1 < h)
      rotate_left
      · have HR : Hid (res = (0, 9)) := Lib.hid (by rw [hF, if_pos (.inr (of_decide_eq_true g2))])
        clear hF f9
        go_wp2_with fail
        go_ret2
        exact ⟨by rw [HR.out]; rfl, HBw.out⟩
      have k1 := of_decide_eq_false g1
      have k2 := of_decide_eq_false g2
      obtain ⟨w1, w2⟩ := f9 (by omega)
      have HR : Hid (res = (h * 4611686018427387904 + l, 0)) := Lib.hid (by rw [hF, if_neg (by omega)])
      clear hF f9 k1 k2
      go_wp2_with fail
      go_ret2
      exact ⟨by rw [HR.out]; rfl, HBw.out⟩
end Go.Proofs.YtohjgegnamcnlaaGreat
