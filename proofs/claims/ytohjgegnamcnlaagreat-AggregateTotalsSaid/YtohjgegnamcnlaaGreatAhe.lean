/- Law 39: aggregate.Total. -/
import Derived.Test.YtohjgegnamcnlaaGreatAhd
namespace Go.Proofs.YtohjgegnamcnlaaGreat
open Go.RowKit Go.Shelf

/-- What is known ahead of a total. -/
structure TotE (F : List Fct) (S : Nat → Value) (n0 : Nat) (colI : Int) (q : Sp) (base : Nat) (w0 : World) (v : Value) : Prop where
  fs : FsIn w0 v F S
  base : base = w0.heap.size
  row : ∀ f ∈ F, okR f.1 ∧ f.1.length = n0
  col : 0 ≤ colI ∧ colI.toNat < n0
  line : ∀ f ∈ F, OkSp f.2
  len : F.length ≤ 1000
  span : -62135596800 ≤ q.1 ∧ q.1 < q.2 ∧ q.2 ≤ 253402300800
def SpanAt (W : World) (b : Nat) (q : Sp) : Prop := ∃ t, W.heap[b]? = some (.cells #[.int .i64 q.1, .int .i64 q.2] t (0, 0))
def TotJ (q : Sp) (colI : Int) (base : Nat) (w0 : World) (bi bp bc bm : Nat) (Vs : List Vis) (W : World) : Prop :=
  Below base w0 W ∧ SpanAt W bi q ∧ BoxAt W bc (.int .i64 colI) ∧ SumAt W bp (visT false q colI.toNat Vs) ∧ SumAt W bm (visT true q colI.toNat Vs)
theorem totJ_keep {q : Sp} {colI : Int} {base zs z1 : Nat} {w0 : World} {bi bp bc bm : Nat} (h0 : base ≤ w0.heap.size) (hbz : base ≤ zs) (hx : bi < zs ∧ bp < zs ∧ bc < zs ∧ bm < zs) (Vs : List Vis) (W W' : World)
    (h : TotJ q colI base w0 bi bp bc bm Vs W) (hk : Oz zs z1 W W') : TotJ q colI base w0 bi bp bc bm Vs W' := by
  obtain ⟨h1, ⟨t, h2⟩, h3, h4, h5⟩ := h
  exact ⟨hk.below h1 h0 hbz, ⟨t, (hk.oth bi (blk_lt h2) (by omega)).trans h2⟩, h3.block (hk.oth bc h3.lt (by omega)), (hk.oth bp (blk_lt h4) (by omega)).trans h4, (hk.oth bm (blk_lt h5) (by omega)).trans h5⟩
def TotVRet (q : Sp) (colI : Int) (base zs z1 : Nat) (w0 : World) (bi bp bc bm : Nat) (X : World) (Vs : List Vis) (e : Ending) (w' : World) : Prop :=
  ∃ c : Int, e = .returned (.int .i64 c) ∧ Kv base zs z1 X w' ∧ if c = 0 then TotJ q colI base w0 bi bp bc bm Vs w' else False
theorem vis_cols {F : List Fct} {S : Nat → Value} {n0 : Nat} {q : Sp} {colI : Int} {base : Nat} {w0 : World} {v0 : Value} {Vs : List Vis} {P : Int → Prop} (hE : TotE F S n0 colI q base w0 v0) (hP : VisOk F Vs P) : ∀ x ∈ Vs, x.2.length ≤ 1000 ∧ ∀ n ∈ colN x.2 colI.toNat, -9223372036854775808 ≤ n ∧ n ≤ 9223372036854775807 := fun x hx => by
  obtain ⟨h1, _, h3⟩ := hP.rows x hx
  have hsx := (hP.span x hx).1
  have hin : ∀ r ∈ x.2, ∃ f ∈ F, f.1 = r := fun r hr => by
    obtain ⟨f, hf, e, _⟩ := (h3 x.1.1 (Int.le_refl _) hsx r).1 hr
    exact ⟨f, hf, e⟩
  refine ⟨?_, fun n hn => ?_⟩
  · have hsub : ∃ ks : List Nat, (∀ k ∈ ks, k < F.length) ∧ rowsJ F ks = x.2 := by
      have key : ∀ l : List VRow, (∀ r ∈ l, ∃ f ∈ F, f.1 = r) → ∃ ks : List Nat, (∀ k ∈ ks, k < F.length) ∧ rowsJ F ks = l := fun l => by
        induction l with
        | nil => exact fun _ => ⟨[], fun k hk => absurd hk (by simp), rfl⟩
        | cons r l ih =>
          intro h
          obtain ⟨ks, h1, h2⟩ := ih fun y hy => h y (by simp [hy])
          obtain ⟨f, hf, e⟩ := h r (by simp)
          obtain ⟨i, hi, rfl⟩ := List.getElem_of_mem hf
          rw [fc_at hi] at e
          refine ⟨i :: ks, fun k hk => ?_, ?_⟩
          · rcases List.mem_cons.1 hk with q | q
            · rw [q]; exact hi
            · exact h1 k q
          · show (fc F i).1 :: rowsJ F ks = r :: l
            rw [e, h2]
      exact key x.2 hin
    obtain ⟨ks, hk1, hk2⟩ := hsub
    have := js_len (F := F) (js := ks) (by rw [hk2]; exact h1) hk1
    have hl : (rowsJ F ks).length = ks.length := by simp [rowsJ]
    rw [← hk2, hl]
    have := hE.len
    omega
  · obtain ⟨r, hr, rfl⟩ := List.mem_map.1 hn
    obtain ⟨f, hf, rfl⟩ := hin r hr
    obtain ⟨ho, hlen⟩ := hE.row f hf
    exact (ho _ (va_mem (by rw [hlen]; exact hE.col.2))).2
/-- What the loop over the rows has added. -/
def partS (neg : Bool) (L : Int) (l : List Int) : Nat := if 0 < L then sumS (if neg then -L else L) l else 0
theorem partS_append (neg : Bool) (L : Int) (a b : List Int) : partS neg L (a ++ b) = partS neg L a + partS neg L b := by
  unfold partS
  split
  · exact sumS_append _ a b
  · rfl
theorem partS_oneF {L x : Int} (h : 0 < L) : partS false L [x] = addS x L := by unfold partS; rw [if_pos h]; rfl
theorem partS_oneT {L x : Int} (h : 0 < L) : partS true L [x] = addS x (-L) := by unfold partS; rw [if_pos h]; rfl
/-- A slice's cell lies in no sum's block. -/
theorem not_sum {W : World} {b q T o : Nat} {A : Option Addr} {n c : Nat} (h : SumAt W q T) (hc : W.cell? ⟨b, o, none⟩ = some (.slice A n c)) : b ≠ q := fun e => by
  rw [e, blk_get h] at hc
  rcases Nat.lt_or_ge o 2 with r | r
  · rcases (by omega : o = 0 ∨ o = 1) with k | k <;> (rw [k] at hc; simp at hc)
  · rw [Array.getElem?_eq_none (by simpa using r)] at hc; cases hc
set_option maxRecDepth 100000 in
set_option maxHeartbeats 8000000 in
theorem atotal1_c {F : List Fct} {S : Nat → Value} {n0 : Nat} {q : Sp} {colI : Int} {base zs z1 : Nat} {w0 : World} {v0 : Value} {bi bp bc bm : Nat} (hE : TotE F S n0 colI q base w0 v0) (_hbz : base ≤ zs) (hz1 : zs ≤ z1) (hx : bi < zs ∧ bp < zs ∧ bc < zs ∧ bm < zs) (hlo : base ≤ bp ∧ base ≤ bm) (hd : bp ≠ bm)
    (X : World) (v : Value) (js : List Nat) (Vs : List Vis) (s : Sp) (hJ : TotJ q colI base w0 bi bp bc bm Vs X) (hzX : z1 ≤ X.heap.size) (hV : ∃ P, VisOk F (Vs ++ [(s, rowsJ F js)]) P) (hrows : RowsIn X v js.length 1 (fun i _ => S (js.getD i 0))) (hjs : ∀ j ∈ js, j < F.length) (hjl : js.length ≤ 2000) (hVl : Vs.length ≤ 2000) :
    Calls Tryz.prog 50 #[.agg #[.int .i64 s.1, .int .i64 s.2], v, .pointer (some ⟨bi, 0, none⟩), .pointer (some ⟨bp, 0, none⟩), .pointer (some ⟨bc, 0, none⟩), .pointer (some ⟨bm, 0, none⟩)] X (TotVRet q colI base zs z1 w0 bi bp bc bm X (Vs ++ [(s, rowsJ F js)])) := by
  obtain ⟨A, c, rfl, hnc, hc⟩ := RowsIn.form hrows
  have hsp : OkSp s := by obtain ⟨P, hP⟩ := hV; exact (vis_last hP hE.line).1
  have hjF : js.length ≤ 1000 := by
    obtain ⟨P, hP⟩ := hV
    have := js_len (hP.rows (s, rowsJ F js) (by simp)).1 hjs
    have := hE.len
    omega
  have hvis : ∀ x ∈ Vs, x.2.length ≤ 1000 ∧ ∀ n ∈ colN x.2 colI.toNat, -9223372036854775808 ≤ n ∧ n ≤ 9223372036854775807 := fun x hx => by
    obtain ⟨P, hP⟩ := hV
    exact vis_cols hE hP x (by simp [hx])
  have hspan := hE.span
  have hbF := visT_bound q (by omega) colI.toNat false Vs hvis
  have hbT := visT_bound q (by omega) colI.toNat true Vs hvis
  have hmul : Vs.length * (1000 * (9223372036854775808 * 549755813888)) ≤ 2000 * (1000 * (9223372036854775808 * 549755813888)) := Nat.mul_le_mul_right _ hVl
  have hSF : visT false q colI.toNat Vs ≤ 2000 * (1000 * (9223372036854775808 * 549755813888)) := Nat.le_trans hbF hmul
  have hST : visT true q colI.toNat Vs ≤ 2000 * (1000 * (9223372036854775808 * 549755813888)) := Nat.le_trans hbT hmul
  have hfin : ∀ neg, visT neg q colI.toNat (Vs ++ [(s, rowsJ F js)]) = visT neg q colI.toNat Vs + partS neg (lenC s q) (colN (rowsJ F js) colI.toNat) := fun neg => by
    rw [visT_append]
    show _ + (visS neg q colI.toNat (s, rowsJ F js) + 0) = _
    rw [Nat.add_zero]
    rfl
  clear hbF hbT hmul hvis
  obtain ⟨hJ1, ⟨ti, hJ2⟩, hJ3, hJ4, hJ5⟩ := hJ
  have hfF := hfin false; have hfT := hfin true
  have hall : ∀ n ∈ colN (rowsJ F js) colI.toNat, -9223372036854775808 ≤ n ∧ n ≤ 9223372036854775807 := fun n hn => by
    obtain ⟨r, hr, rfl⟩ := List.mem_map.1 hn
    obtain ⟨j, hj, rfl⟩ := List.mem_map.1 hr
    obtain ⟨ho, hlen⟩ := hE.row _ (fc_mem (hjs j hj))
    exact (ho _ (va_mem (by rw [hlen]; exact hE.col.2))).2
  have HAll := Lib.hid hall; have HE := Lib.hid hE; have Hjs := Lib.hid hjs
  generalize visT false q colI.toNat Vs = SF at *
  generalize visT true q colI.toNat Vs = ST at *
  obtain ⟨a, b⟩ := s
  obtain ⟨qa, qb⟩ := q
  simp only at hspan hsp hJ2
  unfold OkSp at hsp
  simp only at hsp
  obtain ⟨L, hL⟩ : ∃ L, L = lenC (a, b) (qa, qb) := ⟨_, rfl⟩
  have hL2 : L = min b qb - max a qa := hL
  have hLr : -9000000000000 ≤ L ∧ L ≤ 549755813888 := by omega
  have hw1 : IntKind.i64.wrap (min b qb - max a qa) = L := by rw [← hL2]; exact IntWalk.i64_in _ (by omega)
  have hw2 : IntKind.i64.wrap (-L) = -L := IntWalk.i64_in _ (by omega)
  have HL := Lib.hid hL
  have HfF := Lib.hid hfF; have HfT := Lib.hid hfT
  clear hL hL2 hfin hfF hfT hall
  have i0 := blk_get hJ2 0
  have i1 := blk_get hJ2 1
  simp at i0 i1
  have hil := blk_lt hJ2
  have hbA := (Below.refl X.heap.size X).alloc (Nat.le_refl _) (.cells #[.int .i64 a, .int .i64 b] 34)
  have i0 := (hbA.cell (p := ⟨bi, 0, none⟩) hil).trans i0
  have i1 := (hbA.cell (p := ⟨bi, 1, none⟩) hil).trans i1
  have HbA := Lib.hid hbA
  clear hbA hE hjs hV
  go_enter Tryz.func50, Tryz.ntmps50
  go_wp2_with fail
  have hbase : base ≤ X.heap.size := by omega
  obtain ⟨CL, hCL⟩ : ∃ l, l = colN (rowsJ F js) colI.toNat := ⟨_, rfl⟩
  have hCLl : CL.length = js.length := by rw [hCL]; simp [colN, rowsJ]
  have HCL := Lib.hid hCL; have HCLl := Lib.hid hCLl
  clear hCL hCLl
  have hbl : bp < X.heap.size ∧ bm < X.heap.size := ⟨blk_lt hJ4, blk_lt hJ5⟩
  have hcl := hJ3.lt
  have hcx : bc ≠ bp ∧ bc ≠ bm := by
    refine ⟨fun e => ?_, fun e => ?_⟩
    · have h1 := hJ3.cell
      rw [e, blk_get hJ4 0] at h1
      simp at h1
    · have h1 := hJ3.cell
      rw [e, blk_get hJ5 0] at h1
      simp at h1
  have hbi : bi ≠ bp ∧ bi ≠ bm := by
    refine ⟨fun e => ?_, fun e => ?_⟩
    · have h1 := blk_get hJ2 0
      rw [e, blk_get hJ4 0] at h1
      simp at h1
    · have h1 := blk_get hJ2 0
      rw [e, blk_get hJ5 0] at h1
      simp at h1
  have HBc := Lib.hid hJ3
  have HJ1 := Lib.hid hJ1
  try go_frame
  go_loopw [25] (fun i Y => ∃ m : Nat, i = .int .i64 (m : Int) ∧ m ≤ js.length ∧ SumAt Y bp (SF + partS false L (CL.take m)) ∧ SumAt Y bm (ST + partS true L (CL.take m)) ∧ Below base X Y ∧ Hid (∀ g, g < X.heap.size → g ≠ bp → g ≠ bm → Y.heap[g]? = X.heap[g]?)) (fun i _ => js.length - (intOf i).toNat)
  case atStart => exact ⟨0, rfl, Nat.zero_le _, by
      have e : partS false L (CL.take 0) = 0 := by unfold partS; split <;> rfl
      rw [e]
      exact (HbA.out.block _ hbl.1).trans hJ4, by
      have e : partS true L (CL.take 0) = 0 := by unfold partS; split <;> rfl
      rw [e]
      exact (HbA.out.block _ hbl.2).trans hJ5, HbA.out.mono hbase, Lib.hid fun g hg _ _ => HbA.out.block g hg⟩
  case round =>
    obtain ⟨m, rfl, hm, hs1, hs2, hbY, HO⟩ := hrel
    rename World => Y
    by_cases hlt : m < js.length
    · obtain ⟨bb, off, rfl, hbb⟩ := RowsIn.addr hrows (by omega)
      have hjm := Hjs.out _ (getD_mem hlt)
      have hw0 := HE.out.base
      have hBX : Below w0.heap.size w0 X := by rw [← hw0]; exact HJ1.out
      have hbYs := hbY.size
      have hrowsb : ∀ g, g < base → Y.heap[g]? = X.heap[g]? := fun g hg => hbY.block g hg
      have hr := HE.out.fs.2 _ hjm
      obtain ⟨hrok, hrl⟩ := HE.out.row _ (fc_mem hjm)
      have hvr : vr (rowsJ F js) m = (fc F (js.getD m 0)).1 := vr_rowsJ hlt
      obtain ⟨row, hrow⟩ : ∃ r, r = (fc F (js.getD m 0)).1 := ⟨_, rfl⟩
      rw [← hrow] at hr hrok hrl hvr
      obtain ⟨Ar, cr, hSr, hnr, hcr⟩ := hr.form
      rw [hSr] at hr
      have hk0 := HE.out.col.1
      have hk1 : colI.toNat < row.length := by rw [hrl]; exact HE.out.col.2
      have hk2 : colI < (row.length : Int) := by omega
      obtain ⟨br, ofr, rfl, hbr⟩ := hr.addr (by omega)
      have v1 := hr.c1 colI.toNat hk1
      have hI := (hrok _ (va_mem hk1)).2
      unfold I64 at hI
      have HT : Hid (CL.take (m + 1) = CL.take m ++ [(va row colI.toNat).2.1]) := Lib.hid (by
        have hml : m < CL.length := by rw [HCLl.out]; exact hlt
        rw [List.take_succ_eq_append_getElem hml]
        have : CL[m] = (va row colI.toNat).2.1 := by
          have h2 : m < (rowsJ F js).length := by simp [rowsJ]; exact hlt
          simp only [HCL.out, colN, List.getElem_map, vr_at h2, hvr]
        rw [this])
      generalize (va row colI.toNat).2.1 = x at *
      have hX0 : X.cell? ⟨bb, off + m, none⟩ = some (.slice (some ⟨br, ofr, none⟩) row.length cr) := by
        have h1 := RowsIn.cells hrows m 0 hlt (by omega)
        simp only [Nat.mul_one, Nat.add_zero] at h1
        rw [hSr] at h1
        exact h1
      have hbbp : bb ≠ bp ∧ bb ≠ bm := ⟨not_sum hJ4 hX0, not_sum hJ5 hX0⟩
      have c0 : Y.cell? ⟨bb, off + m, none⟩ = some (.slice (some ⟨br, ofr, none⟩) row.length cr) := (World.cell?_of_block (HO.out bb hbb hbbp.1 hbbp.2)).trans hX0
      clear hX0
      have hbrb : br < base := by rw [hw0]; exact hbr
      have v1 : Y.cell? ⟨br, ofr + colI.toNat * 3 + 1, none⟩ = some (.int .i64 x) := (World.cell?_of_block ((hbY.block br hbrb))).trans ((hBX.cell (p := ⟨br, ofr + colI.toNat * 3 + 1, none⟩) hbr).trans v1)
      have y0 := (HBc.out.block (HO.out bc hcl hcx.1 hcx.2)).cell
      have HSr := Lib.hid hSr
      clear hSr hr hrow hvr hrl hrok hBX hrowsb
      cases f1 : decide ((0 : Int) < L)
      · have HP : Hid (∀ neg l, partS neg L l = 0) := Lib.hid fun neg l => by unfold partS; rw [if_neg (of_decide_eq_false f1)]
        go_wp2_with fail
        go_roundw
        case rel => exact ⟨m + 1, by go_num, hlt, by have := hs1; rw [HP.out] at this ⊢; exact this, by have := hs2; rw [HP.out] at this ⊢; exact this, hbY, HO⟩
        case measure => simp [intOf]; omega
      · have hLp := of_decide_eq_true f1
        have hallm : ∀ n ∈ CL.take m, -9223372036854775808 ≤ n ∧ n ≤ 9223372036854775807 := fun n hn => HAll.out n (by rw [← HCL.out]; exact List.mem_of_mem_take hn)
        obtain ⟨g1, g2⟩ := sumS_bound (t := L) (L := 549755813888) hLp (by omega) _ hallm
        have hlm : (CL.take m).length ≤ 1000 := by rw [List.length_take]; omega
        have hmx : (CL.take m).length * (9223372036854775808 * 549755813888) ≤ 1000 * (9223372036854775808 * 549755813888) := Nat.mul_le_mul_right _ hlm
        obtain ⟨_, g3, g4⟩ := addS_len x L hLp
        have hx5 : x.natAbs * L.natAbs ≤ 9223372036854775808 * 549755813888 := Nat.mul_le_mul (by omega) (by omega)
        have hP1 : partS false L (CL.take m) = sumS L (CL.take m) := by unfold partS; rw [if_pos hLp]; rfl
        have hP2 : partS true L (CL.take m) = sumS (-L) (CL.take m) := by unfold partS; rw [if_pos hLp]; rfl
        have HQ1 : Hid (partS false L (CL.take (m + 1)) = partS false L (CL.take m) + addS x L) := Lib.hid (by rw [HT.out, partS_append, partS_oneF hLp])
        have HQ2 : Hid (partS true L (CL.take (m + 1)) = partS true L (CL.take m) + addS x (-L)) := Lib.hid (by rw [HT.out, partS_append, partS_oneT hLp])
        have KA := Lib.hid (sumadd_c bp (SF + partS false L (CL.take m)) x L Y hs1 hI (by omega) (by rw [hP1]; omega) (by omega))
        have hbnd2 : ST + partS true L (CL.take m) + addS x (-L) < 340282366920938463463374607431768211456 := by rw [hP2]; omega
        have Hs2 := Lib.hid hs2
        clear hs1 hs2 g1 g2 g3 g4 hx5 hmx hlm hallm hP1 hP2 hSF hST
        generalize partS false L (CL.take m) = PF at *
        generalize partS true L (CL.take m) = PT at *
        go_wp2_with fail
        refine KA.out.mono ?_
        rintro e Y2 ⟨rfl, hs1, hon1⟩
        have hbp : br ≠ bp ∧ br ≠ bm := by omega
        have hbY2 : Below base X Y2 := hbY.trans (hon1.bel.mono hlo.1)
        have HO2 : Hid (∀ g, g < X.heap.size → g ≠ bp → g ≠ bm → Y2.heap[g]? = X.heap[g]?) := Lib.hid fun g h1 h2 h3 => (hon1.oth g (by omega) h2).trans (HO.out g h1 h2 h3)
        have hs2 : SumAt Y2 bm (ST + PT) := (hon1.oth bm (by omega) (fun e => hd e.symm)).trans Hs2.out
        have c0 := (World.cell?_of_block (a := ⟨bb, off + m, none⟩) (hon1.oth bb (by omega) hbbp.1)).trans c0
        have v1 := (World.cell?_of_block (a := ⟨br, ofr + colI.toNat * 3 + 1, none⟩) (hon1.oth br (by omega) hbp.1)).trans v1
        have y0 := (HBc.out.block (HO2.out bc hcl hcx.1 hcx.2)).cell
        have KB := Lib.hid (sumadd_c bm (ST + PT) x (-L) Y2 hs2 hI (by omega) hbnd2 (by omega))
        have Hs1 := Lib.hid hs1
        clear hs1 hs2 hon1
        go_wp2_with fail
        refine KB.out.mono ?_
        rintro e Y3 ⟨rfl, hs2, hon2⟩
        have hbY3 : Below base X Y3 := hbY2.trans (hon2.bel.mono hlo.2)
        have HO3 : Hid (∀ g, g < X.heap.size → g ≠ bp → g ≠ bm → Y3.heap[g]? = X.heap[g]?) := Lib.hid fun g h1 h2 h3 => (hon2.oth g (by have := hbY2.size; omega) h3).trans (HO2.out g h1 h2 h3)
        have hs1 : SumAt Y3 bp (SF + PF + addS x L) := (hon2.oth bp (by have := hbY2.size; omega) hd).trans Hs1.out
        have Hs1 := Lib.hid hs1; have Hs2 := Lib.hid hs2
        clear hs1 hs2 hon2
        go_wp2_with fail
        go_roundw
        case rel => exact ⟨m + 1, by go_num, hlt, by rw [HQ1.out, ← Nat.add_assoc]; exact Hs1.out, by rw [HQ2.out, ← Nat.add_assoc]; exact Hs2.out, hbY3, HO3⟩
        case measure => simp [intOf]; omega
    · obtain rfl : m = js.length := by omega
      have e1 : CL.take js.length = CL := List.take_of_length_le (by rw [HCLl.out]; exact Nat.le_refl _)
      rw [e1] at hs1 hs2
      have Hs1 := Lib.hid hs1; have Hs2 := Lib.hid hs2
      clear hs1 hs2 e1
      go_wp2_with fail
      go_ret
      refine ⟨0, rfl, ⟨hbY, fun g h1 h2 => HO.out g (by omega) (by omega) (by omega)⟩, ?_⟩
      rw [if_pos rfl]
      refine ⟨HJ1.out.trans hbY, ⟨ti, (HO.out bi hil hbi.1 hbi.2).trans hJ2⟩, HBc.out.block (HO.out bc hcl hcx.1 hcx.2), ?_, ?_⟩
      · rw [HfF.out, ← HL.out, ← HCL.out]; exact Hs1.out
      · rw [HfT.out, ← HL.out, ← HCL.out]; exact Hs2.out
/-! ### Total -/
def totR (x : Int) : Int × Int := if -9223372036854775808 ≤ x ∧ x ≤ 9223372036854775807 then (x, 0) else (0, 9)
/-- What Total answers. -/
def TotS (F : List Fct) (colI : Int) (q : Sp) : Int × Int :=
  if (!validF F || !hasB F colI || !spT q) = true then (0, 1)
  else if F.length ≠ 0 ∧ (va (row0 F) colI.toNat).1 ≠ 1 then (0, 13)
  else totR (totF F colI.toNat q)
theorem tots_bad {F : List Fct} {colI : Int} {q : Sp} (h : (!validF F || !hasB F colI || !spT q) = true) : TotS F colI q = (0, 1) := by unfold TotS; rw [if_pos h]
theorem tots_type {F : List Fct} {colI : Int} {q : Sp} (h : (!validF F || !hasB F colI || !spT q) = false) (h2 : F.length ≠ 0 ∧ (va (row0 F) colI.toNat).1 ≠ 1) : TotS F colI q = (0, 13) := by unfold TotS; rw [if_neg (by rw [h]; decide), if_pos h2]
theorem tots_ok {F : List Fct} {colI : Int} {q : Sp} (h : (!validF F || !hasB F colI || !spT q) = false) (h2 : ¬ (F.length ≠ 0 ∧ (va (row0 F) colI.toNat).1 ≠ 1)) : TotS F colI q = totR (totF F colI.toNat q) := by unfold TotS; rw [if_neg (by rw [h]; decide), if_neg h2]
theorem totF_nil (col : Nat) (q : Sp) : totF [] col q = 0 := by
  have key : ∀ n, intg (sumAtT [] col) q.1 n = 0 := fun n => by
    induction n with
    | zero => rfl
    | succ n ih =>
      show intg (sumAtT [] col) q.1 n + sumAtT [] col (q.1 + n) = 0
      rw [ih]
      rfl
  exact key _
theorem made_sums (W : World) : ∃ X, X = (W.alloc (.cells #[.int .u64 0, .int .u64 0] 85)).alloc (.cells #[.int .u64 0, .int .u64 0] 85) ∧ SumAt X W.heap.size 0 ∧ SumAt X (W.heap.size + 1) 0 ∧ Below W.heap.size W X ∧ X.heap.size = W.heap.size + 2 := by
  have hz1 : (W.alloc (.cells #[.int .u64 0, .int .u64 0] 85)).heap.size = W.heap.size + 1 := by simp
  have b1 := (Below.refl W.heap.size W).alloc (Nat.le_refl _) (.cells #[.int .u64 0, .int .u64 0] 85)
  have b2 := (Below.refl _ (W.alloc (.cells #[.int .u64 0, .int .u64 0] 85))).alloc (Nat.le_refl _) (.cells #[.int .u64 0, .int .u64 0] 85)
  refine ⟨_, rfl, ?_, ?_, b1.trans (b2.mono (by omega)), by simp⟩
  · exact sum_zero ((b2.block _ (by omega)).trans (heap_alloc_new W _))
  · have := heap_alloc_new (W.alloc (.cells #[.int .u64 0, .int .u64 0] 85)) (.cells #[.int .u64 0, .int .u64 0] 85)
    rw [hz1] at this
    exact sum_zero this
set_option maxRecDepth 100000 in
set_option maxHeartbeats 8000000 in
theorem aTotal_c (v : Value) (F : List Fct) (colI : Int) (q : Sp) (w : World) (hs : IsFs w v F) (hm : MachF F) (hn : F.length < 1000000000) : Calls Tryz.prog 13 #[v, .int .i64 colI, .agg #[.int .i64 q.1, .int .i64 q.2]] w (Ret w (.tuple #[.int .i64 (TotS F colI q).1, .int .i64 (TotS F colI q).2])) := by
  have K1 : Hid (∀ X, Below w.heap.size w X → Calls Tryz.prog 30 #[v] X (Ret X (.bool (validF F)))) := Lib.hid fun X h => avalid_c v F X (hs.below h) hn
  have K2 : Hid (∀ X, Below w.heap.size w X → Calls Tryz.prog 31 #[v, .int .i64 colI] X (Ret X (.bool (hasB F colI)))) := Lib.hid fun X h => ahas_c v F colI X (hs.below h)
  have K3 : Hid (∀ X, Calls Tryz.prog 49 #[.agg #[.int .i64 q.1, .int .i64 q.2]] X (Ret X (.bool (spT q)))) := Lib.hid fun X => aisSpan_c q X
  obtain ⟨S, hs⟩ := hs
  obtain ⟨A, c, rfl, hnc, hc⟩ := hs.form
  obtain ⟨res, hres⟩ : ∃ r, r = TotS F colI q := ⟨_, rfl⟩
  rw [← hres]
  have HRes := Lib.hid hres; have Hm := Lib.hid hm
  clear hres hm
  obtain ⟨W0, hW0⟩ : ∃ W, W = (w.alloc (.cells #[.int .i64 colI] 3)).alloc (.cells #[.int .i64 q.1, .int .i64 q.2] 34) := ⟨_, rfl⟩
  have hz1 : (w.alloc (.cells #[.int .i64 colI] 3)).heap.size = w.heap.size + 1 := by simp
  have b1 := (Below.refl w.heap.size w).alloc (Nat.le_refl _) (.cells #[.int .i64 colI] 3)
  have b2 := (Below.refl _ (w.alloc (.cells #[.int .i64 colI] 3))).alloc (Nat.le_refl _) (.cells #[.int .i64 q.1, .int .i64 q.2] 34)
  have T0 : BoxAt W0 w.heap.size (.int .i64 colI) := ⟨3, by
    rw [hW0]
    exact (b2.block _ (by omega)).trans (heap_alloc_new w _)⟩
  have T1 : SpanAt W0 (w.heap.size + 1) q := ⟨34, by
    rw [hW0]
    have := heap_alloc_new (w.alloc (.cells #[.int .i64 colI] 3)) (.cells #[.int .i64 q.1, .int .i64 q.2] 34)
    rw [hz1] at this
    exact this⟩
  have hb0 : Below w.heap.size w W0 := by rw [hW0]; exact b1.trans (b2.mono (by omega))
  have hsz0 : w.heap.size + 2 ≤ W0.heap.size := by rw [hW0]; simp
  have HW0 := Lib.hid hW0
  clear hW0 b1 b2 hz1
  have HB : Hid (∀ X, Below W0.heap.size W0 X → BoxAt X w.heap.size (.int .i64 colI) ∧ SpanAt X (w.heap.size + 1) q) := Lib.hid fun X h => ⟨T0.block (h.block _ T0.lt), by obtain ⟨t, h1⟩ := T1; exact ⟨t, (h.block _ (blk_lt h1)).trans h1⟩⟩
  clear T0 T1
  have HSp : Hid (∀ X : World, SpanAt X (w.heap.size + 1) q → X.cell? ⟨w.heap.size + 1, 0, none⟩ = some (.int .i64 q.1) ∧ X.cell? ⟨w.heap.size + 1, 1, none⟩ = some (.int .i64 q.2)) := Lib.hid fun X h => by obtain ⟨t, h⟩ := h; exact ⟨blk_get h 0, blk_get h 1⟩
  go_enter Tryz.func13, Tryz.ntmps13
  go_wp2_with fail
  rw [← HW0.out]
  refine (K1.out _ hb0).mono ?_
  rintro e W1 ⟨rfl, hb1⟩
  have hbw1 := hb0.trans (hb1.mono hb0.size)
  have x0 := (HB.out W1 hb1).1.cell
  cases hv : validF F
  · have HBad : Hid (res = (0, 1)) := Lib.hid (by rw [HRes.out]; exact tots_bad (by rw [hv]; rfl))
    go_wp2_with fail
    go_ret2
    exact ⟨by rw [HBad.out]; rfl, hbw1⟩
  have Hv := Lib.hid hv
  clear hv
  have K2b := Lib.hid (K2.out W1 hbw1)
  cases hh : hasB F colI
  · have HBad : Hid (res = (0, 1)) := Lib.hid (by rw [HRes.out]; exact tots_bad (by rw [hh]; simp))
    rw [hh] at K2b
    clear hh
    go_wp2_with fail
    refine K2b.out.mono ?_
    rintro e W2 ⟨rfl, hb2⟩
    have hbw2 := hbw1.trans (hb2.mono hbw1.size)
    clear hb2
    go_wp2_with fail
    go_ret2
    exact ⟨by rw [HBad.out]; rfl, hbw2⟩
  have Hh := Lib.hid hh
  rw [hh] at K2b
  clear hh
  go_wp2_with fail
  refine K2b.out.mono ?_
  rintro e W2 ⟨rfl, hb2⟩
  have hbw2 := hbw1.trans (hb2.mono hbw1.size)
  have hb12 := hb1.trans (hb2.mono hb1.size)
  clear hb2 hb1 hbw1 x0 K2b
  obtain ⟨s0, s1⟩ := HSp.out W2 (HB.out W2 hb12).2
  have K3b := Lib.hid (K3.out W2)
  cases hq : spT q
  · have HBad : Hid (res = (0, 1)) := Lib.hid (by rw [HRes.out]; exact tots_bad (by rw [hq]; simp))
    rw [hq] at K3b
    clear hq
    go_wp2_with fail
    refine K3b.out.mono ?_
    rintro e W3 ⟨rfl, hb3⟩
    have hbw3 := hbw2.trans (hb3.mono hbw2.size)
    clear hb3
    go_wp2_with fail
    go_ret2
    exact ⟨by rw [HBad.out]; rfl, hbw3⟩
  have Hq := Lib.hid hq
  rw [hq] at K3b
  clear hq
  have HGood : Hid ((!validF F || !hasB F colI || !spT q) = false) := Lib.hid (by rw [Hv.out, Hh.out, Hq.out]; rfl)
  by_cases h0 : F.length = 0
  · have hFn : F = [] := List.length_eq_zero_iff.1 h0
    have HOk : Hid (res = (0, 0)) := Lib.hid (by rw [HRes.out, tots_ok HGood.out (fun h => h.1 h0), hFn, totF_nil]; rfl)
    clear h0
    subst hFn
    go_wp2_with fail
    refine K3b.out.mono ?_
    rintro e W3 ⟨rfl, hb3⟩
    have hbw3 := hbw2.trans (hb3.mono hbw2.size)
    clear hb3
    have hl0 : decide ((0 : Int) < (([] : List Fct).length : Int)) = false := rfl
    go_wp2_with fail
    go_quiet (fail)
    go_wp2_with fail
    obtain ⟨W4, hW4, t1, t2, hb4, hz4⟩ := made_sums (W3.drewN nq)
    have e4 : (W3.drewN nq).heap.size = W3.heap.size := rfl
    rw [e4] at t1 t2 hz4
    rw [← hW4]
    have hbq : Below w.heap.size w W4 := (hbw3.trans (below_grow W3 nq #[] |> fun h => by simpa [Go.Sort.grow_empty] using h.mono hbw3.size)).trans (hb4.mono (by have := hbw3.size; rw [e4]; omega))
    clear hb4 hW4 e4
    refine (aeach_nil A c W4).mono ?_
    rintro e W5 ⟨rfl, hb5⟩
    have u1 : SumAt W5 W3.heap.size 0 := (hb5.block _ (blk_lt t1)).trans t1
    have u2 : SumAt W5 (W3.heap.size + 1) 0 := (hb5.block _ (blk_lt t2)).trans t2
    have p0 := blk_get u1 0
    have p1 := blk_get u1 1
    have m0 := blk_get u2 0
    have m1 := blk_get u2 1
    simp at p0 p1 m0 m1
    have KL := Lib.hid (sumless_c 0 0 (by omega) (by omega) W5)
    simp only [show lessS 0 0 = (0, 0) from rfl, Nat.zero_div, Nat.zero_mod, Int.natCast_zero] at KL
    have hbq5 := hbq.trans (hb5.mono hbq.size)
    clear t1 t2 u1 u2 hb5
    go_wp2_with fail
    refine KL.out.mono ?_
    rintro e W6 ⟨rfl, hb6⟩
    have hbq6 := hbq5.trans (hb6.mono hbq5.size)
    clear hb6
    go_wp2_with fail
    go_ret2
    exact ⟨by rw [HOk.out]; rfl, hbq6⟩
  · have hn1 : 1 ≤ F.length := by omega
    have hn2 : 0 < F.length := by omega
    obtain ⟨b, off, rfl, hbl⟩ := hs.addr hn2
    have hin := hs.below hbw2
    obtain ⟨A0, q0, hS0, hq0, hq0c⟩ := (hin.2 0 hn2).form
    have hrr : (fc F 0).1 = row0 F := rfl
    obtain ⟨hc1, hc2⟩ := has_col h0 Hh.out
    have hc3 : colI.toNat < (row0 F).length := by omega
    obtain ⟨kd, hkd⟩ : ∃ k, k = (va (row0 F) colI.toNat).1 := ⟨_, rfl⟩
    have HKd := Lib.hid hkd; have H0 := Lib.hid h0
    have hl0 : decide ((0 : Int) < (F.length : Int)) = true := decide_eq_true (by omega)
    have hF3 : Hid (∀ W3, Below W2.heap.size W2 W3 → ∃ b0 o0, W3.cell? ⟨b, off, none⟩ = some (.slice (some ⟨b0, o0, none⟩) (row0 F).length q0) ∧ W3.cell? ⟨b0, o0 + colI.toNat * 3, none⟩ = some (.int .i64 kd) ∧ W3.cell? ⟨w.heap.size, 0, none⟩ = some (.int .i64 colI)) := Lib.hid fun W3 h3 => by
      have hi3 := hin.below h3
      have d0 := hi3.c0 0 hn2
      simp only [Nat.zero_mul, Nat.add_zero] at d0
      have hr0 := hi3.2 0 hn2
      rw [hS0] at d0 hr0
      rw [hrr] at d0 hr0
      obtain ⟨b0, o0, rfl, _⟩ := hr0.addr (by omega)
      exact ⟨b0, o0, d0, by rw [hkd]; exact hr0.c0 colI.toNat hc3, (HB.out W3 (hb12.trans (h3.mono hb12.size))).1.cell⟩
    rw [hrr] at hq0
    clear hS0 hrr hkd h0 hin
    go_wp2_with fail
    refine K3b.out.mono ?_
    rintro e W3 ⟨rfl, hb3⟩
    have hbw3 := hbw2.trans (hb3.mono hbw2.size)
    have hb03 := hb12.trans (hb3.mono hb12.size)
    obtain ⟨b0, o0, d0, z0, y0⟩ := hF3.out W3 hb3
    clear hb3 hb12 hbw2 s0 s1 K3b hF3
    cases g3 : (kd == 1)
    · have g4 : (kd != 1) = true := by rw [bne, g3]; rfl
      have HTy : Hid (res = (0, 13)) := Lib.hid (by rw [HRes.out]; exact tots_type HGood.out ⟨H0.out, by rw [← HKd.out]; intro e; rw [e] at g3; cases g3⟩)
      go_wp2_with fail
      go_quiet (fail)
      have hbq : Below w.heap.size w (W3.drewN nq) := hbw3.trans (below_grow W3 nq #[] |> fun h => by simpa [Go.Sort.grow_empty] using h.mono hbw3.size)
      clear d0 z0 y0
      go_wp2_with fail
      go_ret2
      exact ⟨by rw [HTy.out]; rfl, hbq⟩
    have g4 : (kd != 1) = false := by rw [bne, g3]; rfl
    have HOk : Hid (res = totR (totF F colI.toNat q)) := Lib.hid (by rw [HRes.out, tots_ok HGood.out (fun h => h.2 (by rw [← HKd.out]; exact eq_of_beq g3))])
    go_wp2_with fail
    go_quiet (fail)
    clear d0 z0 y0 g3 g4
    go_wp2_with fail
    obtain ⟨W4, hW4, t1, t2, hb4, hz4⟩ := made_sums (W3.drewN nq)
    have e4 : (W3.drewN nq).heap.size = W3.heap.size := rfl
    rw [e4] at t1 t2 hz4
    rw [← hW4]
    have hbq : Below w.heap.size w W4 := (hbw3.trans (below_grow W3 nq #[] |> fun h => by simpa [Go.Sort.grow_empty] using h.mono hbw3.size)).trans (hb4.mono (by have := hbw3.size; rw [e4]; omega))
    have hbq0 : Below W0.heap.size W0 W4 := (hb03.trans (below_grow W3 nq #[] |> fun h => by simpa [Go.Sort.grow_empty] using h.mono hb03.size)).trans (hb4.mono (by have := hb03.size; rw [e4]; omega))
    have hs3 := hb03.size
    clear hb4 hW4 e4
    have hrv := valid_rows Hv.out
    have hmk := valid_ok Hv.out Hm.out
    have hspq := spT_ok Hq.out
    have hqlt : q.1 < q.2 := by have := hspq.1; unfold OkSp at this; exact this.2.1
    have hE : TotE F S (row0 F).length colI q w.heap.size w (.slice (some ⟨b, off, none⟩) F.length c) := ⟨hs, rfl, fun f hf => ⟨hmk f hf, (hrv.2 f hf).1.2.2⟩, ⟨hc1, hc3⟩, fun f hf => (spT_ok (hrv.2 f hf).2.1).1, hrv.1, hspq.2.1, hqlt, hspq.2.2⟩
    have KE := Lib.hid (aeach_c (F := F) (S := S) (base := w.heap.size) (f := 50) (caps := #[.pointer (some ⟨w.heap.size + 1, 0, none⟩), .pointer (some ⟨W3.heap.size, 0, none⟩), .pointer (some ⟨w.heap.size, 0, none⟩), .pointer (some ⟨W3.heap.size + 1, 0, none⟩)])
      (J := fun _ => TotJ q colI w.heap.size w (w.heap.size + 1) W3.heap.size w.heap.size (W3.heap.size + 1)) (Fin := fun _ _ _ _ => False) _ W4 hbq.size
      (fun W h => hs.below (hbq.trans h)) hrv.1 hmk (fun f hf => by have := (hrv.2 f hf).1; omega) (fun f hf => (spT_ok (hrv.2 f hf).2.1).1.2.1) (fun f hf => by
        have h1 := (spT_ok (hrv.2 f hf).2.1).1
        unfold OkSp at h1
        omega) hn2
      (fun z1 hz1 => ⟨fun _ _ => by kernel_rfl, totJ_keep (Nat.le_refl _) hbq.size ⟨by omega, by omega, by omega, by omega⟩, fun X v js Vs s h1 h2 h3 h4 h5 h6 h7 => atotal1_c hE hbq.size hz1 ⟨by omega, by omega, by omega, by omega⟩ ⟨by omega, by omega⟩ (by omega) X v js Vs s h1 h2 h3 (by obtain ⟨_, h⟩ := h4; exact rj_own h) h5 h6 h7⟩)
      (fun z1 W h1 h2 h3 => ⟨hbq.trans (h3.mono hbq.size), (HB.out W (hbq0.trans (h3.mono hbq0.size))).2, (HB.out W (hbq0.trans (h3.mono hbq0.size))).1, (h3.block _ (blk_lt t1)).trans t1, (h3.block _ (blk_lt t2)).trans t2⟩))
    have Hqlt := Lib.hid hqlt; have HE := Lib.hid hE
    clear hrv hmk hspq t1 t2 hqlt hE
    refine KE.out.mono ?_
    rintro e W7 ⟨z1, cc, Vs, hz1, rfl, hb7, hcase⟩
    have hbw7 := hbq.trans hb7
    by_cases hc0 : cc = 0
    · subst hc0
      rw [if_pos rfl] at hcase
      obtain ⟨hvis, ⟨_, _, _, u1, u2⟩, hvl⟩ := hcase
      have hvis2 : ∀ x ∈ Vs, x.2.length ≤ 1000 ∧ ∀ n ∈ colN x.2 colI.toNat, -9223372036854775808 ≤ n ∧ n ≤ 9223372036854775807 := vis_cols HE.out hvis
      have hsp := HE.out.span
      have hb1 := visT_bound q (by omega) colI.toNat false Vs hvis2
      have hb2 := visT_bound q (by omega) colI.toNat true Vs hvis2
      have hlen := HE.out.len
      have hmul : Vs.length * (1000 * (9223372036854775808 * 549755813888)) ≤ 2000 * (1000 * (9223372036854775808 * 549755813888)) := Nat.mul_le_mul_right _ (by omega)
      have KL := Lib.hid (sumless_c (visT false q colI.toNat Vs) (visT true q colI.toNat Vs) (by omega) (by omega) W7)
      rw [tot_res hvis q Hqlt.out] at KL
      have hokr := HOk.out
      unfold totR at hokr
      rw [← hokr] at KL
      have p0 := blk_get u1 0
      have p1 := blk_get u1 1
      have m0 := blk_get u2 0
      have m1 := blk_get u2 1
      simp at p0 p1 m0 m1
      clear u1 u2 hb1 hb2 hmul hvis hvis2 hokr hsp hlen
      go_wp2_with fail
      refine KL.out.mono ?_
      rintro e W8 ⟨rfl, hb8⟩
      have hbw8 := hbw7.trans (hb8.mono hbw7.size)
      clear hb8
      go_wp2_with fail
      go_ret2
      exact ⟨rfl, hbw8⟩
    · rw [if_neg hc0] at hcase
      exact hcase.2.elim
end Go.Proofs.YtohjgegnamcnlaaGreat
