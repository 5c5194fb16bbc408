/- Law 39: the reference's Top. -/
import Derived.Deep.RegionHeld3
import Derived.Test.YtohjgegnamcnlaaGreatAjG
import Derived.Test.YtohjgegnamcnlaaGreatAjL
import Derived.Test.YtohjgegnamcnlaaGreatAjO
namespace Go.Proofs.YtohjgegnamcnlaaGreat
open Go.RowKit Go.Shelf

def RTopSpec (F : List Fct) (colI c : Int) (v : Value) (w' : World) : Prop :=
  if validF F = true ∧ hasB F colI = true then ∃ B, NormOf B (DTop F colI.toNat) ∧ ((1000 < B.length ∧ c = 5 ∧ v = .slice none 0 0) ∨ (B.length ≤ 1000 ∧ c = 0 ∧ IsFs w' v B)) else c = 1 ∧ v = .slice none 0 0
def RTopRet (F : List Fct) (colI : Int) (w : World) (e : Ending) (w' : World) : Prop := ∃ v c, e = .returned (.tuple #[v, .int .i64 c]) ∧ Below w.heap.size w w' ∧ RTopSpec F colI c v w'
theorem rtop_bad {F : List Fct} {colI : Int} {w' : World} (h : validF F = false ∨ hasB F colI = false) : RTopSpec F colI 1 (.slice none 0 0) w' := by
  unfold RTopSpec
  rw [if_neg (by rintro ⟨h1, h2⟩; rcases h with h | h <;> simp_all)]
  exact ⟨rfl, rfl⟩
theorem vis_fact {F : List Fct} {Vs : List Vis} (hV : VisOk F Vs fun _ => True) (hl : ∀ f ∈ F, OkSp f.2) {v : Vis} (hv : v ∈ Vs) : OkSp v.1 ∧ ∀ r ∈ v.2, ∃ f ∈ F, f.1 = r := by
  obtain ⟨h1, ⟨f, hf, h2⟩, ⟨g, hg, h3⟩⟩ := hV.span v hv
  have a1 := hl f hf
  have a2 := hl g hg
  refine ⟨by unfold OkSp at *; omega, fun r hr => ?_⟩
  obtain ⟨f, hf, e, _⟩ := ((hV.rows v hv).2.2 v.1.1 (Int.le_refl _) h1 r).1 hr
  exact ⟨f, hf, e⟩
theorem top_facts {F : List Fct} {col : Nat} {A : List Fct} (hl : ∀ f ∈ F, OkSp f.2) (hA : TopA col (visR F) A) : ∀ a ∈ A, OkSp a.2 ∧ ∃ f ∈ F, f.1 = a.1 := fun a ha => by
  obtain ⟨v, hv, e1, e2⟩ := (hA a).1 ha
  obtain ⟨h1, h2⟩ := vis_fact (visR_ok F) hl hv
  rw [← e1]
  exact ⟨h1, h2 _ e2.1⟩
theorem rowsJ_rvo {F : List Fct} {S : Nat → Value} {js : List Nat} {w0 X : World} {base : Nat} {o : Value} (hj : ∀ j ∈ js, j < F.length) (hv : ∀ i, i < F.length → IsVals w0 (S i) (fc F i).1) (h : X.ownsRow base 47 1 o js.length (js.map S)) : RvO w0 base X o (rowsJ F js) := by
  have hl : (rowsJ F js).length = js.length := by simp [rowsJ]
  refine ⟨js.map S, by rw [hl]; exact h, by simp [rowsJ], fun i hi => ?_⟩
  rw [hl] at hi
  rw [vr_rowsJ hi]
  have e : (js.map S).getD i undef = S (js.getD i 0) := by simp [hi]
  rw [e]
  exact hv _ (hj _ (getD_mem hi))
theorem rvo_cell {X : World} {base : Nat} {v : Value} {R : List VRow} {ss : List Value} (h : X.ownsRow base 47 1 v R.length ss) (hl : ss.length = R.length) {g : Nat} (hg : v.ownBlock = some g) {i : Nat} (hi : i < R.length) : X.cell? ⟨g, i, none⟩ = some (ss.getD i undef) := by
  have h1 := World.ownsRow.cells h hg i (ss.getD i undef) (by simp [show i < ss.length by omega])
  rw [Addr.add_lit, Nat.zero_add] at h1
  exact h1
set_option maxRecDepth 100000 in
set_option maxHeartbeats 16000000 in
theorem r39Top_c (v : Value) (F : List Fct) (col : Int) (w : World) (hs : IsFs w v F) (hn : F.length ≤ 16) (hsm : validF F = true → ∀ f ∈ F, ∀ x ∈ f.1, x.2.2.size ≤ 1000000000) : Calls Tryz.prog 24 #[v, .int .i64 col] w (RTopRet F col w) := by
  have KV := Lib.hid (r39Valid_c v F w hs)
  have KE : Hid (∀ X, Below w.heap.size w X → Calls Tryz.prog 42 #[v] X (IntsRet (endsN F F.length) X)) := Lib.hid fun X h => r39Ends_c v F X (hs.below h) (by omega)
  obtain ⟨S, hs⟩ := hs
  have KR : Hid (∀ X t, Below w.heap.size w X → Calls Tryz.prog 43 #[v, .int .i64 t] X (RowsRetJ F S t X)) := Lib.hid fun X t h => r39RowsJ_c v F S t X (hs.below h) (by omega)
  obtain ⟨A, cc, rfl, hnc, hcc⟩ := hs.form
  cases hv : validF F
  · have HB := Lib.hid (fun w' => rtop_bad (colI := col) (w' := w') (.inl hv))
    rw [hv] at KV
    clear hv
    go_enter Tryz.func24, Tryz.ntmps24
    go_wp2_with fail
    refine KV.out.mono ?_
    rintro e W1 ⟨rfl, hb1⟩
    go_wp2_with fail
    go_ret2
    exact ⟨_, 1, rfl, hb1, HB.out _⟩
  have Hv := Lib.hid hv
  rw [hv] at KV
  cases hh : hasB F col
  · have HB := Lib.hid (fun w' => rtop_bad (colI := col) (w' := w') (.inr hh))
    have hh2 := hh
    unfold hasB at hh2
    have hp : 0 < F.length := by
      rcases Nat.eq_zero_or_pos F.length with e | e
      · rw [decide_eq_true e] at hh2; cases hh2
      · exact e
    rw [decide_eq_false (by omega), Bool.false_or] at hh2
    have f0 : decide ((0 : Int) < (F.length : Int)) = true := decide_eq_true (by omega)
    obtain ⟨b, off, rfl, hbl⟩ := hs.addr hp
    have c0 := fun X h => (hs.below (w' := X) h).c0 0 hp
    obtain ⟨A0, p0, hS0, _, _⟩ := (hs.2 0 hp).form
    have hrr : (fc F 0).1 = row0 F := rfl
    rw [hrr] at hS0
    rw [hS0] at c0
    simp only [Nat.zero_mul, Nat.add_zero] at c0
    have C0 := Lib.hid c0
    have hbad : decide (col < 0) = true ∨ (decide (col < 0) = false ∧ decide (((row0 F).length : Int) ≤ col) = true) := by
      by_cases q : col < 0
      · exact .inl (decide_eq_true q)
      · refine .inr ⟨decide_eq_false q, decide_eq_true ?_⟩
        rw [decide_eq_true (show (0 : Int) ≤ col by omega), Bool.true_and] at hh2
        have := of_decide_eq_false hh2
        omega
    clear hv hh hh2 c0 hrr hS0
    rcases hbad with q1 | ⟨q1, q2⟩
    all_goals
      go_enter Tryz.func24, Tryz.ntmps24
      go_wp2_with fail
      refine KV.out.mono ?_
      rintro e W1 ⟨rfl, hb1⟩
      have d0 := C0.out W1 hb1
      go_wp2_with fail
      go_ret2
      exact ⟨_, 1, rfl, hb1, HB.out _⟩
  have hline : ∀ f ∈ F, OkSp f.2 := fun f hf => (spT_ok ((valid_rows hv).2 f hf).2.1).1
  have hsm2 := hsm hv
  have hTF : ∀ A, TopA col.toNat (visR F) A → ∀ a ∈ A, OkSp a.2 ∧ ∃ f ∈ F, f.1 = a.1 := fun A h => top_facts hline h
  have hEl := endsN_len F F.length
  have hvr : visR F = visN F (endsN F F.length) ((endsN F F.length).length - 1) := rfl
  have hpos : ∀ f ∈ F, 0 < f.1.length := fun f hf => ((valid_rows hv).2 f hf).1.1
  have hwid : ∀ f ∈ F, f.1.length = (row0 F).length := fun f hf => ((valid_rows hv).2 f hf).1.2.2
  have hnrm : ∀ A G, TopA col.toNat (visR F) A → NormOf G (ptsF A) → NormOf G (DTop F col.toNat) := fun A G h1 h2 => top_norm (visR_ok F) h1 h2
  have hcp : F.length ≠ 0 → 0 ≤ col ∧ col < (row0 F).length := fun h0 => by
    unfold hasB at hh
    rw [decide_eq_false h0, Bool.false_or, Bool.and_eq_true, decide_eq_true_eq, decide_eq_true_eq] at hh
    exact hh
  have hrl : ∀ t, (rowsAt F t).length ≤ 16 := fun t => by
    have key : ∀ k, (rowsN F t k).length ≤ k := fun k => by
      induction k with
      | zero => exact Nat.le_refl _
      | succ k ih =>
        rw [rowsN_succ]
        split
        · rw [List.length_append]
          show _ + 1 ≤ _
          omega
        · omega
    exact Nat.le_trans (key _) hn
  have hrm : ∀ t, ∀ r ∈ rowsAt F t, r ∈ F.map (·.1) := fun t r hr => by
    obtain ⟨f, hf, e, _⟩ := rowsAt_mem.1 hr
    exact List.mem_map.2 ⟨f, hf, e⟩
  have Hrm := Lib.hid hrm; have Hrl := Lib.hid hrl; have Hcp := Lib.hid hcp; have Hnrm := Lib.hid hnrm; have Hwid := Lib.hid hwid; have Hpos := Lib.hid hpos; have HTF := Lib.hid hTF; have Hsm := Lib.hid hsm2
  have Hh : Hid (validF F = true ∧ hasB F col = true) := Lib.hid ⟨hv, hh⟩
  generalize endsN F F.length = E at *
  have Hvr := Lib.hid hvr; have HEl := Lib.hid hEl
  have HFin := Lib.hid hs
  clear hv hline hTF hvr hpos hwid hnrm hcp hrl hrm hsm hsm2 hh hEl
  by_cases h0 : F.length = 0
  · have hF : F = [] := List.length_eq_zero_iff.1 h0
    have hE0 : E.length = 0 := by have := HEl.out; omega
    have hv0 : visR F = [] := by rw [Hvr.out, hE0]; rfl
    have HT0 : Hid (TopA col.toNat (visR F) []) := Lib.hid (by rw [hv0]; exact TopA.none)
    have f0 : decide ((0 : Int) < (F.length : Int)) = false := decide_eq_false (by omega)
    have f0n : decide (0 < F.length) = false := decide_eq_false (by omega)
    have f0m : ¬ 0 < F.length := by omega
    have KN : Hid (∀ X, Calls Tryz.prog 47 #[.slice none 0 0] X (NormRet [] X)) := Lib.hid fun X => r39Normal_c _ [] X IsFs.nil (by simp) (fun f hf => absurd hf (by simp)) (fun f hf => absurd hf (by simp)) (fun f hf => absurd hf (by simp))
    have HE0 := Lib.hid hE0
    clear hF hE0 hv0 h0
    go_enter Tryz.func24, Tryz.ntmps24
    go_wp2_with fail
    refine KV.out.mono ?_
    rintro e W1 ⟨rfl, hb1⟩
    go_wp2_with fail
    refine (KE.out W1 hb1).mono ?_
    rintro e W2 ⟨ve, rfl, hE, hb2⟩
    have HB2 := Lib.hid (hb1.trans (hb2.mono hb1.size))
    obtain ⟨Ae, ce, rfl, _, _⟩ := IsInts.form hE
    rw [HE0.out]
    clear hb1 hb2 hE
    go_wp2_with fail
    go_loopw [6, 8] (fun o i X => o = .slice none 0 0 ∧ i = .int .i64 0 ∧ Hid (X = W2)) (fun _ _ _ => 0)
    case atStart => exact ⟨rfl, rfl, Lib.hid (by first | rfl | trivial)⟩
    case round =>
      obtain ⟨rfl, rfl, hX⟩ := hrel
      have hX := hX.out
      subst hX
      go_wp2_with fail
      refine (KN.out _).mono ?_
      rintro e W3 ⟨vn, B, rfl, hB, hBl, hFs, hb3⟩
      have hB0 : B.length = 0 := by simpa using hBl
      have q1 : decide ((1000 : Int) < (B.length : Int)) = false := decide_eq_false (by omega)
      have Hq : Hid (B.length ≤ 1000) := Lib.hid (by omega)
      obtain ⟨S3, hFs⟩ := hFs
      obtain ⟨A3, c3, rfl, _, _⟩ := hFs.form
      have HFs := Lib.hid hFs
      have HB := Lib.hid (Hnrm.out _ _ HT0.out hB)
      have HBw := Lib.hid (HB2.out.trans (hb3.mono HB2.out.size))
      clear hB hb3 hFs hB0 hBl
      go_wp2_with fail
      go_ret2
      exact ⟨_, 0, rfl, HBw.out, by unfold RTopSpec; rw [if_pos Hh.out]; exact ⟨B, HB.out, .inr ⟨Hq.out, rfl, ⟨_, HFs.out⟩⟩⟩⟩
  have hp : 0 < F.length := by omega
  obtain ⟨hc0, hc1⟩ := Hcp.out h0
  obtain ⟨m, rfl⟩ : ∃ m : Nat, col = (m : Int) := ⟨col.toNat, by omega⟩
  have hmt : (m : Int).toNat = m := by omega
  rw [hmt] at Hnrm HTF
  have f0 : decide ((0 : Int) < (F.length : Int)) = true := decide_eq_true (by omega)
  have f0n : decide (0 < F.length) = true := decide_eq_true hp
  have f1 : decide ((m : Int) < 0) = false := decide_eq_false (by omega)
  have f2 : decide (((row0 F).length : Int) ≤ (m : Int)) = false := decide_eq_false (by omega)
  have f2n : decide ((row0 F).length ≤ m) = false := decide_eq_false (by omega)
  obtain ⟨b, off, rfl, hbl⟩ := hs.addr hp
  obtain ⟨A0, p0, hS0, _, _⟩ := (hs.2 0 hp).form
  have hrr : (fc F 0).1 = row0 F := rfl
  have c0 := fun X h => (hs.below (w' := X) h).c0 0 hp
  rw [hrr] at hS0
  rw [hS0] at c0
  simp only [Nat.zero_mul, Nat.add_zero] at c0
  have C0 := Lib.hid c0
  have Hhm : Hid ((m : Int).toNat = m) := Lib.hid hmt
  have Hmw : Hid (∀ f ∈ F, m < f.1.length) := Lib.hid fun f hf => by rw [Hwid.out f hf]; omega
  clear hc0 hc1 h0 hrr hS0 c0 hmt hbl
  go_enter Tryz.func24, Tryz.ntmps24
  go_wp2_with fail
  refine KV.out.mono ?_
  rintro e W1 ⟨rfl, hb1⟩
  have d0 := C0.out W1 hb1
  go_wp2_with fail
  refine (KE.out W1 hb1).mono ?_
  rintro e W2 ⟨ve, rfl, hE, hb2⟩
  have HB2 := Lib.hid (hb1.trans (hb2.mono hb1.size))
  obtain ⟨Ae, ce, rfl, _, _⟩ := IsInts.form hE
  have HE := Lib.hid hE
  clear hb1 hb2 hE d0 f0 f0n f1 f2 f2n KV KE C0 hp
  go_wp2_with fail
  try go_frame
  go_loopw [6, 8] (fun o i X => ∃ (k : Nat) (G : List Fx), i = .int .i64 (k : Int) ∧ (k = 0 ∨ k < E.length) ∧ Hid (OwnsFx X W2.heap.size o G) ∧ Hid (TopA m (visN F E k) (G.map (·.2))) ∧ Hid (G.length ≤ k * 16) ∧ Hid (Below W2.heap.size W2 X)) (fun _ i _ => E.length - (intOf i).toNat)
  case atStart => exact ⟨0, [], rfl, .inl rfl, Lib.hid ⟨own_nil _ _ _ _, fun x hx => absurd hx (by simp)⟩, Lib.hid TopA.none, Lib.hid (by simp), Lib.hid (Below.refl _ _)⟩
  case round =>
    obtain ⟨k, G, rfl, hk, HO, HA, HGl, HB⟩ := hrel
    rename World => X
    have hE32 : E.length ≤ 32 := by have := HEl.out; omega
    have hwr : IntKind.i64.wrap ((k : Int) + 1) = (k : Int) + 1 := IntWalk.i64_in _ (by omega)
    have HBw : Hid (Below w.heap.size w X) := Lib.hid (HB2.out.trans (HB.out.mono HB2.out.size))
    by_cases hlt : k + 1 < E.length
    · have g1 : decide ((k : Int) + 1 < (E.length : Int)) = true := decide_eq_true (by omega)
      have g2 : (0 : Int) ≤ (k : Int) + 1 := by omega
      have g3 : (k : Int) + 1 < (E.length : Int) := by omega
      have g4 : ((k : Int) + 1).toNat = k + 1 := by omega
      have g5 : k < E.length := by omega
      obtain ⟨be, oe, rfl, hbe⟩ := IsInts.addr HE.out (by omega)
      have hin := HE.out.below HB.out
      have c0 := hin.c0 k (by omega)
      have c1 := hin.c0 (k + 1) hlt
      have hbX : be < X.heap.size := Nat.lt_of_lt_of_le hbe HB.out.size
      have K := Lib.hid (KR.out X (iv E k) HBw.out)
      have hstep : ∀ A0, TopA m (visN F E k) A0 → TopA m (visN F E (k + 1)) (A0 ++ topK m (rowsAt F (iv E k)) (iv E k, iv E (k + 1)) (rowsAt F (iv E k)).length) := fun A0 h => by
        by_cases q : rowsAt F (iv E k) = []
        · rw [visN_none q, q]
          show TopA m (visN F E k) (A0 ++ topK m [] _ 0)
          rw [topK_zero, List.append_nil]
          exact h
        · rw [visN_some q]
          exact h.sec
      have hR16 := Hrl.out (iv E k)
      have hRm := Hrm.out (iv E k)
      obtain ⟨s1, hs1⟩ : ∃ x, x = iv E k := ⟨_, rfl⟩
      obtain ⟨s2, hs2⟩ : ∃ x, x = iv E (k + 1) := ⟨_, rfl⟩
      rw [← hs1] at c0 K hstep hR16 hRm
      rw [← hs2] at c1 hstep
      have HStep := Lib.hid hstep; have HRm := Lib.hid hRm; have Hlt := Lib.hid hlt
      have FB : Hid (∀ Y, Below W2.heap.size X Y → Y.cell? ⟨be, oe + k, none⟩ = some (.int .i64 s1) ∧ Y.cell? ⟨be, oe + (k + 1), none⟩ = some (.int .i64 s2)) := Lib.hid fun Y h => ⟨(h.cell (p := ⟨be, oe + k, none⟩) hbe).trans c0, (h.cell (p := ⟨be, oe + (k + 1), none⟩) hbe).trans c1⟩
      clear hin hstep hRm hs1 hs2 hk c1
      go_wp2_with fail
      refine K.out.mono ?_
      rintro e X3 ⟨vr3, js, rfl, hj1, hj2, hown3, hb3⟩
      rw [hj1] at HStep HRm hR16
      have hRo := rowsJ_rvo hj2 HFin.out.2 hown3
      generalize rowsJ F js = R at HStep HRm hR16 hRo
      obtain ⟨ss, hss, hssl, hssv⟩ := hRo
      obtain ⟨Ar, cr, rfl, _, _⟩ := RowsIn.form (own_rv hss hssl (fun i hi => (hssv i hi).below (HBw.out.trans (hb3.mono HBw.out.size)))).1
      have HB3 := Lib.hid (HB.out.trans (hb3.mono HB.out.size))
      have HX3 : Hid (Below W2.heap.size X X3) := Lib.hid (hb3.mono HB.out.size)
      have HO3 := Lib.hid (HO.out.below hb3)
      have HR3 := Lib.hid hss; have Hssl := Lib.hid hssl; have Hssv := Lib.hid hssv
      have HzX : Hid (W2.heap.size ≤ X.heap.size) := Lib.hid HB.out.size
      have HRw : Hid (∀ i, i < R.length → m < (vr R i).length ∧ 0 < (vr R i).length ∧ ∀ x ∈ vr R i, x.2.2.size ≤ 1000000000) := Lib.hid fun i hi => by
        obtain ⟨f, hf, e⟩ := List.mem_map.1 (HRm.out _ (vr_mem hi))
        rw [← e]
        exact ⟨Hmw.out f hf, Hpos.out f hf, Hsm.out f hf⟩
      clear hss hssl hssv hb3 hj1 hj2 hown3 c0 g1 hwr
      go_wp2_with fail
      go_loopw [6, 10] (fun o i Y => ∃ (j : Nat) (G' : List Fx), i = .int .i64 (j : Int) ∧ j ≤ R.length ∧ Hid (OwnsFx Y W2.heap.size o G') ∧ Hid (G'.map (·.2) = G.map (·.2) ++ topK m R (s1, s2) j) ∧ Hid (Y.ownsRow X.heap.size 47 1 (.slice Ar R.length cr) R.length ss) ∧ Hid (Below W2.heap.size X3 Y)) (fun _ i _ => R.length - (intOf i).toNat)
      case atStart => exact ⟨0, G, rfl, Nat.zero_le _, HO3, Lib.hid (by rw [topK_zero, List.append_nil]), HR3, Lib.hid (Below.refl _ _)⟩
      case round =>
        obtain ⟨j, G', rfl, hj, HO', HE', HR', HY⟩ := hrel
        rename World => Y
        have HXY : Hid (Below W2.heap.size X Y) := Lib.hid (HX3.out.trans HY.out)
        have HWY : Hid (Below w.heap.size w Y) := Lib.hid (HBw.out.trans (HXY.out.mono HB2.out.size))
        by_cases hlj : j < R.length
        · obtain ⟨gr, capr, hre, _, hgl, _, _⟩ := own_formG HR'.out (by omega)
          injection hre with hre hre2 hre3
          subst hre
          have d0 := rvo_cell HR'.out Hssl.out (g := gr) rfl hlj
          have hvj := Hssv.out j hlj
          obtain ⟨Aj, pj, hSj, _, _⟩ := hvj.form
          rw [hSj] at d0 hvj
          obtain ⟨hwj, hwp, _⟩ := HRw.out j hlj
          have hyes := topK_yes (col := m) (s := (s1, s2)) hlj
          have hno := topK_no (col := m) (s := (s1, s2)) hlj
          have hall := topJ_all (col := m) (R := R) (vr R j)
          obtain ⟨bj, oj, rfl, hbj⟩ := hvj.addr hwp
          have x0 := hvj.c0 m hwj
          have x1 := hvj.c1 m hwj
          have x2 := hvj.c2 m hwj
          have hsucc := fun q (h : q < R.length) => topJ_succ (col := m) (x := vr R j) h
          have hz := topJ_zero (col := m) (R := R) (vr R j)
          obtain ⟨y, hy⟩ : ∃ y, y = vr R j := ⟨_, rfl⟩
          rw [← hy] at d0 hvj hwj hwp hyes hno hall x0 x1 x2 hsucc hz
          have hxs := fun q (h : q < R.length) => (HRw.out q h)
          obtain ⟨⟨k2, n2, t2⟩, hx⟩ : ∃ x, x = va y m := ⟨_, rfl⟩
          rw [← hx] at x0 x1 x2 hsucc
          have Hyes := Lib.hid hyes; have Hno := Lib.hid hno; have Hall := Lib.hid hall; have Hsucc := Lib.hid hsucc; have Hz := Lib.hid hz; have Hvj := Lib.hid hvj; have Hwp := Lib.hid hwp; have Hlj := Lib.hid hlj; have Hgl := Lib.hid hgl
          have D0 : Hid (∀ Z, Below Y.heap.size Y Z → Z.cell? ⟨gr, j, none⟩ = some (.slice (some ⟨bj, oj, none⟩) y.length pj)) := Lib.hid fun Z h => (h.cell (p := ⟨gr, j, none⟩) hgl).trans d0
          have X0 : Hid (∀ Z, Below w.heap.size w Z → Z.cell? ⟨bj, oj + m * 3, none⟩ = some (.int .i64 k2) ∧ Z.cell? ⟨bj, oj + m * 3 + 1, none⟩ = some (.int .i64 n2) ∧ Z.cell? ⟨bj, oj + m * 3 + 2, none⟩ = some (.string t2)) := Lib.hid fun Z h => ⟨(h.cell (p := ⟨bj, oj + m * 3, none⟩) hbj).trans x0, (h.cell (p := ⟨bj, oj + m * 3 + 1, none⟩) hbj).trans x1, (h.cell (p := ⟨bj, oj + m * 3 + 2, none⟩) hbj).trans x2⟩
          clear hyes hno hall hsucc hz hvj hwp hSj d0 x0 x1 x2 hy hx hre2 hre3 hgl hxs
          go_wp2_with fail
          go_loopw [11, 12] (fun tp i Q => ∃ (q : Nat) (z : Bool), tp = .bool z ∧ Hid (z = topJ m R y q) ∧ i = .int .i64 (q : Int) ∧ q ≤ R.length ∧ Hid (Below Y.heap.size Y Q)) (fun _ i _ => R.length - (intOf i).toNat)
          case atStart => exact ⟨0, true, rfl, Lib.hid Hz.out.symm, rfl, Nat.zero_le _, Lib.hid (Below.refl _ _)⟩
          case round =>
            obtain ⟨q, z, rfl, HZ, rfl, hq, HQ⟩ := hrel
            rename World => Q
            have HWQ : Hid (Below w.heap.size w Q) := Lib.hid (HWY.out.trans (HQ.out.mono HWY.out.size))
            by_cases hlq : q < R.length
            · have Hlq := Lib.hid hlq
              have hsq := Hsucc.out q hlq
              cases z
              · have HT : Hid (false = topJ m R y (q + 1)) := Lib.hid (by rw [hsq, ← HZ.out]; rfl)
                clear hsq
                go_wp2_with fail
                refine wp_region_below (by kernel_rfl) (by kernel_rfl) ?_
                repeat (go_big_quiet_step (fail))
                refine wpQuiet_nil ?_
                rintro Y1 ⟨⟨_, hbY⟩, rfl⟩
                go_wp2_with fail
                go_roundw
                case rel => exact ⟨q + 1, false, rfl, HT, by go_num, Hlq.out, Lib.hid (HQ.out.trans (hbY.mono HQ.out.size))⟩
                case measure => have := Hlq.out; simp [intOf]; omega
              · have dq := rvo_cell (own_below HR'.out HQ.out (Nat.le_refl _)) Hssl.out (g := gr) rfl hlq
                have hvq := Hssv.out q hlq
                obtain ⟨Aq, pq, hSq, _, _⟩ := hvq.form
                rw [hSq] at dq hvq
                obtain ⟨hwq, hwpq, hszq⟩ := HRw.out q hlq
                obtain ⟨bq, oq, rfl, hbq⟩ := hvq.addr hwpq
                have x0 := hvq.c0 m hwq
                have x1 := hvq.c1 m hwq
                have x2 := hvq.c2 m hwq
                have hsz := hszq _ (va_mem hwq)
                obtain ⟨yq, hyq⟩ : ∃ y, y = vr R q := ⟨_, rfl⟩
                rw [← hyq] at dq hwq x0 x1 x2 hsq hsz
                obtain ⟨⟨k1, n1, t1⟩, hx⟩ : ∃ x, x = va yq m := ⟨_, rfl⟩
                rw [← hx] at x0 x1 x2 hsq hsz
                have KC : Hid (∀ Z : World, Calls Tryz.prog 66 #[.agg #[.int .i64 k1, .int .i64 n1, .string t1], .agg #[.int .i64 k2, .int .i64 n2, .string t2]] Z (Ret Z (.int .i64 (cmpV (k1, n1, t1) (k2, n2, t2))))) := Lib.hid fun Z => r33Compare_c _ _ _ _ _ _ Z hsz
                have HT : Hid (decide (cmpV (k1, n1, t1) (k2, n2, t2) ≤ 0) = topJ m R y (q + 1)) := Lib.hid (by rw [hsq, ← HZ.out, Bool.true_and])
                generalize cmpV (k1, n1, t1) (k2, n2, t2) = d at KC HT
                have hgQ : gr < Q.heap.size := Nat.lt_of_lt_of_le Hgl.out HQ.out.size
                have hwQ := HWQ.out.size
                have hbqQ : bq < Q.heap.size := Nat.lt_of_lt_of_le hbq hwQ
                have hbjQ : bj < Q.heap.size := Nat.lt_of_lt_of_le hbj hwQ
                obtain ⟨z0, z1, z2⟩ := X0.out Q HWQ.out
                have zj := D0.out Q HQ.out
                have e0 := fun x : BW Q => bw_cell x dq hgQ
                have e1 := fun x : BW Q => bw_cell x ((HWQ.out.cell (p := ⟨bq, oq + m * 3, none⟩) hbq).trans x0) hbqQ
                have e2 := fun x : BW Q => bw_cell x ((HWQ.out.cell (p := ⟨bq, oq + m * 3 + 1, none⟩) hbq).trans x1) hbqQ
                have e3 := fun x : BW Q => bw_cell x ((HWQ.out.cell (p := ⟨bq, oq + m * 3 + 2, none⟩) hbq).trans x2) hbqQ
                have e4 := fun x : BW Q => bw_cell x zj hgQ
                have e5 := fun x : BW Q => bw_cell x z0 hbjQ
                have e6 := fun x : BW Q => bw_cell x z1 hbjQ
                have e7 := fun x : BW Q => bw_cell x z2 hbjQ
                clear hsq hx hyq hszq hsz hvq hSq x0 x1 x2 dq zj z0 z1 z2 hwpq
                go_wp2_with fail
                refine wp_region_below (by kernel_rfl) (by kernel_rfl) ?_
                repeat (go_big_quiet_step ((go_at_call 66; exact calls_bw _ (KC.out _))))
                refine wpQuiet_nil ?_
                rintro Y1 ⟨⟨_, hbY⟩, rfl⟩
                clear e0 e1 e2 e3 e4 e5 e6 e7
                go_wp2_with fail
                go_roundw
                case rel => exact ⟨q + 1, _, rfl, HT, by go_num, Hlq.out, Lib.hid (HQ.out.trans (hbY.mono HQ.out.size))⟩
                case measure => have := Hlq.out; simp [intOf]; omega
            · obtain rfl : q = R.length := by omega
              have HZa : Hid (z = topB m R y) := Lib.hid (HZ.out.trans Hall.out)
              have HO2 := Lib.hid (HO'.out.below HQ.out)
              have HR2 := Lib.hid (own_below HR'.out HQ.out (Nat.le_refl _))
              have HX2 : Hid (Below W2.heap.size X Q) := Lib.hid (HXY.out.trans (HQ.out.mono (Nat.le_trans HzX.out (by have := HXY.out.size; exact this))))
              have H32 : Hid (Below W2.heap.size X3 Q) := Lib.hid (HY.out.trans (HQ.out.mono (Nat.le_trans HzX.out (by have := HXY.out.size; exact this))))
              cases z
              · have HN := Lib.hid (Hno.out HZa.out.symm)
                go_wp2_with fail
                go_roundw
                case rel => exact ⟨j + 1, G', by go_num, Hlj.out, HO2, Lib.hid (by rw [HE'.out, HN.out]), HR2, H32⟩
                case measure => have := Hlj.out; simp [intOf]; omega
              · have HN := Lib.hid (Hyes.out HZa.out.symm)
                obtain ⟨c0, c1⟩ := FB.out Q HX2.out
                have d0 := D0.out Q HQ.out
                have hzX := HzX.out
                have hX2s := HX2.out.size
                have hgQ : gr < Q.heap.size := Nat.lt_of_lt_of_le Hgl.out HQ.out.size
                have hbeQ : be < Q.heap.size := by omega
                have hGl9 : G'.length < 900000000 := by
                  have h1 := congrArg List.length HE'.out
                  have h2 := topK_len (col := m) (R := R) (s := (s1, s2)) (k := j)
                  rw [List.length_map, List.length_append, List.length_map] at h1
                  have h3 := HGl.out
                  have h4 := Hlt.out
                  have h5 : k * 16 ≤ 32 * 16 := Nat.mul_le_mul_right _ (by omega)
                  omega
                have FC : Hid (∀ Z : World, Z.heap[be]? = Q.heap[be]? → Z.heap[gr]? = Q.heap[gr]? → Z.cell? ⟨gr, j, none⟩ = some (.slice (some ⟨bj, oj, none⟩) y.length pj) ∧ Z.cell? ⟨be, oe + k, none⟩ = some (.int .i64 s1) ∧ Z.cell? ⟨be, oe + (k + 1), none⟩ = some (.int .i64 s2)) := Lib.hid fun Z h1 h2 => ⟨(World.cell?_of_block h2).trans d0, (World.cell?_of_block h1).trans c0, (World.cell?_of_block h1).trans c1⟩
                have FQ : Hid (∀ Z, Below Q.heap.size Q Z → Z.cell? ⟨gr, j, none⟩ = some (.slice (some ⟨bj, oj, none⟩) y.length pj) ∧ Z.cell? ⟨be, oe + k, none⟩ = some (.int .i64 s1) ∧ Z.cell? ⟨be, oe + (k + 1), none⟩ = some (.int .i64 s2)) := Lib.hid fun Z h => FC.out Z (h.block _ hbeQ) (h.block _ hgQ)
                have Hoo := Lib.hid (fun b hb => World.ownsRow.lt HO2.out.own b hb)
                have Htag := Lib.hid (fun b (h1 : (Value.slice (some ⟨gr, 0, none⟩) R.length cr).ownBlock = some b) h2 => own_tag HR2.out HO2.out.own (by decide) h1 h2)
                have HvQ : Hid (IsVals Q (.slice (some ⟨bj, oj, none⟩) y.length pj) y) := Lib.hid (Hvj.out.below HWQ.out)
                have HvB : Hid (∀ q, sblk (.slice (some ⟨bj, oj, none⟩) y.length pj) = some q → q < w.heap.size) := Lib.hid fun q hq => Hvj.out.blk_lt Hwp.out q hq
                have hw2 := HB2.out.size
                have Hw2 := Lib.hid hw2
                have hbase : W2.heap.size ≤ Q.heap.size := by omega
                have HQs := Lib.hid hbase
                have kb : Below Q.heap.size Q Q := Below.refl _ _
                have hwr : IntKind.i64.wrap ((k : Int) + 1) = (k : Int) + 1 := IntWalk.i64_in _ (by omega)
                have HbeN : Hid (∀ g, be = g → g < W2.heap.size) := Lib.hid fun g e => by omega
                clear c0 c1 d0 hX2s
                go_wp2_with fail
                go_region_held3 (fun Z => Z.cell? ⟨gr, j, none⟩ = some (.slice (some ⟨bj, oj, none⟩) y.length pj) ∧ Z.cell? ⟨be, oe + k, none⟩ = some (.int .i64 s1) ∧ Z.cell? ⟨be, oe + (k + 1), none⟩ = some (.int .i64 s2)) ((first | exact FQ.out _ kb | exact FQ.out _ kb.drew | exact FQ.out _ (kb.drew.alloc kb.drew.size _) | exact FQ.out _ (kb.alloc kb.size _).drew | exact FQ.out _ (kb.alloc kb.size _) | exact HS7)) (first
                  | ((try rw [if_pos (by rfl)]); refine append_fx_wd _ _ (by rfl) W2.heap.size _ G' (by rfl) HO2.out (f := (y, (s1, s2))) (by rfl) HvQ.out (fun q hq => ⟨by have h1 := HvB.out q hq; have h2 := Hw2.out; have h3 := HQs.out; omega, fun e => by have h1 := (Hoo.out q e).1; have h2 := HvB.out q hq; have h3 := Hw2.out; omega⟩) (by rfl) (by rfl) hGl9 HQs.out (fun v7 w7 hown7 hb7 hbk7 => ?_); have HS7 := FC.out w7 (hbk7 be hbeQ (fun e => Nat.lt_irrefl _ (Nat.lt_of_lt_of_le (HbeN.out be rfl) (Hoo.out _ e).1))) (hbk7 gr hgQ (fun e => Htag.out gr (by rfl) e))))
                all_goals
                  have HR7 := Lib.hid (own_blocks HR2.out (fun g hg => hbk7 g (World.ownsRow.lt HR2.out g hg).2 (fun e => Htag.out g hg e)))
                  have HO7 := Lib.hid hown7
                  have HZ7 := Lib.hid (H32.out.trans hb7)
                  clear hown7 hb7 hbk7
                  go_wp2_with fail
                  go_roundw
                  case rel => exact ⟨j + 1, _, by go_num, Hlj.out, HO7, Lib.hid (by rw [List.map_append, HE'.out, HN.out, List.append_assoc]; rfl), HR7, HZ7⟩
                  case measure => have := Hlj.out; simp [intOf]; omega
        · obtain rfl : j = R.length := by omega
          have HA' : Hid (TopA m (visN F E (k + 1)) (G'.map (·.2))) := Lib.hid (by rw [HE'.out]; exact HStep.out _ HA.out)
          have HGl' : Hid (G'.length ≤ (k + 1) * 16) := Lib.hid (by
            have h1 := congrArg List.length HE'.out
            have h2 := topK_len (col := m) (R := R) (s := (s1, s2)) (k := R.length)
            rw [List.length_map, List.length_append, List.length_map] at h1
            have h3 := HGl.out
            rw [Nat.add_mul]
            omega)
          have HB' : Hid (Below W2.heap.size W2 Y) := Lib.hid (HB3.out.trans HY.out)
          go_wp2_with fail
          go_roundw
          case rel => exact ⟨k + 1, G', by go_num, .inr Hlt.out, HO', HA', HGl', HB'⟩
          case measure => have := Hlt.out; simp [intOf]; omega
    · have g1 : decide ((k : Int) + 1 < (E.length : Int)) = false := decide_eq_false (by omega)
      have hke : k = E.length - 1 := by omega
      have hA := HA.out
      have hGl := HGl.out
      rw [hke, ← Hvr.out] at hA
      have h16 : k * 16 ≤ 32 * 16 := Nat.mul_le_mul_right _ (by omega)
      have hfa := HTF.out _ hA
      have hml : (G.map (·.2)).length = G.length := List.length_map ..
      have KN := Lib.hid (r39Normal_c _ (G.map (·.2)) X HO.out.fs (by rw [hml]; omega) (fun a ha => (hfa a ha).1) (fun a ha => by
        obtain ⟨f, hf, e⟩ := (hfa a ha).2
        rw [← e]
        exact Hsm.out f hf) (fun a ha => by
        obtain ⟨f, hf, e⟩ := (hfa a ha).2
        rw [← e]
        exact Hpos.out f hf))
      have HA1 := Lib.hid hA
      clear hke hA hGl h16 hfa hml hk hlt
      go_wp2_with fail
      refine KN.out.mono ?_
      rintro e W9 ⟨vn, B, rfl, hB, _, ⟨S9, hFs⟩, hb9⟩
      obtain ⟨A9, c9, rfl, _, _⟩ := hFs.form
      have HN := Lib.hid (Hnrm.out _ _ HA1.out hB)
      have HFs := Lib.hid hFs
      have HB9 := Lib.hid (HBw.out.trans (hb9.mono HBw.out.size))
      clear hB hFs hb9 g1
      by_cases hq : B.length ≤ 1000
      · have q1 : decide ((1000 : Int) < (B.length : Int)) = false := decide_eq_false (by omega)
        have Hq := Lib.hid hq
        clear hq
        go_wp2_with fail
        go_ret2
        exact ⟨_, 0, rfl, HB9.out, by unfold RTopSpec; rw [if_pos Hh.out, Hhm.out]; exact ⟨B, HN.out, .inr ⟨Hq.out, rfl, ⟨_, HFs.out⟩⟩⟩⟩
      · have q1 : decide ((1000 : Int) < (B.length : Int)) = true := decide_eq_true (by omega)
        have Hq := Lib.hid hq
        clear hq
        go_wp2_with fail
        go_ret2
        exact ⟨_, 5, rfl, HB9.out, by unfold RTopSpec; rw [if_pos Hh.out, Hhm.out]; exact ⟨B, HN.out, .inl ⟨by have := Hq.out; omega, rfl, rfl⟩⟩⟩
end Go.Proofs.YtohjgegnamcnlaaGreat
