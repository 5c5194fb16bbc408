/- Law 39: the reference's Group. -/
import Derived.Deep.RegionHeld3
import Derived.Deep.DeepCutAuto
import Derived.Test.YtohjgegnamcnlaaGreatAjP
import Derived.Test.YtohjgegnamcnlaaGreatAjV
namespace Go.Proofs.YtohjgegnamcnlaaGreat
open Go.RowKit Go.Shelf

def bad6 (F : List Fct) (ks : List Int) (fn col : Int) : Bool := !keyedB (row0 F).length ks || (!(fn == 1) && (decide (col < 0) || decide (((row0 F).length : Int) ≤ col)))
def bad10 (F : List Fct) (fn col : Int) : Bool := (fn == 2) && !((va (row0 F) col.toNat).1 == 1)
section
variable {F : List Fct} {ks : List Int} {fn col : Int} {w' : World}
theorem rgs_valid (h : validF F = false) : RGrpSpec F ks fn col 1 (.slice none 0 0) w' := by
  unfold RGrpSpec
  rw [if_pos (by unfold bad1; rw [h]; rfl)]
  exact ⟨rfl, rfl⟩
theorem rgs_lo (h : decide (fn < 1) = true) : RGrpSpec F ks fn col 1 (.slice none 0 0) w' := by
  unfold RGrpSpec
  rw [if_pos (by unfold bad1; rw [h]; simp)]
  exact ⟨rfl, rfl⟩
theorem rgs_hi (h : decide (4 < fn) = true) : RGrpSpec F ks fn col 1 (.slice none 0 0) w' := by
  unfold RGrpSpec
  rw [if_pos (by unfold bad1; rw [h]; simp)]
  exact ⟨rfl, rfl⟩
theorem bad1_ok (hv : validF F = true) (h1 : decide (fn < 1) = false) (h2 : decide (4 < fn) = false) : bad1 F fn col = (!(fn == 1) && !hasB F col) := by
  unfold bad1
  rw [hv, h1, h2]
  rfl
theorem rgs_none (hv : validF F = true) (h1 : decide (fn < 1) = false) (h2 : decide (4 < fn) = false) (h0 : F.length = 0) : RGrpSpec F ks fn col 0 (.slice none 0 0) w' := by
  unfold RGrpSpec
  rw [bad1_ok hv h1 h2, if_neg (by unfold hasB; rw [decide_eq_true h0]; simp), if_pos h0]
  exact ⟨rfl, rfl⟩
theorem has_def (h0 : F.length ≠ 0) : hasB F col = !(decide (col < 0) || decide (((row0 F).length : Int) ≤ col)) := by
  unfold hasB
  rw [decide_eq_false h0, Bool.false_or, Bool.not_or, ← decide_not, ← decide_not]
  congr 1 <;> rw [decide_eq_decide] <;> omega
theorem rgs_bad6 (hv : validF F = true) (h1 : decide (fn < 1) = false) (h2 : decide (4 < fn) = false) (h0 : F.length ≠ 0) (hb : bad6 F ks fn col = true) : RGrpSpec F ks fn col 1 (.slice none 0 0) w' := by
  unfold RGrpSpec
  rw [bad1_ok hv h1 h2, has_def h0]
  unfold bad6 at hb
  by_cases q : (!(fn == 1) && (decide (col < 0) || decide (((row0 F).length : Int) ≤ col))) = true
  · rw [if_pos (by rw [Bool.not_not]; exact q)]
    exact ⟨rfl, rfl⟩
  · rw [if_neg (by rw [Bool.not_not]; exact q), if_neg h0]
    rw [Bool.not_eq_true] at q
    rw [q, Bool.or_false, Bool.not_eq_true'] at hb
    rw [if_pos hb]
    exact ⟨rfl, rfl⟩
theorem rgs_go (hv : validF F = true) (h1 : decide (fn < 1) = false) (h2 : decide (4 < fn) = false) (h0 : F.length ≠ 0) (hb : bad6 F ks fn col = false) (c : Int) (v : Value) : RGrpSpec F ks fn col c v w' ↔ (if 8 ≤ ks.length then c = 5 ∧ v = .slice none 0 0 else if bad10 F fn col = true then c = 13 ∧ v = .slice none 0 0 else RGrpOut F ks fn col c v w') := by
  unfold RGrpSpec
  unfold bad6 at hb
  rw [Bool.or_eq_false_iff] at hb
  rw [bad1_ok hv h1 h2, has_def h0, Bool.not_not, if_neg (by rw [hb.2]; decide), if_neg h0, if_neg (by have := hb.1; simp at this; rw [this]; decide)]
  have e : (fn = 2 ∧ (va (row0 F) col.toNat).1 ≠ 1) ↔ bad10 F fn col = true := by
    unfold bad10
    simp
  by_cases q : bad10 F fn col = true
  · rw [if_pos q, if_pos (e.2 q)]
  · rw [if_neg q, if_neg fun h => q (e.1 h)]
theorem col_ok (hb : bad6 F ks fn col = false) : keysIn (row0 F).length ks ∧ (fn = 1 ∨ (0 ≤ col ∧ col.toNat < (row0 F).length)) := by
  unfold bad6 at hb
  rw [Bool.or_eq_false_iff] at hb
  refine ⟨keyed_in (by have := hb.1; simpa using this), ?_⟩
  by_cases q : fn = 1
  · exact .inl q
  · right
    have h2 := hb.2
    rw [show (fn == 1) = false by rw [beq_eq_false_iff_ne]; exact q, Bool.not_false, Bool.true_and, Bool.or_eq_false_iff, decide_eq_false_iff_not, decide_eq_false_iff_not] at h2
    omega
theorem fn_ok (h1 : decide (fn < 1) = false) (h2 : decide (4 < fn) = false) : FnOk fn := by
  have := of_decide_eq_false h1
  have := of_decide_eq_false h2
  unfold FnOk
  omega
end
theorem grp_facts {F : List Fct} {ks : List Int} {fn : Int} {col : Nat} {A : List Fct} (hl : ∀ f ∈ F, OkSp f.2) (hs : ∀ f ∈ F, ∀ x ∈ f.1, x.2.2.size ≤ 1000000000) (hfn : FnOk fn) (hA : GrpA ks fn col (visR F) A) : ∀ a ∈ A, OkSp a.2 ∧ (∀ x ∈ a.1, x.2.2.size ≤ 1000000000) ∧ 0 < a.1.length := fun a ha => by
  obtain ⟨v, hv, e1, e2⟩ := (hA a).1 ha
  obtain ⟨h1, h2⟩ := vis_fact (visR_ok F) hl hv
  obtain ⟨r, hr, e3⟩ := e2
  obtain ⟨i, hi, rfl⟩ := List.getElem_of_mem hr
  rw [vr_at hi] at e3
  rw [← e1, e3]
  exact ⟨h1, outR_size (fun r hr => by obtain ⟨f, hf, e⟩ := h2 r hr; rw [← e]; exact hs f hf) hi hfn, by unfold outR; simp⟩
set_option maxRecDepth 100000 in
set_option maxHeartbeats 32000000 in
theorem r39Group_c (v vk : Value) (F : List Fct) (ks : List Int) (fn col : Int) (w : World) (hs : IsFs w v F) (hk : IsInts w vk ks) (hm : MachF F) (hn : F.length ≤ 16) (hkl : ks.length ≤ 100000) (hsm : ∀ f ∈ F, ∀ x ∈ f.1, x.2.2.size ≤ 1000000000) : Calls Tryz.prog 11 #[v, vk, .int .i64 fn, .int .i64 col] w (RGrpRet F ks fn col w) := by
  have KV := Lib.hid (r39Valid_c v F w hs)
  have KE : Hid (∀ X, Below w.heap.size w X → Calls Tryz.prog 42 #[v] X (IntsRet (endsN F F.length) X)) := Lib.hid fun X h => r39Ends_c v F X (hs.below h) (by omega)
  have KK : Hid (∀ X (n : Nat), Below w.heap.size w X → Calls Tryz.prog 41 #[vk, .int .i64 (n : Int)] X (Ret X (.bool (keyedB n ks)))) := Lib.hid fun X n h => r39keyed_c vk ks n X (hk.below h)
  obtain ⟨S, hs⟩ := hs
  have KR : Hid (∀ X t, Below w.heap.size w X → Calls Tryz.prog 43 #[v, .int .i64 t] X (RowsRetJ F S t X)) := Lib.hid fun X t h => r39RowsJ_c v F S t X (hs.below h) (by omega)
  have HKi := Lib.hid hk
  obtain ⟨A, cc, rfl, hnc, hcc⟩ := hs.form
  obtain ⟨Ak, ck, rfl, hnk, hck⟩ := hk.form
  have Hm := Lib.hid hm; have Hsm := Lib.hid hsm
  clear hm hsm
  go_enter Tryz.func11, Tryz.ntmps11
  go_wp2_with fail
  refine KV.out.mono ?_
  rintro e W1 ⟨rfl, hb1⟩
  cases hv : validF F
  · have HB := Lib.hid (fun w' => rgs_valid (ks := ks) (fn := fn) (col := col) (w' := w') hv)
    clear hv
    go_wp2_with fail
    go_ret2
    exact ⟨_, 1, rfl, hb1, HB.out _⟩
  cases q1 : decide (fn < 1)
  rotate_left
  · have HB := Lib.hid (fun w' => rgs_lo (F := F) (ks := ks) (fn := fn) (col := col) (w' := w') q1)
    clear hv
    go_wp2_with fail
    go_ret2
    exact ⟨_, 1, rfl, hb1, HB.out _⟩
  cases q2 : decide (4 < fn)
  rotate_left
  · have HB := Lib.hid (fun w' => rgs_hi (F := F) (ks := ks) (fn := fn) (col := col) (w' := w') q2)
    clear hv
    go_wp2_with fail
    go_ret2
    exact ⟨_, 1, rfl, hb1, HB.out _⟩
  by_cases h0 : F.length = 0
  · have HB := Lib.hid (fun w' => rgs_none (ks := ks) (col := col) (w' := w') hv q1 q2 h0)
    have f0 : ((F.length : Int) == 0) = true := by rw [h0]; rfl
    clear hv
    go_wp2_with fail
    go_ret2
    exact ⟨_, 0, rfl, hb1, HB.out _⟩
  have f0 : ((F.length : Int) == 0) = false := by rw [beq_eq_false_iff_ne]; omega
  have hp : 0 < F.length := by omega
  have HB6 := Lib.hid (fun hb w' => rgs_bad6 (ks := ks) (col := col) (w' := w') hv q1 q2 h0 hb)
  have HGo := Lib.hid (fun hb w' c v => rgs_go (ks := ks) (col := col) (w' := w') hv q1 q2 h0 hb c v)
  have Hfn := Lib.hid (fn_ok q1 q2)
  have Hv := Lib.hid hv
  obtain ⟨b, off, rfl, hbl⟩ := hs.addr hp
  obtain ⟨A0, p0, hS0, _, _⟩ := (hs.2 0 hp).form
  have hrr : (fc F 0).1 = row0 F := rfl
  have c0 := fun X h => (hs.below (w' := X) h).c0 0 hp
  have hv0 := hs.2 0 hp
  rw [hrr] at hS0 hv0
  rw [hS0] at c0 hv0
  simp only [Nat.zero_mul, Nat.add_zero] at c0
  have C0 := Lib.hid c0
  have d0 := C0.out W1 hb1
  have HV0 := Lib.hid hv0
  have Hp := Lib.hid hp
  clear hv h0 hrr hS0 c0 hv0
  go_upto_region 6 with fail
  clear d0 f0 hp
  go_cut [55] (fun s wx => s = .bool (bad6 F ks fn col) ∧ Below w.heap.size w wx)
  case first =>
    go_wp2_with fail
    refine (KK.out W1 (row0 F).length hb1).mono ?_
    rintro e W2 ⟨rfl, hb2⟩
    have hb3 := hb1.trans (hb2.mono hb1.size)
    cases k1 : keyedB (row0 F).length ks
    · go_wp2_with fail
      go_meet
      exact ⟨by unfold bad6; rw [k1]; rfl, hb3⟩
    cases k2 : (fn == 1)
    rotate_left
    · have k3 : (fn != 1) = false := by rw [bne, k2]; rfl
      go_wp2_with fail
      go_meet
      exact ⟨by unfold bad6; rw [k1, k2]; rfl, hb3⟩
    have k3 : (fn != 1) = true := by rw [bne, k2]; rfl
    cases k4 : decide (col < 0)
    · have K5 := Lib.hid (show bad6 F ks fn col = decide (((row0 F).length : Int) ≤ col) by unfold bad6; rw [k1, k2, k4]; rfl)
      go_wp2_with fail
      go_meet
      exact ⟨by rw [K5.out], hb3⟩
    · have K5 := Lib.hid (show bad6 F ks fn col = true by unfold bad6; rw [k1, k2, k4]; rfl)
      go_wp2_with fail
      go_meet
      exact ⟨by rw [K5.out], hb3⟩
  case rest =>
    obtain ⟨rfl, hbc⟩ := hcut
    rename World => W2
    cases k6 : bad6 F ks fn col
    rotate_left
    · have HB := Lib.hid (fun w' => HB6.out k6 w')
      go_wp2_with fail
      go_ret2
      exact ⟨_, 1, rfl, hbc, HB.out _⟩
    have HCol := Lib.hid (col_ok k6)
    have HG := Lib.hid (fun w' c v => HGo.out k6 w' c v)
    cases k8 : decide ((8 : Int) ≤ (ks.length : Int))
    rotate_left
    · have HS : Hid (∀ w', RGrpSpec F ks fn col 5 (.slice none 0 0) w') := Lib.hid fun w' => (HG.out w' _ _).2 (by rw [if_pos (by have := of_decide_eq_true k8; omega)]; exact ⟨rfl, rfl⟩)
      go_wp2_with fail
      go_ret2
      exact ⟨_, 5, rfl, hbc, HS.out _⟩
    have H8 : Hid (¬ 8 ≤ ks.length) := Lib.hid (by have := of_decide_eq_false k8; omega)
    go_upto_region 10 with fail
    clear k8
    go_cut [71] (fun s wx => s = .bool (bad10 F fn col) ∧ Below w.heap.size w wx)
    case first =>
      cases k2 : (fn == 2)
      · have K5 := Lib.hid (show bad10 F fn col = false by unfold bad10; rw [k2]; rfl)
        go_wp2_with fail
        go_meet
        exact ⟨by rw [K5.out], hbc⟩
      · have K5 := Lib.hid (show bad10 F fn col = !((va (row0 F) col.toNat).1 == 1) by unfold bad10; rw [k2]; rfl)
        have hfn2 : fn = 2 := eq_of_beq k2
        obtain ⟨m, rfl⟩ : ∃ m : Nat, col = (m : Int) := ⟨col.toNat, by rcases HCol.out.2 with e | e <;> omega⟩
        have hmt : (m : Int).toNat = m := by omega
        have hml : m < (row0 F).length := by rcases HCol.out.2 with e | e <;> omega
        rw [hmt] at K5
        have hv0 := HV0.out.below hbc
        obtain ⟨b0, o0, rfl, hb0⟩ := hv0.addr (by omega)
        have x0 := hv0.c0 m hml
        have d0 := C0.out _ hbc
        generalize (va (row0 F) m).1 = kd at x0 K5
        have hbp : 0 < F.length := Hp.out
        have K6 : Hid (bad10 F fn (m : Int) = (kd != 1)) := K5
        clear hv0 hmt hfn2
        go_wp2_with fail
        go_meet
        exact ⟨by rw [K6.out], hbc⟩
    case rest =>
      obtain ⟨rfl, hbd⟩ := hcut
      rename World => W3
      cases k10 : bad10 F fn col
      rotate_left
      · have HS : Hid (∀ w', RGrpSpec F ks fn col 13 (.slice none 0 0) w') := Lib.hid fun w' => (HG.out w' _ _).2 (by rw [if_neg H8.out, if_pos k10]; exact ⟨rfl, rfl⟩)
        go_wp2_with fail
        go_ret2
        exact ⟨_, 13, rfl, hbd, HS.out _⟩
      have HOut : Hid (∀ w' c v, RGrpOut F ks fn col c v w' → RGrpSpec F ks fn col c v w') := Lib.hid fun w' c v h => (HG.out w' _ _).2 (by rw [if_neg H8.out, if_neg (by rw [k10]; decide)]; exact h)
      clear k6 k10
      have hv := Hv.out
      have hline : ∀ f ∈ F, OkSp f.2 := fun f hf => (spT_ok ((valid_rows hv).2 f hf).2.1).1
      have hGF : ∀ A, GrpA ks fn col.toNat (visR F) A → ∀ a ∈ A, OkSp a.2 ∧ (∀ x ∈ a.1, x.2.2.size ≤ 1000000000) ∧ 0 < a.1.length := fun A h => grp_facts hline Hsm.out Hfn.out h
      have hEl := endsN_len F F.length
      have hvr : visR F = visN F (endsN F F.length) ((endsN F F.length).length - 1) := rfl
      have hwid : ∀ f ∈ F, f.1.length = (row0 F).length := fun f hf => ((valid_rows hv).2 f hf).1.2.2
      have hpos : ∀ f ∈ F, 0 < f.1.length := fun f hf => ((valid_rows hv).2 f hf).1.1
      have hnrm : ∀ A G, GrpA ks fn col.toNat (visR F) A → NormOf G (ptsF A) → NormOf G (DGrp F ks fn col.toNat) := fun A G h1 h2 => grp_norm Hfn.out (visR_ok F) h1 h2
      have hnoe : (∀ v ∈ visR F, ¬ ErrIn ks fn col.toNat v.2) → ¬ ∃ t, ErrIn ks fn col.toNat (rowsAt F t) := fun h => grp_noerr Hfn.out (visR_ok F) h
      have hrl : ∀ t, (rowsAt F t).length ≤ 16 := fun t => by
        have key : ∀ k, (rowsN F t k).length ≤ k := fun k => by
          induction k with
          | zero => exact Nat.le_refl _
          | succ k ih =>
            rw [rowsN_succ]
            split
            · rw [List.length_append]
              show _ + 1 ≤ _
              omega
            · omega
        exact Nat.le_trans (key _) hn
      have hcx : ∀ R : List VRow, (∀ r ∈ R, r ∈ F.map (·.1)) → ColX fn col R := fun R h => by
        rcases HCol.out.2 with e | ⟨e1, e2⟩
        · exact .inl e
        · refine .inr ⟨e1, fun r hr => ?_⟩
          obtain ⟨f, hf, e⟩ := List.mem_map.1 (h r hr)
          rw [← e]
          have e3 : col.toNat < f.1.length := by rw [hwid f hf]; exact e2
          exact ⟨e3, Hm.out f hf _ (va_mem e3), Hsm.out f hf _ (va_mem e3)⟩
      have hkin : ∀ R : List VRow, (∀ r ∈ R, r ∈ F.map (·.1)) → ∀ r ∈ R, keysIn r.length ks := fun R h r hr => by
        obtain ⟨f, hf, e⟩ := List.mem_map.1 (h r hr)
        rw [← e, hwid f hf]
        exact HCol.out.1
      have hrm : ∀ t, ∀ r ∈ rowsAt F t, r ∈ F.map (·.1) := fun t r hr => by
        obtain ⟨f, hf, e, _⟩ := rowsAt_mem.1 hr
        exact List.mem_map.2 ⟨f, hf, e⟩
      have hrp : ∀ r, r ∈ F.map (·.1) → 0 < r.length := fun r hr => by
        obtain ⟨f, hf, e⟩ := List.mem_map.1 hr
        rw [← e]
        exact hpos f hf
      have Hrm := Lib.hid hrm; have Hrl := Lib.hid hrl; have Hcx := Lib.hid hcx; have Hkin := Lib.hid hkin; have Hrp := Lib.hid hrp; have Hnrm := Lib.hid hnrm; have Hnoe := Lib.hid hnoe; have HGF := Lib.hid hGF
      generalize hEE : endsN F F.length = E at *
      have Hvr := Lib.hid hvr; have HEl := Lib.hid hEl; have HFin := Lib.hid hs; have Hbd := Lib.hid hbd
      have HSec : Hid (∀ t, ErrIn ks fn col.toNat (rowsAt F t) → ∀ w', RGrpOut F ks fn col 9 (.slice none 0 0) w') := Lib.hid fun t h w' => .inl ⟨⟨t, h⟩, rfl, rfl⟩
      generalize hct : col.toNat = m at *
      have Hct := Lib.hid hct
      clear hct
      clear hv hline hGF hvr hwid hpos hnrm hnoe hrl hcx hkin hrm hrp hEl hEE hbc KV KK C0
      go_wp2_with fail
      refine (KE.out W3 hbd).mono ?_
      rintro e W4 ⟨ve, rfl, hE, hb4⟩
      have HB2 := Lib.hid (hbd.trans (hb4.mono hbd.size))
      obtain ⟨Ae, ce, rfl, _, _⟩ := IsInts.form hE
      have HE := Lib.hid hE
      clear hb4 hE KE hbd
      go_wp2_with fail
      try go_frame
      go_loopw [11, 13] (fun o i X => ∃ (k : Nat) (G : List Fx), i = .int .i64 (k : Int) ∧ (k = 0 ∨ k < E.length) ∧ Hid (FxT W4.heap.size X o G) ∧ Hid (GrpA ks fn m (visN F E k) (G.map (·.2))) ∧ Hid (∀ v ∈ visN F E k, ¬ ErrIn ks fn m v.2) ∧ Hid (G.length ≤ k * 16) ∧ Hid (Below W4.heap.size W4 X)) (fun _ i _ => E.length - (intOf i).toNat)
      case atStart => exact ⟨0, [], rfl, .inl rfl, Lib.hid (FxT.nil _ _), Lib.hid GrpA.none, Lib.hid (fun v hv => absurd hv (by simp [visN])), Lib.hid (by simp), Lib.hid (Below.refl _ _)⟩
      case round =>
        obtain ⟨k, G, rfl, hk, HO, HA, HNe, HGl, HB⟩ := hrel
        rename World => X
        have hE32 : E.length ≤ 32 := by have := HEl.out; omega
        have hwr : IntKind.i64.wrap ((k : Int) + 1) = (k : Int) + 1 := IntWalk.i64_in _ (by omega)
        have HBw : Hid (Below w.heap.size w X) := Lib.hid (HB2.out.trans (HB.out.mono HB2.out.size))
        by_cases hlt : k + 1 < E.length
        · have g1 : decide ((k : Int) + 1 < (E.length : Int)) = true := decide_eq_true (by omega)
          have g2 : (0 : Int) ≤ (k : Int) + 1 := by omega
          have g3 : (k : Int) + 1 < (E.length : Int) := by omega
          have g4 : ((k : Int) + 1).toNat = k + 1 := by omega
          have g5 : k < E.length := by omega
          obtain ⟨be, oe, rfl, hbe⟩ := IsInts.addr HE.out (by omega)
          have hin := HE.out.below HB.out
          have c0 := hin.c0 k (by omega)
          have c1 := hin.c0 (k + 1) hlt
          have K := Lib.hid (KR.out X (iv E k) HBw.out)
          have hstep : ∀ A0, GrpA ks fn m (visN F E k) A0 → GrpA ks fn m (visN F E (k + 1)) (A0 ++ grpK ks fn m (rowsAt F (iv E k)) (iv E k, iv E (k + 1)) (rowsAt F (iv E k)).length) := fun A0 h => by
            by_cases q : rowsAt F (iv E k) = []
            · rw [visN_none q, q]
              show GrpA ks fn m (visN F E k) (A0 ++ grpK ks fn m [] _ 0)
              rw [grpK_zero, List.append_nil]
              exact h
            · rw [visN_some q]
              exact h.sec
          have hnes : okN ks fn m (rowsAt F (iv E k)) (rowsAt F (iv E k)).length → ∀ v ∈ visN F E (k + 1), ¬ ErrIn ks fn m v.2 := fun h v hv => by
            by_cases q : rowsAt F (iv E k) = []
            · rw [visN_none q] at hv
              exact HNe.out v hv
            · rw [visN_some q] at hv
              rcases List.mem_append.1 hv with e | e
              · exact HNe.out v e
              · rw [List.mem_singleton] at e
                rw [e]
                exact okN_all h
          have hR16 := Hrl.out (iv E k)
          have hRm := Hrm.out (iv E k)
          have hse := HSec.out (iv E k)
          obtain ⟨s1, hs1⟩ : ∃ x, x = iv E k := ⟨_, rfl⟩
          obtain ⟨s2, hs2⟩ : ∃ x, x = iv E (k + 1) := ⟨_, rfl⟩
          rw [← hs1] at c0 K hstep hR16 hRm hnes hse
          rw [← hs2] at c1 hstep
          have Hlt := Lib.hid hlt
          have FB : Hid (∀ Y, Below W4.heap.size X Y → Y.cell? ⟨be, oe + k, none⟩ = some (.int .i64 s1) ∧ Y.cell? ⟨be, oe + (k + 1), none⟩ = some (.int .i64 s2)) := Lib.hid fun Y h => ⟨(h.cell (p := ⟨be, oe + k, none⟩) hbe).trans c0, (h.cell (p := ⟨be, oe + (k + 1), none⟩) hbe).trans c1⟩
          clear hin hs1 hs2 hk c1
          go_wp2_with fail
          refine K.out.mono ?_
          rintro e X3 ⟨vr3, js, rfl, hj1, hj2, hown3, hb3⟩
          rw [hj1] at hstep hRm hR16 hnes hse
          have hRo := rowsJ_rvo hj2 HFin.out.2 hown3
          generalize rowsJ F js = R at hstep hRm hR16 hRo hnes hse
          have HStep := Lib.hid hstep; have HNes := Lib.hid hnes; have HSe := Lib.hid hse
          have HCx := Lib.hid (Hcx.out R hRm); have HKin := Lib.hid (Hkin.out R hRm)
          have HRp : Hid (∀ i, i < R.length → 0 < (vr R i).length) := Lib.hid fun i hi => Hrp.out _ (hRm _ (vr_mem hi))
          obtain ⟨ss, hss, hssl, hssv⟩ := hRo
          obtain ⟨Ar, cr, rfl, _, _⟩ := RowsIn.form (own_rv hss hssl (fun i hi => (hssv i hi).below (HBw.out.trans (hb3.mono HBw.out.size)))).1
          have HX3 : Hid (Below W4.heap.size X X3) := Lib.hid (hb3.mono HB.out.size)
          have HB3 : Hid (Below W4.heap.size W4 X3) := Lib.hid (HB.out.trans HX3.out)
          have HO3 := Lib.hid (HO.out.below hb3)
          have HR3 := Lib.hid hss; have Hssl := Lib.hid hssl; have Hssv := Lib.hid hssv
          have HzX : Hid (W4.heap.size ≤ X.heap.size) := Lib.hid HB.out.size
          have Hgr3 : Hid (∀ g, (Value.slice Ar R.length cr).ownBlock = some g → g < X3.heap.size) := Lib.hid fun g hg => (World.ownsRow.lt hss g hg).2
          clear hss hssl hssv hb3 hj1 hj2 hown3 c0 g1 hwr hRm hstep hnes hse
          go_wp2_with fail
          go_loopw [11, 15, 16] (fun o dn i Y => ∃ (j : Nat) (G' : List Fx), i = .int .i64 (j : Int) ∧ j ≤ R.length ∧ Hid (FxT W4.heap.size Y o G') ∧ Hid (G'.map (·.2) = G.map (·.2) ++ grpK ks fn m R (s1, s2) j) ∧ Hid (RvT X3.heap.size Y dn (keyN R ks j)) ∧ Hid (okN ks fn m R j) ∧ Hid (Y.ownsRow X.heap.size 47 1 (.slice Ar R.length cr) R.length ss) ∧ Hid (Below W4.heap.size X3 Y)) (fun _ _ i _ => R.length - (intOf i).toNat)
          case atStart => exact ⟨0, G, rfl, Nat.zero_le _, HO3, Lib.hid (by rw [grpK_zero, List.append_nil]), Lib.hid (RvT.nil _ _), Lib.hid okN_zero, HR3, Lib.hid (Below.refl _ _)⟩
          case round =>
            obtain ⟨j, G', rfl, hj, HO', HE', HD', HOk, HR', HY⟩ := hrel
            rename World => Y
            have HXY : Hid (Below W4.heap.size X Y) := Lib.hid (HX3.out.trans HY.out)
            have HWY : Hid (Below w.heap.size w Y) := Lib.hid (HBw.out.trans (HXY.out.mono HB2.out.size))
            have Hz3 : Hid (X3.heap.size ≤ Y.heap.size ∧ W4.heap.size ≤ X3.heap.size) := Lib.hid ⟨HY.out.size, HB3.out.size⟩
            by_cases hlj : j < R.length
            · obtain ⟨gr, capr, hre, _, hgl, _, _⟩ := own_formG HR'.out (by omega)
              injection hre with hre hre2 hre3
              subst hre
              have d0 := rvo_cell HR'.out Hssl.out (g := gr) rfl hlj
              have hvj := Hssv.out j hlj
              obtain ⟨Aj, pj, hSj, _, _⟩ := hvj.form
              rw [hSj] at d0 hvj
              have HCell := Lib.hid d0
              have hwp := HRp.out j hlj
              have hkj := HKin.out _ (vr_mem hlj)
              have hkl2 := keyN_len R ks j
              have hkhas := keyN_has (R := R) (ks := ks) (k := j)
              have hknew := keyN_new (R := R) (ks := ks) (k := j)
              have hghas := grpK_has (ks := ks) (fn := fn) (col := m) (R := R) (s := (s1, s2)) (k := j)
              have hgnew := grpK_new (ks := ks) (fn := fn) (col := m) (R := R) (s := (s1, s2)) (k := j)
              have hohas := fun h => okN_has HOk.out h
              have honew := fun h => okN_new HOk.out h
              have hnr : ∃ r ∈ R, pickR r ks = pickR (vr R j) ks := ⟨_, vr_mem hlj, rfl⟩
              have herr : (resR fn m (memG ks R (pickR (vr R j) ks))).2 ≠ 0 → ErrIn ks fn m R := fun h => ⟨vr R j, vr_mem hlj, h⟩
              have hpl : (pickR (vr R j) ks).length = ks.length := by unfold pickR; rw [List.length_map]
              have hdn := HD'.out
              obtain ⟨y, hy⟩ : ∃ y, y = vr R j := ⟨_, rfl⟩
              rw [← hy] at d0 HCell hvj hwp hkj hkhas hknew hghas hgnew hohas honew hnr herr hpl
              obtain ⟨D, hD⟩ : ∃ d, d = keyN R ks j := ⟨_, rfl⟩
              rw [← hD] at hkl2 hkhas hknew hghas hgnew hohas hdn
              obtain ⟨pr, hpr⟩ : ∃ p, p = pickR y ks := ⟨_, rfl⟩
              rw [← hpr] at hkhas hknew hghas hgnew hohas honew hnr herr hpl
              have HPr := Lib.hid hpr
              have KP : Hid (∀ Z, Below w.heap.size w Z → Calls Tryz.prog 44 #[.slice Aj y.length pj, .slice Ak ks.length ck] Z (VRet pr Z)) := Lib.hid fun Z h => by
                rw [HPr.out]
                exact r39part_c _ _ y ks Z (hvj.below h) (HKi.out.below h) hkj hkl
              have KH : Hid (∀ Z u dn, RvT X3.heap.size Z dn D → IsVals Z u pr → Calls Tryz.prog 45 #[dn, u] Z (Ret Z (.bool (hasR D pr)))) := Lib.hid fun Z u dn h1 h2 => r39has_c dn u D pr Z h1.rv h2 (by omega)
              have KS : Hid (∀ Z u, Below w.heap.size w Z → Z.ownsRow X.heap.size 47 1 (.slice (some ⟨gr, 0, none⟩) R.length cr) R.length ss → IsVals Z u pr → Calls Tryz.prog 46 #[.slice (some ⟨gr, 0, none⟩) R.length cr, .slice Ak ks.length ck, u, .int .i64 fn, .int .i64 col] Z (Ret Z (.tuple #[encV (resR fn m (memG ks R pr)).1, .bool (decide ((resR fn m (memG ks R pr)).2 = 0))]))) := Lib.hid fun Z u h1 h2 h3 => by
                have := r39result_c _ _ u R ks pr fn col Z ⟨_, own_rv h2 Hssl.out fun i hi => (Hssv.out i hi).below h1⟩ (HKi.out.below h1) h3 HKin.out hkl (by omega) Hfn.out HCx.out hnr
                rw [Hct.out] at this
                exact this
              have Hkhas := Lib.hid hkhas; have Hknew := Lib.hid hknew; have Hghas := Lib.hid hghas; have Hgnew := Lib.hid hgnew; have Hohas := Lib.hid hohas; have Honew := Lib.hid honew; have Herr := Lib.hid herr
              have Hvj := Lib.hid hvj; have Hwp := Lib.hid hwp; have Hlj := Lib.hid hlj; have HDn := Lib.hid hdn; have Hpl := Lib.hid hpl
              have hD9 : D.length < 900000000 := by omega
              obtain ⟨Ad, cd, hde⟩ := hdn.form
              subst hde
              have hgr3 := Hgr3.out gr rfl
              clear hkhas hknew hghas hgnew hohas honew hnr herr hpl hdn hvj hwp hkj hSj hre2 hre3 hgl hy hD hpr
              go_wp2_with fail
              refine (KP.out Y HWY.out).mono ?_
              rintro e Y1 ⟨u, rfl, hu, hb1⟩
              obtain ⟨Au, cu, rfl, _, _⟩ := hu.vals.form
              have hu1 : OwnsV Y1 X3.heap.size (.slice Au pr.length cu) pr := own_low hu Hz3.out.1
              have HW1 := Lib.hid (HWY.out.trans (hb1.mono HWY.out.size))
              have H31 : Hid (Below W4.heap.size X3 Y1) := Lib.hid (HY.out.trans (hb1.mono (by have := Hz3.out; omega)))
              have HO1 := Lib.hid (HO'.out.below hb1)
              have HD1 := Lib.hid (HDn.out.below hb1)
              have HR1 := Lib.hid (own_below HR'.out hb1 (Nat.le_refl _))
              have K := Lib.hid (KH.out Y1 _ _ HD1.out hu.vals)
              have HU1 := Lib.hid hu1
              clear hu hu1 hb1 d0
              cases qh : hasR D pr
              rotate_left
              · have HN := Lib.hid (Hkhas.out qh); have HN2 := Lib.hid (Hghas.out qh); have HN3 := Lib.hid (Hohas.out qh)
                rw [qh] at K
                go_wp2_with fail
                refine K.out.mono ?_
                rintro e Y2 ⟨rfl, hb2⟩
                have H32 : Hid (Below W4.heap.size X3 Y2) := Lib.hid (H31.out.trans (hb2.mono (by have := Hz3.out; have := H31.out.size; omega)))
                have HO2 := Lib.hid (HO1.out.below hb2)
                have HD2 := Lib.hid (HD1.out.below hb2)
                have HR2 := Lib.hid (own_below HR1.out hb2 (Nat.le_refl _))
                clear hb2 qh
                go_wp2_with fail
                go_roundw
                case rel => exact ⟨j + 1, G', by go_num, Hlj.out, HO2, Lib.hid (by rw [HE'.out, HN2.out]), Lib.hid (by rw [HN.out]; exact HD2.out), HN3, HR2, H32⟩
                case measure => have := Hlj.out; simp [intOf]; omega
              · have HN := Lib.hid (Hknew.out qh); have HN2 := Lib.hid (Hgnew.out qh)
                rw [qh] at K
                clear qh
                go_wp2_with fail
                refine K.out.mono ?_
                rintro e Y2 ⟨rfl, hb2⟩
                have hW2 := HW1.out.trans (hb2.mono HW1.out.size)
                have h32 : Below W4.heap.size X3 Y2 := H31.out.trans (hb2.mono (by have := Hz3.out; have := H31.out.size; omega))
                have HO2 := Lib.hid (HO1.out.below hb2)
                have HD2 := Lib.hid (HD1.out.below hb2)
                have HR2 := Lib.hid (own_below HR1.out hb2 (Nat.le_refl _))
                have hu2 := HU1.out.below hb2
                have hz2 : X3.heap.size ≤ Y2.heap.size := h32.size
                have HW2 := Lib.hid hW2; have H32 := Lib.hid h32
                clear hb2 hW2 h32
                go_wp2_with (at_builtin; refine append_rt rfl _ _ (by rfl) X3.heap.size _ D (by rfl) HD2.out hu2 (by rfl) (by rfl) hD9 hz2 ?_; intro v3 Y3 hd3 hu3 hb3 hbk3)
                all_goals
                  have HD3 := Lib.hid hd3
                  have hz43 := Hz3.out.2
                  have hbw3 := HW2.out.trans (hb3.mono (by have := HB2.out.size; have := Hz3.out; omega))
                  have h33 : Below W4.heap.size X3 Y3 := H32.out.trans (hb3.mono hz43)
                  have HR3' : Hid (Y3.ownsRow X.heap.size 47 1 (.slice (some ⟨gr, 0, none⟩) R.length cr) R.length ss) := Lib.hid (own_blocks HR2.out fun g hg => hb3.block g (Hgr3.out g hg))
                  have HO3' : Hid (FxT W4.heap.size Y3 _ G') := Lib.hid (by
                    obtain ⟨sd, hd1, _, _⟩ := HD2.out
                    exact HO2.out.oth hd1 (by decide) (by decide) hbk3)
                  have K2 := Lib.hid (KS.out Y3 _ hbw3 HR3'.out hu3.vals)
                  have HW3 := Lib.hid hbw3; have H33 := Lib.hid h33; have HU3 := Lib.hid hu3
                  obtain ⟨Ad3, cd3, hde3⟩ := hd3.form
                  subst hde3
                  obtain ⟨res, hres⟩ : ∃ r, r = resR fn m (memG ks R pr) := ⟨_, rfl⟩
                  have HRes := Lib.hid hres
                  rw [← hres] at K2
                  obtain ⟨⟨rk, rn, rs⟩, rc⟩ := res
                  have K2 := Lib.hid (show Calls _ _ _ _ (Ret _ (.tuple #[.agg #[.int .i64 rk, .int .i64 rn, .string rs], .bool (decide (rc = 0))])) from K2.out)
                  clear hd3 hbk3 hb3 hbw3 h33 hu3 hres hu2 hz43
                  cases qe : decide (rc = 0)
                  · have HEr : Hid (ErrIn ks fn m R) := Lib.hid (Herr.out (by rw [← HRes.out]; exact of_decide_eq_false qe))
                    rw [qe] at K2
                    go_wp2_with fail
                    refine K2.out.mono ?_
                    rintro e Y4 ⟨rfl, hb4⟩
                    have HW4 := Lib.hid (HW3.out.trans (hb4.mono HW3.out.size))
                    clear hb4
                    go_wp2_with fail
                    go_ret2
                    exact ⟨_, 9, rfl, HW4.out.alloc (HW4.out.size) _, HOut.out _ _ _ (HSe.out HEr.out _)⟩
                  · have hst := Honew.out (by rw [← HRes.out]; exact of_decide_eq_true qe)
                    have HSt := Lib.hid hst
                    rw [qe] at K2
                    have K3 := K2
                    have hor : outR ks fn m R pr = pr ++ [(rk, rn, rs)] := by unfold outR; rw [← HRes.out]
                    obtain ⟨ro, hro⟩ : ∃ r, r = pr ++ [(rk, rn, rs)] := ⟨_, rfl⟩
                    rw [← hro] at hor
                    have HOR := Lib.hid hor; have HRo := Lib.hid hro
                    clear K2 hst qe hor hro
                    go_wp2_with fail
                    refine K3.out.mono ?_
                    rintro e Y4 ⟨rfl, hb4⟩
                    obtain ⟨Q, hQ⟩ : ∃ Z, Z = Y4.alloc (.cells #[.int .i64 rk, .int .i64 rn, .string rs] 51) := ⟨_, rfl⟩
                    have hb5 : Below Y4.heap.size Y4 Q := by rw [hQ]; exact (Below.refl _ _).alloc (Nat.le_refl _) _
                    have hbx : Q.heap[Y4.heap.size]? = some (.cells #[.int .i64 rk, .int .i64 rn, .string rs] 51 (0, 0)) := by rw [hQ]; exact heap_alloc_new Y4 _
                    have hb6 : Below Y3.heap.size Y3 Q := hb4.trans (hb5.mono hb4.size)
                    have HNx := Lib.hid (fun q h => Nat.lt_of_lt_of_le (World.ownsRow.lt HO3'.out.own q h).2 hb4.size)
                    have HQ := Lib.hid hQ
                    have hz33 := H33.out.size
                    have HWQ := Lib.hid (HW3.out.trans (hb6.mono HW3.out.size))
                    have H3Q : Hid (Below W4.heap.size X3 Q) := Lib.hid (H33.out.trans (hb6.mono (by have := Hz3.out; omega)))
                    have HOQ := Lib.hid (HO3'.out.below hb6)
                    have HDQ := Lib.hid (HD3.out.below hb6)
                    have HRQ := Lib.hid (own_below HR3'.out hb6 (Nat.le_refl _))
                    obtain ⟨c0, c1⟩ := FB.out Q (HX3.out.trans H3Q.out)
                    have d0 := rvo_cell HRQ.out Hssl.out (g := gr) rfl Hlj.out
                    have HC0 : Hid (Q.cell? ⟨gr, j, none⟩ = some (.slice Aj y.length pj)) := Lib.hid (by
                      have h1 := rvo_cell HR'.out Hssl.out (g := gr) rfl Hlj.out
                      rw [d0, ← h1]
                      exact HCell.out)
                    have hgQ : gr < Q.heap.size := by have := H3Q.out.size; omega
                    have hbeQ : be < Q.heap.size := by have := H3Q.out.size; have := Hz3.out; omega
                    have hbxQ : Y4.heap.size < Q.heap.size := blk_lt hbx
                    have FC : Hid (∀ Z : World, Z.heap[gr]? = Q.heap[gr]? → Z.heap[Y4.heap.size]? = Q.heap[Y4.heap.size]? → Z.heap[be]? = Q.heap[be]? → Z.cell? ⟨gr, j, none⟩ = some (.slice Aj y.length pj) ∧ Z.cell? ⟨Y4.heap.size, 0, none⟩ = some (.int .i64 rk) ∧ Z.cell? ⟨Y4.heap.size, 1, none⟩ = some (.int .i64 rn) ∧ Z.cell? ⟨Y4.heap.size, 2, none⟩ = some (.string rs) ∧ Z.cell? ⟨be, oe + k, none⟩ = some (.int .i64 s1) ∧ Z.cell? ⟨be, oe + (k + 1), none⟩ = some (.int .i64 s2)) := Lib.hid fun Z h1 h2 h3 => ⟨(World.cell?_of_block h1).trans HC0.out, blk_get (h2.trans hbx) 0, blk_get (h2.trans hbx) 1, blk_get (h2.trans hbx) 2, (World.cell?_of_block h3).trans c0, (World.cell?_of_block h3).trans c1⟩
                    have FQ : Hid (∀ Z, Below Q.heap.size Q Z → Z.cell? ⟨gr, j, none⟩ = some (.slice Aj y.length pj) ∧ Z.cell? ⟨Y4.heap.size, 0, none⟩ = some (.int .i64 rk) ∧ Z.cell? ⟨Y4.heap.size, 1, none⟩ = some (.int .i64 rn) ∧ Z.cell? ⟨Y4.heap.size, 2, none⟩ = some (.string rs) ∧ Z.cell? ⟨be, oe + k, none⟩ = some (.int .i64 s1) ∧ Z.cell? ⟨be, oe + (k + 1), none⟩ = some (.int .i64 s2)) := Lib.hid fun Z h => FC.out Z (h.block _ hgQ) (h.block _ hbxQ) (h.block _ hbeQ)
                    have KPQ : Hid (∀ Z, Below Q.heap.size Q Z → Calls Tryz.prog 44 #[.slice Aj y.length pj, .slice Ak ks.length ck] Z (VRet pr Z)) := Lib.hid fun Z h => KP.out Z (HWQ.out.trans (h.mono HWQ.out.size))
                    have hpl9 : pr.length < 900000000 := by rw [Hpl.out]; omega
                    have hGl9 : G'.length < 900000000 := by
                      have h1 := congrArg List.length HE'.out
                      have h2 := grpK_len (ks := ks) (fn := fn) (col := m) (R := R) (s := (s1, s2)) (k := j)
                      rw [List.length_map, List.length_append, List.length_map] at h1
                      have h3 := HGl.out
                      have h5 : k * 16 ≤ 32 * 16 := Nat.mul_le_mul_right _ (by omega)
                      omega
                    have HzQ : Hid (W4.heap.size ≤ Q.heap.size) := Lib.hid (by have := H3Q.out.size; have := Hz3.out; omega)
                    have HbeN : Hid (be < W4.heap.size) := Lib.hid hbe
                    have HgrN : Hid (gr < X3.heap.size) := Lib.hid hgr3
                    have hwr : IntKind.i64.wrap ((k : Int) + 1) = (k : Int) + 1 := IntWalk.i64_in _ (by omega)
                    have kb : Below Q.heap.size Q Q := Below.refl _ _
                    clear hb4 hQ hb5 hb6 hbx c0 c1 d0 hz33
                    go_upto_region 28 with fail
                    rw [← HQ.out]
                    go_region_held3 (fun Z => Z.cell? ⟨gr, j, none⟩ = some (.slice Aj y.length pj) ∧ Z.cell? ⟨Y4.heap.size, 0, none⟩ = some (.int .i64 rk) ∧ Z.cell? ⟨Y4.heap.size, 1, none⟩ = some (.int .i64 rn) ∧ Z.cell? ⟨Y4.heap.size, 2, none⟩ = some (.string rs) ∧ Z.cell? ⟨be, oe + k, none⟩ = some (.int .i64 s1) ∧ Z.cell? ⟨be, oe + (k + 1), none⟩ = some (.int .i64 s2)) ((first | exact FQ.out _ kb | exact FQ.out _ kb.drew | exact FQ.out _ (kb.drew.alloc kb.drew.size _) | exact FQ.out _ (kb.alloc kb.size _) | exact FQ.out _ (kb.alloc kb.size _).drew | exact HS9 | exact FQ.out _ (kb9.alloc kb9.size _) | exact HS12)) (first
                      | (go_at_call 44; (have kb := kb.drew; with_reducible refine (KPQ.out _ kb).mono ?_); rintro e Wa ⟨kv, rfl, hkv, hba⟩; have HKV := Lib.hid hkv; have HKZ := Lib.hid (show Q.heap.size ≤ Q.drew.heap.size from Nat.le_refl _); have HKB := Lib.hid hba.size; have kb := kb.trans (hba.mono kb.size); clear hkv hba)
                      | (go_at_call 44; (have kb := (kb.alloc kb.size (.cells #[.int .i64 rk, .int .i64 rn, .string rs] 51)).drew; with_reducible refine (KPQ.out _ kb).mono ?_); rintro e Wa ⟨kv, rfl, hkv, hba⟩; have HKV := Lib.hid hkv; have HKZ := Lib.hid (show Q.heap.size ≤ (Q.alloc (.cells #[.int .i64 rk, .int .i64 rn, .string rs] 51)).drew.heap.size from kb.size); have hbuilt := (hba.block Q.heap.size (by show Q.heap.size < (Q.alloc (.cells #[.int .i64 rk, .int .i64 rn, .string rs] 51)).heap.size; simp)).trans (heap_alloc_new Q (.cells #[.int .i64 rk, .int .i64 rn, .string rs] 51)); have HKB := Lib.hid hba.size; have kb := kb.trans (hba.mono kb.size); clear hkv hba)
                      | ((try rw [if_pos (by rfl)]); refine append_val_any (.tmp 123) (.tmp 125) (by rfl) _ kv pr (by rfl) HKV.out (rk, rn, rs) (by rfl) hbuilt hpl9 HKB.out (fun v9 w9 hown9 hb9 => ?_); have kb9 := kb.trans (hb9.mono HKZ.out); have HS9 := FQ.out _ kb9; rw [← HRo.out] at hown9; obtain ⟨A9, c9, rfl, _, _⟩ := hown9.vals.form; have HV9 := Lib.hid hown9; clear hown9)
                      | ((try rw [if_pos (by rfl)]); refine append_val_any (.tmp 123) (.tmp 125) (by rfl) _ kv pr (by rfl) (HKV.out.below ((Below.refl _ _).alloc (Nat.le_refl _) _)) (rk, rn, rs) (by rfl) (heap_alloc_new _ _) hpl9 (by have := kb.size; have := HKB.out; simp; omega) (fun v9 w9 hown9 hb9 => ?_); have kb9 := (kb.alloc kb.size _).trans (hb9.mono HKZ.out); have HS9 := FQ.out _ kb9; rw [← HRo.out] at hown9; obtain ⟨A9, c9, rfl, _, _⟩ := hown9.vals.form; have HV9 := Lib.hid hown9; clear hown9)
                      | ((try rw [if_pos (by rfl)]); refine append_fx_wp (.tmp 117) (.tmp 138) (by rfl) W4.heap.size _ G' (by rfl) (HOQ.out.below kb9).fx (f := (ro, (s1, s2))) (by rfl) HV9.out.vals (fun q hq => ⟨(World.ownsRow.lt HV9.out q (own_sblk hq)).2, fun e => own_tag (HOQ.out.below kb9).own HV9.out (by decide) e (own_sblk hq)⟩) (by rfl) (by rfl) hGl9 (Nat.le_trans HzQ.out kb9.size) (fun v7 w7 hown7 hb7 hbk7 => ?_); have HS12 := FC.out w7 ((hbk7 gr (Nat.lt_of_lt_of_le hgQ kb9.size) (fun e => own_tag (HOQ.out.below kb9).own (own_below HRQ.out kb9 (Nat.le_refl _)) (by decide) e rfl)).trans (kb9.block gr hgQ)) ((hbk7 Y4.heap.size (Nat.lt_of_lt_of_le hbxQ kb9.size) (fun e => Nat.lt_irrefl _ (HNx.out _ e))).trans (kb9.block _ hbxQ)) ((hbk7 be (Nat.lt_of_lt_of_le hbeQ kb9.size) (fun e => Nat.lt_irrefl _ (Nat.lt_of_lt_of_le HbeN.out (World.ownsRow.lt (HOQ.out.below kb9).own _ e).1))).trans (kb9.block be hbeQ))))
                    all_goals
                      have HF7 := Lib.hid ((HOQ.out.below kb9).snoc (show OwnsV w9 W4.heap.size (.slice A9 ro.length c9) ro from own_low HV9.out (Nat.le_trans HzQ.out HKZ.out)) hown7 hbk7)
                      have HD7 : Hid (RvT X3.heap.size w7 _ (D ++ [pr])) := Lib.hid ((HDQ.out.below kb9).oth (HOQ.out.below kb9).own (by decide) (by decide) hbk7)
                      have HR7 := Lib.hid (own_blocks (own_below HRQ.out kb9 (Nat.le_refl _)) fun g hg => hbk7 g (World.ownsRow.lt (own_below HRQ.out kb9 (Nat.le_refl _)) g hg).2 fun e => own_tag (HOQ.out.below kb9).own (own_below HRQ.out kb9 (Nat.le_refl _)) (by decide) e hg)
                      have H37 : Hid (Below W4.heap.size X3 w7) := Lib.hid ((H3Q.out.trans (kb9.mono HzQ.out)).trans hb7)
                      clear hown7 hb7 hbk7
                      go_wp2_with fail
                      go_roundw
                      case rel => exact ⟨j + 1, _, by go_num, Hlj.out, HF7, Lib.hid (by rw [List.map_append, HE'.out, HN2.out, HOR.out, List.append_assoc]; rfl), Lib.hid (by rw [HN.out]; have h := HD7.out; rw [List.length_append] at h; exact h), HSt, HR7, H37⟩
                      case measure => have := Hlj.out; simp [intOf]; omega
            · obtain rfl : j = R.length := by omega
              have HA' : Hid (GrpA ks fn m (visN F E (k + 1)) (G'.map (·.2))) := Lib.hid (by rw [HE'.out]; exact HStep.out _ HA.out)
              have HNe' := Lib.hid (HNes.out HOk.out)
              have HGl' : Hid (G'.length ≤ (k + 1) * 16) := Lib.hid (by
                have h1 := congrArg List.length HE'.out
                have h2 := grpK_len (ks := ks) (fn := fn) (col := m) (R := R) (s := (s1, s2)) (k := R.length)
                rw [List.length_map, List.length_append, List.length_map] at h1
                have h3 := HGl.out
                rw [Nat.add_mul]
                omega)
              have HB' : Hid (Below W4.heap.size W4 Y) := Lib.hid (HB3.out.trans HY.out)
              go_wp2_with fail
              go_roundw
              case rel => exact ⟨k + 1, G', by go_num, .inr Hlt.out, HO', HA', HNe', HGl', HB'⟩
              case measure => have := Hlt.out; simp [intOf]; omega
        · have g1 : decide ((k : Int) + 1 < (E.length : Int)) = false := decide_eq_false (by omega)
          have hke : k = E.length - 1 := by omega
          have hA := HA.out
          have hNe := HNe.out
          have hGl := HGl.out
          rw [hke, ← Hvr.out] at hA hNe
          have h16 : k * 16 ≤ 32 * 16 := Nat.mul_le_mul_right _ (by omega)
          have hfa := HGF.out _ hA
          have hml : (G.map (·.2)).length = G.length := List.length_map ..
          have KN := Lib.hid (r39Normal_c _ (G.map (·.2)) X HO.out.fx.fs (by rw [hml]; omega) (fun a ha => (hfa a ha).1) (fun a ha => (hfa a ha).2.1) (fun a ha => (hfa a ha).2.2))
          have HA1 := Lib.hid hA
          have HNo := Lib.hid (Hnoe.out hNe)
          clear hke hA hGl h16 hfa hml hk hlt hNe
          go_wp2_with fail
          refine KN.out.mono ?_
          rintro e W9 ⟨vn, B, rfl, hB, _, ⟨S9, hFs⟩, hb9⟩
          obtain ⟨A9, c9, rfl, _, _⟩ := hFs.form
          have HN := Lib.hid (Hnrm.out _ _ HA1.out hB)
          have HFs := Lib.hid hFs
          have HB9 := Lib.hid (HBw.out.trans (hb9.mono HBw.out.size))
          clear hB hFs hb9 g1
          by_cases hq : B.length ≤ 1000
          · have q1 : decide ((1000 : Int) < (B.length : Int)) = false := decide_eq_false (by omega)
            have Hq := Lib.hid hq
            clear hq
            go_wp2_with fail
            go_ret2
            exact ⟨_, 0, rfl, HB9.out, HOut.out _ _ _ (by unfold RGrpOut; rw [Hct.out]; exact .inr ⟨HNo.out, B, HN.out, .inr ⟨Hq.out, rfl, ⟨_, HFs.out⟩⟩⟩)⟩
          · have q1 : decide ((1000 : Int) < (B.length : Int)) = true := decide_eq_true (by omega)
            have Hq := Lib.hid hq
            clear hq
            go_wp2_with fail
            go_ret2
            exact ⟨_, 5, rfl, HB9.out, HOut.out _ _ _ (by unfold RGrpOut; rw [Hct.out]; exact .inr ⟨HNo.out, B, HN.out, .inl ⟨by have := Hq.out; omega, rfl, rfl⟩⟩)⟩
end Go.Proofs.YtohjgegnamcnlaaGreat
