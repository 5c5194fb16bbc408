/- Law 39: the reference's Most. -/
import Derived.Deep.RegionHeld3
import Derived.Test.YtohjgegnamcnlaaGreatAjF
import Derived.Test.YtohjgegnamcnlaaGreatAjG
import Derived.Test.YtohjgegnamcnlaaGreatZae
import Derived.Test.YtohjgegnamcnlaaGreatAjM
import Derived.Test.YtohjgegnamcnlaaGreatAhj
namespace Go.Proofs.YtohjgegnamcnlaaGreat
open Go.RowKit Go.Shelf

theorem most_okS {F : List Fct} {Vs : List Vis} (hV : VisOk F Vs fun _ => True) (hl : ∀ f ∈ F, OkSp f.2) : ∀ s ∈ mostL Vs, OkSp s := fun s hs => by
  unfold mostL at hs
  obtain ⟨v, hv, rfl⟩ := List.mem_map.1 hs
  obtain ⟨h1, ⟨f, hf, h2⟩, ⟨g, hg, h3⟩⟩ := hV.span v (List.mem_filter.1 hv).1
  have a1 := hl f hf
  have a2 := hl g hg
  unfold OkSp at *
  omega
set_option maxRecDepth 100000 in
set_option maxHeartbeats 8000000 in
theorem r39Most_c (v : Value) (F : List Fct) (w : World) (hs : IsFs w v F) (hn : F.length ≤ 100) : Calls Tryz.prog 22 #[v] w (MostRet F w) := by
  have KV := Lib.hid (r39Valid_c v F w hs)
  have KE : Hid (∀ X, Below w.heap.size w X → Calls Tryz.prog 42 #[v] X (IntsRet (endsN F F.length) X)) := Lib.hid fun X h => r39Ends_c v F X (hs.below h) (by omega)
  have KR : Hid (∀ X t, Below w.heap.size w X → Calls Tryz.prog 43 #[v, .int .i64 t] X (AtRet (rowsAt F t) X)) := Lib.hid fun X t h => r39Rows_c v F t X (hs.below h) (by omega)
  obtain ⟨S, hs⟩ := hs
  obtain ⟨A, c, rfl, hnc, hc⟩ := hs.form
  cases hv : validF F
  · have Hv := Lib.hid hv
    rw [hv] at KV
    clear hv
    go_enter Tryz.func22, Tryz.ntmps22
    go_wp2_with fail
    refine KV.out.mono ?_
    rintro e W1 ⟨rfl, hb1⟩
    go_wp2_with fail
    go_ret2
    exact ⟨_, 0, [], rfl, RowsIn.nil, hb1, by rw [if_neg (by rw [Hv.out]; decide)]; exact ⟨rfl, rfl⟩⟩
  have Hv := Lib.hid hv
  rw [hv] at KV
  have hline : ∀ f ∈ F, OkSp f.2 := fun f hf => (spT_ok ((valid_rows hv).2 f hf).2.1).1
  have hvis := visR_ok F
  have HSpec := Lib.hid (fun C (h1 : Canon C) (h2 : ∀ x, mem C x = mem (mostL (visR F)) x) => most_spec hvis h1 h2)
  have HOk := Lib.hid (most_okS hvis hline)
  have hEl := endsN_len F F.length
  have hLl : (mostL (visR F)).length ≤ 200 := by
    have h1 := mostL_len (visR F)
    have h2 := visN_len F (endsN F F.length) ((endsN F F.length).length - 1)
    unfold visR at h1 ⊢
    omega
  have HLl := Lib.hid hLl
  have hvr : visR F = visN F (endsN F F.length) ((endsN F F.length).length - 1) := rfl
  generalize endsN F F.length = E at *
  have Hvr := Lib.hid hvr; have HEl := Lib.hid hEl
  clear hv hline hvis hLl hvr
  go_enter Tryz.func22, Tryz.ntmps22
  go_wp2_with fail
  refine KV.out.mono ?_
  rintro e W1 ⟨rfl, hb1⟩
  go_wp2_with fail
  refine (KE.out W1 hb1).mono ?_
  rintro e W2 ⟨ve, rfl, hE, hb2⟩
  have HB2 := Lib.hid (hb1.trans (hb2.mono hb1.size))
  obtain ⟨Ae, ce, rfl, _, _⟩ := IsInts.form hE
  have HE := Lib.hid hE
  clear hb1 hb2 hE
  go_wp2_with fail
  go_loopw [4, 5, 7] (fun b s i X => ∃ k : Nat, b = .int .i64 (mostV (visN F E k) : Int) ∧ i = .int .i64 (k : Int) ∧ (k = 0 ∨ k < E.length) ∧ Hid (X.ownsRow W2.heap.size 34 2 s (mostL (visN F E k)).length (flat (mostL (visN F E k)))) ∧ Hid (Below W2.heap.size W2 X)) (fun _ _ i _ => E.length - (intOf i).toNat)
  case atStart => exact ⟨0, rfl, rfl, .inl rfl, Lib.hid (own_nil _ _ _ _), Lib.hid (Below.refl _ _)⟩
  case round =>
    obtain ⟨k, rfl, rfl, hk, HO, HB⟩ := hrel
    rename World => X
    have hE100 : E.length ≤ 200 := by have := HEl.out; omega
    have hk9 : (k : Int) < 1000 := by omega
    have hwr : IntKind.i64.wrap ((k : Int) + 1) = (k : Int) + 1 := IntWalk.i64_in _ (by omega)
    have HBw : Hid (Below w.heap.size w X) := Lib.hid (HB2.out.trans (HB.out.mono HB2.out.size))
    by_cases hlt : k + 1 < E.length
    · have f1 : decide ((k : Int) + 1 < (E.length : Int)) = true := decide_eq_true (by omega)
      have f2 : (0 : Int) ≤ (k : Int) + 1 := by omega
      have f3 : (k : Int) + 1 < (E.length : Int) := by omega
      have f4 : ((k : Int) + 1).toNat = k + 1 := by omega
      have f5 : k < E.length := by omega
      obtain ⟨b, off, rfl, hbl⟩ := IsInts.addr HE.out (by omega)
      have hin := HE.out.below HB.out
      have c0 := hin.c0 k (by omega)
      have c1 := hin.c0 (k + 1) hlt
      have hbX : b < X.heap.size := Nat.lt_of_lt_of_le hbl HB.out.size
      have K := Lib.hid (KR.out X (iv E k) HBw.out)
      have hnone := visN_none (F := F) (E := E) (k := k)
      have hsome := visN_some (F := F) (E := E) (k := k)
      have hvl := visN_len F E k
      have hml := mostL_len (visN F E k)
      have hown := HO.out
      have hmore := fun v h => mostL_more (Vs := visN F E k) (v := v) h
      have hsame := fun v h => mostL_same (Vs := visN F E k) (v := v) h
      have hless := fun v h => mostL_less (Vs := visN F E k) (v := v) h
      have happ := mostV_app (visN F E k)
      obtain ⟨Vs, hVs⟩ : ∃ l, l = visN F E k := ⟨_, rfl⟩
      rw [← hVs] at hnone hsome hvl hml hown hmore hsame hless happ ⊢
      obtain ⟨s1, hs1⟩ : ∃ x, x = iv E k := ⟨_, rfl⟩
      obtain ⟨s2, hs2⟩ : ∃ x, x = iv E (k + 1) := ⟨_, rfl⟩
      rw [← hs1] at c0 K hnone hsome
      rw [← hs2] at c1 hsome
      generalize rowsAt F s1 = R at K hnone hsome
      generalize hmv : mostV Vs = mv at hmore hsame hless happ ⊢
      generalize hmL : mostL Vs = mL at hml hown hmore hsame hless
      have hmv9 : mv ≤ 1000000 ∨ 1000000 < mv := by omega
      have Hlt := Lib.hid hlt; have HOwn := Lib.hid hown
      have hml9 : mL.length < 900000000 := by omega
      have HNone := Lib.hid hnone; have HSome := Lib.hid hsome; have HMore := Lib.hid hmore; have HSame := Lib.hid hsame; have HLess := Lib.hid hless; have HApp := Lib.hid happ
      have FB : Hid (∀ Y, Below X.heap.size X Y → Y.cell? ⟨b, off + k, none⟩ = some (.int .i64 s1) ∧ Y.cell? ⟨b, off + (k + 1), none⟩ = some (.int .i64 s2)) := Lib.hid fun Y h => ⟨(h.cell (p := ⟨b, off + k, none⟩) hbX).trans c0, (h.cell (p := ⟨b, off + (k + 1), none⟩) hbX).trans c1⟩
      have HMv := Lib.hid hmv; have HmL := Lib.hid hmL; have HVs := Lib.hid hVs
      clear hin hnone hsome hvl hml hown hmore hsame hless happ hs1 hs2 hmv hmL hVs hk hmv9 c1
      go_wp2_with fail
      refine K.out.mono ?_
      rintro e X3 ⟨vr3, rfl, ⟨Sr, hr⟩, hb3⟩
      obtain ⟨Ar, cr, rfl, _, _⟩ := hr.form
      have HB3 := Lib.hid (HB.out.trans (hb3.mono HB.out.size))
      have HO3 := Lib.hid (own_below HOwn.out hb3 (Nat.le_refl _))
      have FB3 : Hid (∀ Y, Below X3.heap.size X3 Y → Y.cell? ⟨b, off + k, none⟩ = some (.int .i64 s1) ∧ Y.cell? ⟨b, off + (k + 1), none⟩ = some (.int .i64 s2)) := Lib.hid fun Y h => FB.out Y (hb3.trans (h.mono hb3.size))
      have hbX3 : b < X3.heap.size := Nat.lt_of_lt_of_le hbX hb3.size
      clear hr hb3 c0
      by_cases hR : R = []
      · have HV' := Lib.hid (HNone.out hR)
        have hRl : R.length = 0 := by rw [hR]; rfl
        have d1 : decide ((mv : Int) < (R.length : Int)) = false := decide_eq_false (by omega)
        have d1n : decide (mv < R.length) = false := decide_eq_false (by omega)
        have d3 : decide ((0 : Int) < (R.length : Int)) = false := decide_eq_false (by omega)
        have d3n : decide (0 < R.length) = false := decide_eq_false (by omega)
        clear hR hRl
        cases d2 : ((R.length : Int) == (mv : Int))
        all_goals
          go_wp2_with fail
          go_roundw
          case rel => exact ⟨k + 1, by rw [HV'.out, HMv.out], by go_num, Or.inr Hlt.out, Lib.hid (by rw [HV'.out, HmL.out]; exact HO3.out), HB3⟩
          case measure => have := Hlt.out; simp [intOf]; omega
      have HV' := Lib.hid (HSome.out hR)
      have hRp : 0 < R.length := List.length_pos_iff.2 hR
      have d0 : decide ((0 : Int) < (R.length : Int)) = true := decide_eq_true (by omega)
      have d0n : decide (0 < R.length) = true := decide_eq_true hRp
      have hz3 := HB3.out.size
      rcases Nat.lt_trichotomy mv R.length with hlr | hlr | hlr
      · have HM1 := Lib.hid (HMore.out ((s1, s2), R) hlr)
        have HA1 : Hid (mostV (Vs ++ [((s1, s2), R)]) = R.length) := Lib.hid (by rw [HApp.out]; show max mv R.length = _; omega)
        have d1 : decide ((mv : Int) < (R.length : Int)) = true := decide_eq_true (by omega)
        have d1n : decide (mv < R.length) = true := decide_eq_true hlr
        have d2 : ((R.length : Int) == (R.length : Int)) = true := by simp
        have kb : Below X3.heap.size X3 X3 := Below.refl _ _
        clear hlr hR hRp
        go_wp2_with fail
        go_region_held3 (fun Q => Q.cell? ⟨b, off + k, none⟩ = some (.int .i64 s1) ∧ Q.cell? ⟨b, off + (k + 1), none⟩ = some (.int .i64 s2)) ((first | exact FB3.out _ kb | exact FB3.out _ kb.drew | exact FB3.out _ (kb.drew.alloc kb.drew.size _) | exact FB3.out _ (kb.alloc kb.size _).drew | exact FB3.out _ (kb.alloc kb.size _) | exact HS7)) (first
          | ((try rw [if_pos (by rfl)]); refine append1_wp tSpans tSpanInfo rfl (by omega) (by omega) _ _ (by rfl) W2.heap.size _ 0 [] [.int .i64 s1, .int .i64 s2] (by rfl) (own_nil _ _ _ _) (by rfl) (by rfl) rfl rfl (by simp [Value.oneCell']) (by omega) hz3 (fun v7 w7 hown7 hb7 hbk7 _ => ?_); have HS7 : w7.cell? ⟨b, off + k, none⟩ = some (.int .i64 s1) ∧ w7.cell? ⟨b, off + (k + 1), none⟩ = some (.int .i64 s2) := by (have h9 := hbk7 b hbX3 (by simp [Value.ownBlock]); exact ⟨(World.cell?_of_block h9).trans (FB3.out _ kb).1, (World.cell?_of_block h9).trans (FB3.out _ kb).2⟩)))
        all_goals
          have HO7 := Lib.hid hown7
          have HZ7 := Lib.hid (HB3.out.trans hb7)
          clear hown7 hb7 hbk7
          go_wp2_with fail
          go_roundw
          case rel => exact ⟨k + 1, by rw [HV'.out, HA1.out], by go_num, .inr Hlt.out, Lib.hid (by rw [HV'.out, HM1.out]; exact HO7.out), HZ7⟩
          case measure => have := Hlt.out; simp [intOf]; omega
      · subst hlr
        have HM1 := Lib.hid (HSame.out ((s1, s2), R) rfl)
        have HA1 : Hid (mostV (Vs ++ [((s1, s2), R)]) = R.length) := Lib.hid (by rw [HApp.out]; show max R.length R.length = _; omega)
        have d1 : decide ((R.length : Int) < (R.length : Int)) = false := decide_eq_false (by omega)
        have d1n : decide (R.length < R.length) = false := decide_eq_false (by omega)
        have d2 : ((R.length : Int) == (R.length : Int)) = true := by simp
        have kb : Below X3.heap.size X3 X3 := Below.refl _ _
        have HNE : Hid (∀ g, b = g → ¬ W2.heap.size ≤ g) := Lib.hid fun g e => by omega
        have Hoo := Lib.hid (fun g hg => World.ownsRow.lt HO3.out g hg)
        clear hR hRp
        go_wp2_with fail
        go_region_held3 (fun Q => Q.cell? ⟨b, off + k, none⟩ = some (.int .i64 s1) ∧ Q.cell? ⟨b, off + (k + 1), none⟩ = some (.int .i64 s2)) ((first | exact FB3.out _ kb | exact FB3.out _ kb.drew | exact FB3.out _ (kb.drew.alloc kb.drew.size _) | exact FB3.out _ (kb.alloc kb.size _).drew | exact FB3.out _ (kb.alloc kb.size _) | exact HS7)) (first
          | ((try rw [if_pos (by rfl)]); refine append1_wp tSpans tSpanInfo rfl (by omega) (by omega) _ _ (by rfl) W2.heap.size _ mL.length (flat mL) [.int .i64 s1, .int .i64 s2] (by rfl) HO3.out (by rfl) (by rfl) rfl rfl (by simp [Value.oneCell']) hml9 hz3 (fun v7 w7 hown7 hb7 hbk7 _ => ?_); have HS7 : w7.cell? ⟨b, off + k, none⟩ = some (.int .i64 s1) ∧ w7.cell? ⟨b, off + (k + 1), none⟩ = some (.int .i64 s2) := by (have h9 := hbk7 b hbX3 (fun e => HNE.out b rfl (Hoo.out b e).1); exact ⟨(World.cell?_of_block h9).trans (FB3.out _ kb).1, (World.cell?_of_block h9).trans (FB3.out _ kb).2⟩)))
        all_goals
          have HO7 := Lib.hid hown7
          have HZ7 := Lib.hid (HB3.out.trans hb7)
          clear hown7 hb7 hbk7
          go_wp2_with fail
          go_roundw
          case rel => exact ⟨k + 1, by rw [HV'.out, HA1.out], by go_num, .inr Hlt.out, Lib.hid (by rw [HV'.out, HM1.out, flat_snoc, List.length_append]; exact HO7.out), HZ7⟩
          case measure => have := Hlt.out; simp [intOf]; omega
      · have HM1 := Lib.hid (HLess.out ((s1, s2), R) hlr)
        have HA1 : Hid (mostV (Vs ++ [((s1, s2), R)]) = mv) := Lib.hid (by rw [HApp.out]; show max mv R.length = _; omega)
        have d1 : decide ((mv : Int) < (R.length : Int)) = false := decide_eq_false (by omega)
        have d1n : decide (mv < R.length) = false := decide_eq_false (by omega)
        have d2 : ((R.length : Int) == (mv : Int)) = false := by rw [beq_eq_false_iff_ne]; omega
        clear hlr hR hRp
        go_wp2_with fail
        go_roundw
        case rel => exact ⟨k + 1, by rw [HV'.out, HA1.out], by go_num, .inr Hlt.out, Lib.hid (by rw [HV'.out, HM1.out]; exact HO3.out), HB3⟩
        case measure => have := Hlt.out; simp [intOf]; omega
    · have f1 : decide ((k : Int) + 1 < (E.length : Int)) = false := decide_eq_false (by omega)
      have hke : k = E.length - 1 := by omega
      have hown := HO.out
      rw [hke, ← Hvr.out] at hown ⊢
      generalize hVs : visR F = Vs at hown HSpec HOk HLl ⊢
      have KO := Lib.hid (r12OfO_c _ (mostL Vs) X (spans_of_own hown) (by have := HLl.out; omega) HOk.out)
      clear hown hk hlt hke hVs
      go_wp2_with fail
      refine KO.out.mono ?_
      rintro e W9 ⟨C, vc, hc1, hc2, hc3, rfl, hcown, hb9⟩
      have HMs := Lib.hid (HSpec.out C hc1 hc2)
      have HCs := Lib.hid (spans_of_own hcown)
      have HB9 := Lib.hid (HBw.out.trans (hb9.mono HBw.out.size))
      clear hc1 hc2 hc3 hcown hb9
      go_wp2_with fail
      go_ret2
      exact ⟨_, mostV Vs, C, rfl, HCs.out, HB9.out, by rw [if_pos Hv.out]; exact HMs.out⟩
end Go.Proofs.YtohjgegnamcnlaaGreat
