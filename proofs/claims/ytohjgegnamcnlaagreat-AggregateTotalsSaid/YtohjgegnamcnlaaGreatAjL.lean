/- Law 39: the reference's Normal. -/
import Derived.Deep.RegionHeld3
import Derived.Deep.RegionLaw
import Derived.Test.YtohjgegnamcnlaaGreatAhx
import Derived.Test.YtohjgegnamcnlaaGreatAjM
import Derived.Test.YtohjgegnamcnlaaGreatZac
import Derived.Test.YtohjgegnamcnlaaGreatZae
namespace Go.Proofs.YtohjgegnamcnlaaGreat
open Go.RowKit Go.Shelf

def NormRet (F : List Fct) (w : World) (e : Ending) (w' : World) : Prop := ∃ v B, e = .returned v ∧ NormOf B (ptsF F) ∧ B.length ≤ F.length * (2 * F.length) ∧ IsFs w' v B ∧ Below w.heap.size w w'
set_option maxRecDepth 100000 in
set_option maxHeartbeats 16000000 in
theorem r39Normal_c (v : Value) (F : List Fct) (w : World) (hs : IsFs w v F) (hn : F.length ≤ 1000) (hok : ∀ f ∈ F, OkSp f.2) (hsm : ∀ f ∈ F, ∀ x ∈ f.1, x.2.2.size ≤ 1000000000) (hp : ∀ f ∈ F, 0 < f.1.length) : Calls Tryz.prog 47 #[v] w (NormRet F w) := by
  obtain ⟨S, hs⟩ := hs
  obtain ⟨A, cc, rfl, hnc, hcc⟩ := hs.form
  have HFin := Lib.hid hs; have Hok := Lib.hid hok; have Hsm := Lib.hid hsm; have Hp := Lib.hid hp
  clear hok hsm hp
  go_enter Tryz.func47, Tryz.ntmps47
  go_wp2_with fail
  go_loopw [3, 4] (fun o i X => ∃ k : Nat, i = .int .i64 (k : Int) ∧ k ≤ F.length ∧ Hid (RvO w w.heap.size X o (listN F k)) ∧ Hid (Below w.heap.size w X)) (fun _ i _ => F.length - (intOf i).toNat)
  case atStart => exact ⟨0, rfl, Nat.zero_le _, Lib.hid (RvO.nil _ _ _), Lib.hid (Below.refl _ _)⟩
  case round =>
    obtain ⟨k, rfl, hk, HO, HB⟩ := hrel
    rename World => X
    by_cases hlt : k < F.length
    · have hll := listN_len F k
      have hins := insR_len (listN F k) (fc F k).1
      have hhas := listN_has (F := F) (k := k)
      have hnew := listN_new (F := F) (k := k)
      have hvl : ∀ r ∈ listN F k, ∀ x ∈ r, x.2.2.size ≤ 1000000000 := fun r hr => by
        obtain ⟨i, hi, rfl⟩ := (listN_mem F k r).1 hr
        exact Hsm.out _ (fc_mem (by omega))
      obtain ⟨L, hL⟩ : ∃ L, L = listN F k := ⟨_, rfl⟩
      have HL := Lib.hid hL
      have HOr := HO.out
      rw [← hL] at hll hins hhas hnew hvl HOr
      clear hL
      have HOL := Lib.hid HOr
      obtain ⟨ss, hown, hssl, hssv⟩ := HOr
      have hrv := own_rv hown hssl (fun i hi => (hssv i hi).below HB.out)
      obtain ⟨Ao, co, rfl, _, _⟩ := hrv.form
      obtain ⟨b, off, rfl, hbl⟩ := hs.addr (by omega)
      have c0 := (hs.below HB.out).c0 k hlt
      have hv := hs.2 k hlt
      obtain ⟨A1, p1, hS, _, _⟩ := hv.form
      rw [hS] at c0 hv
      have KH := Lib.hid (r39has_c _ _ L (fc F k).1 X ⟨_, hrv⟩ (hv.below HB.out) (by omega))
      have hrs := Hsm.out _ (fc_mem hlt)
      have hbX : b < X.heap.size := Nat.lt_of_lt_of_le hbl HB.out.size
      obtain ⟨row, hrow⟩ : ∃ r, r = (fc F k).1 := ⟨_, rfl⟩
      rw [← hrow] at c0 hv KH hrs hins hhas hnew
      have Hlt := Lib.hid hlt; have Hll := Lib.hid hll; have Hhas := Lib.hid hhas; have Hnew := Lib.hid hnew; have HIns := Lib.hid hins
      have Hv := Lib.hid hv; have Hrs := Lib.hid hrs; have Hrv := Lib.hid hrv; have Hssv := Lib.hid hssv
      clear hll hhas hnew hS hv hrs hrv hown hrow hins hvl
      cases q3 : hasR L row
      rotate_left
      · have HN := Lib.hid (Hhas.out q3)
        rw [q3] at KH
        clear q3
        go_wp2_with fail
        refine KH.out.mono ?_
        rintro e X5 ⟨rfl, hb5⟩
        have HB5 := Lib.hid (HB.out.trans (hb5.mono HB.out.size))
        have HO5 := Lib.hid (HOL.out.below hb5)
        clear hb5
        go_wp2_with fail
        go_roundw
        case rel => exact ⟨k + 1, by go_num, Hlt.out, Lib.hid (by rw [HN.out]; exact HO5.out), HB5⟩
        case measure => have := Hlt.out; simp [intOf]; omega
      · have HN := Lib.hid (Hnew.out q3)
        rw [q3] at KH
        clear q3
        go_wp2_with fail
        refine KH.out.mono ?_
        rintro e X5 ⟨rfl, hb5⟩
        have HB5 := Lib.hid (HB.out.trans (hb5.mono HB.out.size))
        have Hrv5 := Lib.hid (Hrv.out.below hb5)
        have C0 : Hid (∀ Q, Below X5.heap.size X5 Q → Q.cell? ⟨b, off + k * 3, none⟩ = some (.slice A1 row.length p1)) := Lib.hid fun Q h => ((hb5.trans (h.mono hb5.size)).cell (p := ⟨b, off + k * 3, none⟩) hbX).trans c0
        have hbX5 : b < X5.heap.size := Nat.lt_of_lt_of_le hbX hb5.size
        clear hb5 c0
        go_wp2_with fail
        go_loopw [5, 6, 7] (fun nx d i Q => ∃ (m : Nat) (z : Bool) (out : List VRow), d = .bool z ∧ i = .int .i64 (m : Int) ∧ m ≤ L.length ∧ Hid (InsAt L row m z out) ∧ out.length ≤ 2 * m + 1 ∧ Hid (RvO w X5.heap.size Q nx out) ∧ Hid (Below X5.heap.size X5 Q)) (fun _ _ i _ => L.length - (intOf i).toNat)
        case atStart => exact ⟨0, false, [], rfl, rfl, Nat.zero_le _, Lib.hid (InsAt.start _ _), by simp, Lib.hid (RvO.nil _ _ _), Lib.hid (Below.refl _ _)⟩
        case round =>
          obtain ⟨m, z, out, rfl, rfl, hm, HI, hol, HR, HQ⟩ := hrel
          rename World => Q
          have c0 := C0.out Q HQ.out
          have hbQ : b < Q.heap.size := Nat.lt_of_lt_of_le hbX5 HQ.out.size
          have hown9 : out.length < 900000000 := by have := Hll.out; omega
          have HBQ : Hid (Below w.heap.size w Q) := Lib.hid (HB5.out.trans (HQ.out.mono HB5.out.size))
          by_cases hlm : m < L.length
          · obtain ⟨bo, oo, rfl, hbo⟩ := Hrv5.out.addr (by omega)
            have d0 := (Hrv5.out.below HQ.out).cell m hlm
            have hv2 := Hssv.out m hlm
            obtain ⟨A2, p2, hS2, _, _⟩ := hv2.form
            rw [hS2] at d0 hv2
            have hboQ : bo < Q.heap.size := Nat.lt_of_lt_of_le hbo HQ.out.size
            have KO : Hid (∀ Y, Below Q.heap.size Q Y → Calls Tryz.prog 80 #[.slice A1 row.length p1, .slice A2 (vr L m).length p2] Y (Ret Y (.int .i64 (cmpR row (vr L m))))) := Lib.hid fun Y h => r33Order_c _ _ _ _ Y (Hv.out.below (HBQ.out.trans (h.mono HBQ.out.size))) (hv2.below (HBQ.out.trans (h.mono HBQ.out.size))) Hrs.out
            have e0 := fun x : BW Q => bw_cell x c0 hbQ
            have e1 := fun x : BW Q => bw_cell x d0 hboQ
            have Hlm := Lib.hid hlm
            have Hin := fun h : InsAt L row m true out => h.in_ hlm
            have Hge := fun h : InsAt L row m false out => h.ge hlm
            have HLt := fun h : InsAt L row m false out => h.lt hlm
            obtain ⟨y, hy⟩ : ∃ y, y = vr L m := ⟨_, rfl⟩
            rw [← hy] at d0 hv2 KO e1 Hin Hge HLt
            have Hin' := Lib.hid Hin; have Hge' := Lib.hid Hge; have HLt' := Lib.hid HLt; have Hv2 := Lib.hid hv2
            have D0 : Hid (∀ Y, Below X5.heap.size X5 Y → Y.cell? ⟨bo, oo + m, none⟩ = some (.slice A2 y.length p2)) := Lib.hid fun Y h => by
              have := (Hrv5.out.below h).cell m hlm
              rw [hS2, ← hy] at this
              exact this
            clear hy hS2 Hin Hge HLt hv2 c0 d0
            have HZ : Hid (∀ Y, Below X5.heap.size X5 Y → X5.heap.size ≤ Y.heap.size) := Lib.hid fun Y h => h.size
            cases z
            · cases q : decide (cmpR row y < 0)
              · have HP2 := Lib.hid (Hge'.out HI.out (of_decide_eq_false q))
                go_wp2_with fail
                refine wp_region_below (by kernel_rfl) (by kernel_rfl) ?_
                repeat (go_big_quiet_step ((go_at_call 80; exact calls_bw _ (KO.out _ (Subtype.property _)))))
                refine wpQuiet_nil ?_
                rintro Y1 ⟨⟨_, hbY⟩, rfl⟩
                have hY1 := HQ.out.trans (hbY.mono HQ.out.size)
                have d1 := D0.out _ hY1
                have hR1 := HR.out.below hbY
                have hz1 := hY1.size
                clear e0 e1 q hbY
                go_wp2_with (at_builtin; refine append_rv rfl _ _ (by rfl) w X5.heap.size _ out (by rfl) hR1 Hv2.out (by rfl) (by rfl) hown9 hz1 ?_; intro v8 w8 hown8 hb8 _)
                go_roundw
                case rel => exact ⟨m + 1, false, out ++ [y], rfl, by go_num, Hlm.out, HP2, by simp; omega, Lib.hid hown8, Lib.hid (hY1.trans hb8)⟩
                case measure => have := Hlm.out; simp [intOf]; omega
              · have HP2 := Lib.hid (HLt'.out HI.out (of_decide_eq_true q))
                go_wp2_with fail
                refine wp_region_below (by kernel_rfl) (by kernel_rfl) ?_
                repeat (go_big_quiet_step ((go_at_call 80; exact calls_bw _ (KO.out _ (Subtype.property _)))))
                refine wpQuiet_nil ?_
                rintro Y1 ⟨⟨_, hbY⟩, rfl⟩
                have hY1 := HQ.out.trans (hbY.mono HQ.out.size)
                have c1 := C0.out _ hY1
                have hR1 := HR.out.below hbY
                have hz1 := hY1.size
                have hown10 : (out ++ [row]).length < 900000000 := by simp; have := Hll.out; omega
                have HY1 := Lib.hid hY1
                clear e0 e1 q hbY hY1
                go_wp2_with (at_builtin; first
                  | (refine append_rv rfl _ _ (by rfl) w X5.heap.size _ out (by rfl) hR1 Hv.out (by rfl) (by rfl) hown9 hz1 ?_; intro v8 w8 hown8 hb8 _; have hb9 := HY1.out.trans hb8; have d9 := D0.out _ hb9; have hz9 := hb9.size)
                  | (refine append_rv rfl _ _ (by rfl) w X5.heap.size _ (out ++ [row]) (by rfl) hown8 Hv2.out (by rfl) (by rfl) hown10 hz9 ?_; intro v7 w7 hown7 hb7 _))
                go_roundw
                case rel => exact ⟨m + 1, true, out ++ [row] ++ [y], rfl, by go_num, Hlm.out, HP2, by simp; omega, Lib.hid hown7, Lib.hid (hb9.trans hb7)⟩
                case measure => have := Hlm.out; simp [intOf]; omega
            · have HP2 := Lib.hid (Hin'.out HI.out)
              go_wp2_with fail
              refine wp_region_below (by kernel_rfl) (by kernel_rfl) ?_
              repeat (go_big_quiet_step (fail))
              refine wpQuiet_nil ?_
              rintro Y1 ⟨⟨_, hbY⟩, rfl⟩
              have hY1 := HQ.out.trans (hbY.mono HQ.out.size)
              have d1 := D0.out _ hY1
              have hR1 := HR.out.below hbY
              have hz1 := hY1.size
              clear e0 e1 hbY
              go_wp2_with (at_builtin; refine append_rv rfl _ _ (by rfl) w X5.heap.size _ out (by rfl) hR1 Hv2.out (by rfl) (by rfl) hown9 hz1 ?_; intro v8 w8 hown8 hb8 _)
              go_roundw
              case rel => exact ⟨m + 1, true, out ++ [y], rfl, by go_num, Hlm.out, HP2, by simp; omega, Lib.hid hown8, Lib.hid (hY1.trans hb8)⟩
              case measure => have := Hlm.out; simp [intOf]; omega
          · obtain rfl : m = L.length := by omega
            have hfin := HI.out.end_
            have hR1 := HR.out
            have hz1 := HQ.out.size
            have hz5 := HB5.out.size
            cases z
            · have HF : Hid (listN F (k + 1) = out ++ [row]) := Lib.hid (by rw [HN.out, hfin, if_neg (by decide)])
              clear hfin
              go_wp2_with (at_builtin; refine append_rv rfl _ _ (by rfl) w X5.heap.size _ out (by rfl) hR1 Hv.out (by rfl) (by rfl) hown9 hz1 ?_; intro v8 w8 hown8 hb8 _)
              go_roundw
              case rel => exact ⟨k + 1, by go_num, Hlt.out, Lib.hid (by rw [HF.out]; exact hown8.lower hz5), Lib.hid (HB5.out.trans ((HQ.out.trans hb8).mono hz5))⟩
              case measure => have := Hlt.out; simp [intOf]; omega
            · have HF : Hid (listN F (k + 1) = out) := Lib.hid (by rw [HN.out, hfin, if_pos rfl])
              clear hfin
              go_wp2_with fail
              go_roundw
              case rel => exact ⟨k + 1, by go_num, Hlt.out, Lib.hid (by rw [HF.out]; exact hR1.lower hz5), HBQ⟩
              case measure => have := Hlt.out; simp [intOf]; omega
    · obtain rfl : k = F.length := by omega
      have hsrt := listN_srt F F.length
      have hll := listN_len F F.length
      have hdone : ∀ B, NrmAt F (listN F F.length) (listN F F.length).length B → NormOf B (ptsF F) := fun B h => h.done
      have hpos : ∀ r ∈ listN F F.length, 0 < r.length := fun r hr => by
        obtain ⟨i, hi, rfl⟩ := (listN_mem F F.length r).1 hr
        exact Hp.out _ (fc_mem hi)
      have HOr := HO.out
      generalize listN F F.length = L at *
      obtain ⟨ss, hown, hssl, hssv⟩ := HOr
      have hrv := own_rv hown hssl (fun i hi => (hssv i hi).below HB.out)
      obtain ⟨Ao, co, rfl, _, _⟩ := hrv.form
      have Hsrt := Lib.hid hsrt; have Hll := Lib.hid hll; have Hdone := Lib.hid hdone; have Hpos := Lib.hid hpos; have Hrv := Lib.hid hrv; have Hssv := Lib.hid hssv
      clear hsrt hll hdone hpos hrv hssv hown HO
      go_wp2_with fail
      go_loopw [8, 9] (fun o i Y => ∃ (j : Nat) (G : List Fx), i = .int .i64 (j : Int) ∧ j ≤ L.length ∧ Hid (OwnsFx Y X.heap.size o G) ∧ Hid (NrmAt F L j (G.map (·.2))) ∧ Hid (Below X.heap.size X Y)) (fun _ i _ => L.length - (intOf i).toNat)
      case atStart => exact ⟨0, [], rfl, Nat.zero_le _, Lib.hid ⟨own_nil _ _ _ _, fun x hx => absurd hx (by simp)⟩, Lib.hid (NrmAt.start F L), Lib.hid (Below.refl _ _)⟩
      case round =>
        obtain ⟨j, G, rfl, hj, HO3, HN, HY⟩ := hrel
        rename World => Y
        obtain ⟨Ag, cg, hoe⟩ := HO3.out.form
        by_cases hlj : j < L.length
        · obtain ⟨bo, oo, rfl, hbo⟩ := Hrv.out.addr (by omega)
          have d0 := Hrv.out.cell j hlj
          have hv2 := Hssv.out j hlj
          obtain ⟨A2, p2, hS2, _, _⟩ := hv2.form
          rw [hS2] at d0 hv2
          have hyp := Hpos.out _ (vr_mem hlj)
          have hnext := fun C (h1 : Canon C) (h2 : ∀ t, mem C t = mem (spnN F (vr L j) F.length) t) (h3 : C.length ≤ 2 * F.length) => HN.out.next hlj Hsrt.out h1 h2 h3
          obtain ⟨y, hy⟩ : ∃ y, y = vr L j := ⟨_, rfl⟩
          rw [← hy] at d0 hv2 hyp hnext
          have Hnext := Lib.hid hnext; have Hv2 := Lib.hid hv2; have Hyp := Lib.hid hyp; have Hlj := Lib.hid hlj
          have D0 : Hid (∀ Z, Below X.heap.size X Z → Z.cell? ⟨bo, oo + j, none⟩ = some (.slice A2 y.length p2)) := Lib.hid fun Z h => (h.cell (p := ⟨bo, oo + j, none⟩) hbo).trans d0
          have HBY : Hid (Below w.heap.size w Y) := Lib.hid (HB.out.trans (HY.out.mono HB.out.size))
          have hboY : bo < Y.heap.size := Nat.lt_of_lt_of_le hbo HY.out.size
          clear hnext hv2 hyp d0 hy hS2 hoe
          go_wp2_with fail
          go_loopw [10, 11] (fun sp i Q => ∃ m : Nat, i = .int .i64 (m : Int) ∧ m ≤ F.length ∧ Hid (Q.ownsRow Y.heap.size 34 2 sp (spnN F y m).length (flat (spnN F y m))) ∧ Hid (Below Y.heap.size Y Q)) (fun _ i _ => F.length - (intOf i).toNat)
          case atStart => exact ⟨0, rfl, Nat.zero_le _, Lib.hid (own_nil _ _ _ _), Lib.hid (Below.refl _ _)⟩
          case round =>
            obtain ⟨m, rfl, hm, HSp, HQ⟩ := hrel
            rename World => Q
            have HBQ : Hid (Below w.heap.size w Q) := Lib.hid (HBY.out.trans (HQ.out.mono HBY.out.size))
            have HXQ : Hid (Below X.heap.size X Q) := Lib.hid (HY.out.trans (HQ.out.mono HY.out.size))
            have hsl := spnN_len F y m
            by_cases hlm : m < F.length
            · obtain ⟨b, off, rfl, hbl⟩ := hs.addr (by omega)
              have hin := hs.below HBQ.out
              have c0 := hin.c0 m hlm
              have c1 := hin.c1 m hlm
              have c2 := hin.c2 m hlm
              have hv := hs.2 m hlm
              obtain ⟨A1, p1, hS, _, _⟩ := hv.form
              rw [hS] at c0 hv
              have hbQ : b < Q.heap.size := Nat.lt_of_lt_of_le hbl HBQ.out.size
              have hboQ : bo < Q.heap.size := Nat.lt_of_lt_of_le hboY HQ.out.size
              have d0 := D0.out Q HXQ.out
              have KS : Hid (∀ Z, Below Q.heap.size Q Z → Calls Tryz.prog 48 #[.slice A1 (fc F m).1.length p1, .slice A2 y.length p2] Z (Ret Z (.bool (sameR (fc F m).1 y)))) := Lib.hid fun Z h => r33Same_c _ _ _ _ Z (hv.below (HBQ.out.trans (h.mono HBQ.out.size))) (Hv2.out.below (HBQ.out.trans (h.mono HBQ.out.size)))
              have hyes := spnN_yes (F := F) (r := y) (k := m)
              have hno := spnN_no (F := F) (r := y) (k := m)
              have e0 := fun x : BW Q => bw_cell x c0 hbQ
              have e1 := fun x : BW Q => bw_cell x d0 hboQ
              obtain ⟨sp, hsp⟩ : ∃ l, l = spnN F y m := ⟨_, rfl⟩
              have Hsp := Lib.hid hsp
              have hownS := HSp.out
              rw [← hsp] at hyes hno hsl hownS
              have hsp9 : sp.length < 900000000 := by omega
              generalize hrow : fc F m = f at c0 c1 c2 hv KS hyes hno e0
              obtain ⟨row, ⟨s1, s2⟩⟩ := f
              simp only at c0 c1 c2 hv KS hyes hno e0
              have Hyes := Lib.hid hyes; have Hno := Lib.hid hno; have Hlm := Lib.hid hlm; have HownS := Lib.hid hownS
              have C1 : Hid (∀ Z, Below Q.heap.size Q Z → Z.cell? ⟨b, off + m * 3 + 1, none⟩ = some (.int .i64 s1) ∧ Z.cell? ⟨b, off + m * 3 + 1 + 1, none⟩ = some (.int .i64 s2)) := Lib.hid fun Z h => ⟨(h.cell (p := ⟨b, off + m * 3 + 1, none⟩) hbQ).trans c1, (h.cell (p := ⟨b, off + m * 3 + 2, none⟩) hbQ).trans c2⟩
              clear hin c0 c1 c2 d0 hv hS hyes hno hsp hrow hownS
              cases q : sameR row y
              · have HE := Lib.hid (Hno.out q)
                rw [q] at KS
                go_wp2_with fail
                refine wp_region_below (by kernel_rfl) (by kernel_rfl) ?_
                repeat (go_big_quiet_step ((go_at_call 48; exact calls_bw _ (KS.out _ (Subtype.property _)))))
                refine wpQuiet_nil ?_
                rintro Y1 ⟨⟨_, hbY⟩, rfl⟩
                clear e0 e1
                go_wp2_with fail
                go_roundw
                case rel => exact ⟨m + 1, by go_num, Hlm.out, Lib.hid (by rw [HE.out]; exact own_below HownS.out hbY (Nat.le_refl _)), Lib.hid (HQ.out.trans (hbY.mono HQ.out.size))⟩
                case measure => have := Hlm.out; simp [intOf]; omega
              · have HE := Lib.hid (Hyes.out q)
                rw [q] at KS
                go_wp2_with fail
                refine wp_region_below (by kernel_rfl) (by kernel_rfl) ?_
                repeat (go_big_quiet_step ((go_at_call 48; exact calls_bw _ (KS.out _ (Subtype.property _)))))
                refine wpQuiet_nil ?_
                rintro Y1 ⟨⟨_, hbY⟩, rfl⟩
                obtain ⟨c1, c2⟩ := C1.out _ hbY
                have hown1 := own_below HownS.out hbY (Nat.le_refl _)
                have hY1 := HQ.out.trans (hbY.mono HQ.out.size)
                have hz1 := hY1.size
                clear e0 e1 hbY
                go_wp2_with (at_builtin; refine append1 tSpans tSpanInfo rfl (by omega) (by omega) rfl _ _ (by rfl) Y.heap.size _ sp.length (flat sp) [.int .i64 s1, .int .i64 s2] (by rfl) hown1 (by rfl) (by rfl) (by rfl) rfl (by simp [Value.oneCell']) hsp9 hz1 ?_; intro v8 w8 hown8 hb8 _ _)
                go_roundw
                case rel => exact ⟨m + 1, by go_num, Hlm.out, Lib.hid (by rw [HE.out, flat_snoc, List.length_append]; exact hown8), Lib.hid (hY1.trans hb8)⟩
                case measure => have := Hlm.out; simp [intOf]; omega
            · obtain rfl : m = F.length := by omega
              have hspok : ∀ s ∈ spnN F y F.length, OkSp s := fun s hs => by
                obtain ⟨i, hi, _, rfl⟩ := (spnN_mem F y F.length s).1 hs
                exact Hok.out _ (fc_mem hi)
              have KO := Lib.hid (r12OfO_c _ (spnN F y F.length) Q (spans_of_own HSp.out) (by omega) hspok)
              have HG := Lib.hid (HO3.out.below HQ.out)
              clear hspok
              go_wp2_with fail
              refine KO.out.mono ?_
              rintro e W9 ⟨C, vc, hc1, hc2, hc3, rfl, hcown, hb9⟩
              obtain ⟨Ac, kc, rfl, _, _⟩ := RowsIn.form (spans_of_own hcown)
              have HNx := Lib.hid (Hnext.out C hc1 hc2 (by omega))
              have hcl : C.length ≤ 2 * F.length := by omega
              have HG9 := Lib.hid (HG.out.below hb9)
              have HX9 := Lib.hid (HXQ.out.trans (hb9.mono HXQ.out.size))
              have HCo := Lib.hid hcown
              have HzX := Lib.hid HXQ.out.size
              have HGl : Hid (G.length ≤ L.length * (2 * F.length)) := Lib.hid (by
                have h1 := HN.out.len
                rw [List.length_map] at h1
                exact Nat.le_trans h1 (Nat.mul_le_mul_right _ hj))
              have hLF : L.length * (2 * F.length) ≤ 1000 * (2 * 1000) := Nat.mul_le_mul (Nat.le_trans Hll.out hn) (Nat.mul_le_mul_left 2 hn)
              clear hc1 hc2 hc3 hcown hb9 hsl KO
              go_wp2_with fail
              go_loopw [8, 14] (fun o i Z => ∃ (m : Nat) (G' : List Fx), i = .int .i64 (m : Int) ∧ m ≤ C.length ∧ Hid (OwnsFx Z X.heap.size o G') ∧ Hid (G'.map (·.2) = G.map (·.2) ++ (C.take m).map fun s => (y, s)) ∧ Hid (Z.ownsRow Q.heap.size 34 2 (.slice Ac C.length kc) C.length (flat C)) ∧ Hid (Below X.heap.size X Z)) (fun _ i _ => C.length - (intOf i).toNat)
              case atStart => exact ⟨0, G, rfl, Nat.zero_le _, HG9, Lib.hid (by simp), HCo, HX9⟩
              case round =>
                obtain ⟨m, G', rfl, hm, HG', HE, HC, HZ⟩ := hrel
                rename World => Z
                by_cases hlc : m < C.length
                · obtain ⟨gc, capc, hce, _, hgl, _, _⟩ := own_formG HC.out (by omega)
                  injection hce with hce hce2 hce3
                  subst hce
                  have s0 := (spans_of_own HC.out).c0 m hlc
                  have s1 := (spans_of_own HC.out).c1 m hlc
                  have HT : Hid ((C.take (m + 1)).map (fun s => (y, s)) = (C.take m).map (fun s => (y, s)) ++ [(y, (fr C m, tt C m))]) := Lib.hid (by
                    rw [List.take_succ_eq_append_getElem hlc, List.map_append, fr_tt_at hlc]
                    rfl)
                  rw [Nat.zero_add] at s0 s1
                  generalize fr C m = a at s0 HT
                  generalize tt C m = b at s1 HT
                  have d0 := D0.out Z HZ.out
                  have hboZ : bo < Z.heap.size := Nat.lt_of_lt_of_le hbo HZ.out.size
                  have hGl9 : G'.length < 900000000 := by
                    have h1 := congrArg List.length HE.out
                    rw [List.length_map, List.length_append, List.length_map, List.length_map, List.length_take] at h1
                    have := HGl.out
                    omega
                  have FC : Hid (∀ Z' : World, Z'.heap[bo]? = Z.heap[bo]? → Z'.heap[gc]? = Z.heap[gc]? → Z'.cell? ⟨bo, oo + j, none⟩ = some (.slice A2 y.length p2) ∧ Z'.cell? ⟨gc, m * 2, none⟩ = some (.int .i64 a) ∧ Z'.cell? ⟨gc, m * 2 + 1, none⟩ = some (.int .i64 b)) := Lib.hid fun Z' h1 h2 => ⟨(World.cell?_of_block h1).trans d0, (World.cell?_of_block h2).trans s0, (World.cell?_of_block h2).trans s1⟩
                  have FB : Hid (∀ Z', Below Z.heap.size Z Z' → Z'.cell? ⟨bo, oo + j, none⟩ = some (.slice A2 y.length p2) ∧ Z'.cell? ⟨gc, m * 2, none⟩ = some (.int .i64 a) ∧ Z'.cell? ⟨gc, m * 2 + 1, none⟩ = some (.int .i64 b)) := Lib.hid fun Z' h => FC.out Z' (h.block _ hboZ) (h.block _ hgl)
                  have Hoo := Lib.hid (fun b hb => World.ownsRow.lt HG'.out.own b hb)
                  have Htag := Lib.hid (fun b (h1 : (Value.slice (some ⟨gc, 0, none⟩) C.length kc).ownBlock = some b) h2 => own_tag HC.out HG'.out.own (by decide) h1 h2)
                  have HvZ : Hid (IsVals Z (.slice A2 y.length p2) y) := Lib.hid (Hv2.out.below (HB.out.trans (HZ.out.mono HB.out.size)))
                  have HvB : Hid (∀ q, sblk (.slice A2 y.length p2) = some q → q < w.heap.size) := Lib.hid fun q hq => Hv2.out.blk_lt Hyp.out q hq
                  have HwX : Hid (w.heap.size ≤ X.heap.size) := Lib.hid HB.out.size
                  have HXZ : Hid (X.heap.size ≤ Z.heap.size) := Lib.hid HZ.out.size
                  have kb : Below Z.heap.size Z Z := Below.refl _ _
                  have Hlc := Lib.hid hlc; have Hgl := Lib.hid hgl
                  clear s0 s1 d0 hce2 hce3 hgl
                  go_wp2_with fail
                  go_region_held3 (fun Z' => Z'.cell? ⟨bo, oo + j, none⟩ = some (.slice A2 y.length p2) ∧ Z'.cell? ⟨gc, m * 2, none⟩ = some (.int .i64 a) ∧ Z'.cell? ⟨gc, m * 2 + 1, none⟩ = some (.int .i64 b)) ((first | exact FB.out _ kb | exact FB.out _ kb.drew | exact FB.out _ (kb.drew.alloc kb.drew.size _) | exact FB.out _ (kb.alloc kb.size _).drew | exact FB.out _ (kb.alloc kb.size _) | exact HS7)) (first
                    | ((try rw [if_pos (by rfl)]); refine append_fx_wd _ _ (by rfl) X.heap.size _ G' (by rfl) HG'.out (f := (y, (a, b))) (by rfl) HvZ.out (fun q hq => ⟨by have h1 := HvB.out q hq; have h2 := HwX.out; have h3 := HXZ.out; omega, fun e => by have h1 := (Hoo.out q e).1; have h2 := HvB.out q hq; have h3 := HwX.out; omega⟩) (by rfl) (by rfl) hGl9 HXZ.out (fun v7 w7 hown7 hb7 hbk7 => ?_); have HS7 := FC.out w7 (hbk7 bo hboZ (fun e => Nat.lt_irrefl _ (Nat.lt_of_lt_of_le hbo (Hoo.out _ e).1))) (hbk7 gc Hgl.out (fun e => Htag.out gc (by rfl) e))))
                  all_goals
                    have HC7 := Lib.hid (own_blocks HC.out (fun g hg => hbk7 g (World.ownsRow.lt HC.out g hg).2 (fun e => Htag.out g hg e)))
                    have HO7 := Lib.hid hown7
                    have HZ7 := Lib.hid (HZ.out.trans hb7)
                    clear hown7 hb7 hbk7
                    go_wp2_with fail
                    go_roundw
                    case rel => exact ⟨m + 1, _, by go_num, Hlc.out, HO7, Lib.hid (by rw [List.map_append, HE.out, HT.out, List.append_assoc]; rfl), HC7, HZ7⟩
                    case measure => have := Hlc.out; simp [intOf]; omega
                · obtain rfl : m = C.length := by omega
                  have HE' : Hid (NrmAt F L (j + 1) (G'.map (·.2))) := Lib.hid (by rw [HE.out, List.take_length]; exact HNx.out)
                  go_wp2_with fail
                  go_roundw
                  case rel => exact ⟨j + 1, G', by go_num, Hlj.out, HG', HE', HZ⟩
                  case measure => have := Hlj.out; simp [intOf]; omega
        · obtain rfl : j = L.length := by omega
          subst hoe
          have hdn := Hdone.out _ HN.out
          have hlen := HN.out.len
          have HFs := Lib.hid (HO3.out.fs)
          have HB' := Lib.hid (HB.out.trans (HY.out.mono HB.out.size))
          have HDn := Lib.hid hdn
          have HLn : Hid ((G.map (·.2)).length ≤ F.length * (2 * F.length)) := Lib.hid (Nat.le_trans hlen (Nat.mul_le_mul_right _ Hll.out))
          clear hdn hlen
          go_wp2_with fail
          go_ret
          exact ⟨_, _, rfl, HDn.out, HLn.out, HFs.out, HB'.out⟩
end Go.Proofs.YtohjgegnamcnlaaGreat
