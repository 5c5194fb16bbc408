/- The walk of sweep.Depth. -/
import Derived.Test.YtahpcepnagpbdaaSwH
import Derived.Test.YtahpcepnagpbdaaFewP
import Derived.Test.YtahpcepnagpbdaaRunsR
namespace Go.Proofs.Ytahpcepnagpbdaa
open Go.RowKit Go.Shelf

theorem append_two {P : Program} {tS tE : TypeId} (hS : P.underlying tS = some (.slice tE)) (hE : (P.info? tE).map (fun i => (i.zero, i.size, i.bytes)) = some (some (.agg #[.int .i64 0, .int .i64 0]), 2, 16))
    {ops : Array Oper} {rest : List Oper} {o : Oper} {a : Act} {Q : Exit → Act → World → Prop} (hgd : o.guard = none) (s x : Operand)
    (ho : o.op = .call { callee := .builtin .append, args := #[s, x], argTypes := #[tS, tS] })
    {w : World} (base : Nat) (v : Value) (l : List Sp) (p q p' q' : Int) (hs : a.eval s = v) (hown : w.ownsRow base tE 2 v l.length (flat l))
    (hx : a.eval x = .slice (some ⟨w.heap.size, 0, none⟩) 2 2) (hlen : l.length < 900000000) (hbase : base ≤ w.heap.size)
    (h : ∀ v' w', w'.ownsRow base tE 2 v' (l ++ [(p, q), (p', q')]).length (flat (l ++ [(p, q), (p', q')])) → Below base w w' → wpList P ops Q rest (a.put o.dst v') w') :
    wpList P ops Q (o :: rest) a (w.alloc (.cells #[.int .i64 p, .int .i64 q, .int .i64 p', .int .i64 q'] tE)) := by
  refine append_rows hS hE rfl (by omega) (by omega) hgd s x ho base v l.length (flat l) hs (hown.alloc _) (some ⟨w.heap.size, 0, none⟩) 2 2 hx
    [.int .i64 p, .int .i64 q, .int .i64 p', .int .i64 q'] rfl (fun h => by cases h) ?_ (by simp [Value.oneCell']) (by omega) (by simp; omega) ?_
  · intro ad had j u hu
    injection had with had
    subst had
    rcases j with _ | _ | _ | _ | j <;> simp at hu <;> subst hu <;> simp [Addr.add]
  · intro v' w' hown' hb
    refine h v' w' ?_ (((Below.refl base w).alloc hbase _).trans hb)
    have e : flat (l ++ [(p, q), (p', q')]) = flat l ++ [.int .i64 p, .int .i64 q, .int .i64 p', .int .i64 q'] := by simp [flat]
    rw [e]; simpa using hown'

def DepRet (l : List Sp) (w : World) (e : Ending) (w' : World) : Prop := ∃ F v, (if rightB l = true then DepRes l F else F = []) ∧ e = .returned v ∧ IsFacts w' v F ∧ Below w.heap.size w w'
theorem evL_take {l : List Sp} {k : Nat} (hk : k < l.length) : evL (l.take (k + 1)) = evL (l.take k) ++ [(fr l k, 1), (tt l k, -1)] := by
  rw [List.take_succ_eq_append_getElem hk, evL_snoc, sp_at l k hk]
theorem evL_take_len (l : List Sp) (k : Nat) : (evL (l.take k)).length ≤ k * 2 := by
  rw [evL_len, List.length_take]; omega
theorem dRun_more {l : List Sp} {E : List Int} {F : List Dep} {D G x : Int} (h : dRun l E = ⟨F, D, G⟩) : dRun l (E ++ [x]) = if atS l x = D then ⟨F, D, G⟩ else ⟨if 0 < D then F ++ [(D, (G, x))] else F, atS l x, x⟩ := by
  rw [dRun_snoc, h, dStep]

set_option maxRecDepth 100000 in
set_option maxHeartbeats 4000000 in
theorem sDepth_c (v : Value) (l : List Sp) (w : World) (hs : IsSpans w v l) : Calls Try.prog 19 #[v] w (DepRet l w) := by
  obtain ⟨A, c, rfl, hnc, hc⟩ := hs.form
  cases hr : rightB l
  · have hcall := sright_c (.slice A l.length c) l w hs
    rw [hr] at hcall
    have Hcall := Lib.hid hcall; clear hcall
    have Hr := Lib.hid hr; clear hr
    go_enter Try.func19, Try.ntmps19
    go_wp2_with fail
    refine Hcall.out.mono ?_
    rintro e w1 ⟨rfl, hb⟩
    go_wp2
    go_ret
    exact ⟨[], _, by rw [Hr.out]; rfl, rfl, IsFacts.nil _, hb⟩
  · have hcall := sright_c (.slice A l.length c) l w hs
    have hl := rightB_len hr
    have hok : ∀ s ∈ l, s.1 < s.2 := fun s hs => by
      have := (okSpan_iff s).1 (List.all_eq_true.1 (rightB_ok hr) s hs); unfold OkSp at this; omega
    have Hok := Lib.hid hok; clear hok
    rw [hr] at hcall
    have Hcall := Lib.hid hcall; clear hcall
    have Hr := Lib.hid hr; clear hr
    go_enter Try.func19, Try.ntmps19
    go_wp2_with fail
    refine Hcall.out.mono ?_
    rintro e w1 ⟨rfl, hb1⟩
    have hs1 := hs.below hb1
    clear hs
    go_wp2
    go_loopw [3, 17] (fun o i wr => ∃ k : Nat, i = .int .i64 k ∧ k ≤ l.length ∧ wr.ownsRow w1.heap.size 83 2 o (evL (l.take k)).length (flat (evL (l.take k))) ∧ Below w1.heap.size w1 wr) (fun _ i _ => l.length - (intOf i).toNat)
    case atStart => exact ⟨0, rfl, Nat.zero_le _, own_nil _ _ _ _, Below.refl _ _⟩
    case round =>
      obtain ⟨k, rfl, hk, hown, hbw⟩ := hrel
      by_cases hlt : k < l.length
      · obtain ⟨b, off, rfl, hbk⟩ := hs1.addr (by omega)
        have c0 := (hs1.below hbw).c0 k hlt
        have c1 := (hs1.below hbw).c1 k hlt
        have Het := Lib.hid (evL_take hlt)
        have hel := evL_take_len l k
        generalize fr l k = p at *
        generalize tt l k = q at *
        have hown1 := hown.alloc (.cells #[.int .i64 p, .int .i64 q] 31)
        have hal := (Below.refl w1.heap.size wr).alloc hbw.size (.cells #[.int .i64 p, .int .i64 q] 31)
        have b0 : (wr.alloc (.cells #[.int .i64 p, .int .i64 q] 31)).cell? ⟨wr.heap.size, 0, none⟩ = some (.int .i64 p) := by simp
        have b1 : (wr.alloc (.cells #[.int .i64 p, .int .i64 q] 31)).cell? ⟨wr.heap.size, 1, none⟩ = some (.int .i64 q) := by simp
        generalize hw4 : wr.alloc (.cells #[.int .i64 p, .int .i64 q] 31) = w4 at *
        have hbs := (hbw.trans hal).size
        go_wp2_with (at_builtin; refine append_two Try.underlying81 tEventInfo (by rfl) (.tmp 21) (.tmp 28) (by rfl) w1.heap.size _ (evL (l.take k)) p 1 q (-1) (by rfl) hown1 (by rfl) (by omega) hbs ?_; intro v3 w3 hown3 hb3)
        go_roundw
        case rel => exact ⟨k + 1, by go_num, by omega, by rw [Het.out]; exact hown3, (hbw.trans hal).trans hb3⟩
        case measure => simp [intOf]; omega
      · obtain rfl : k = l.length := by omega
        rw [List.take_length] at hown
        have hel := evL_len l
        go_wp2_with fail
        refine (slSortEvent_c _ (evL l) wr w1.heap.size hown (by omega)).mono ?_
        rintro e w3 ⟨rfl, ev, hp, hpw, hown3, hb3⟩
        have hv : EvOf l ev := ⟨hp, hpw, Hok.out⟩
        have hLl : ev.length = (evL l).length := hp.length_eq
        have hr3 := rows_own hown3 hLl.symm
        rw [← hLl] at hr3
        have hn2 : ev.length = l.length * 2 := hv.len
        obtain ⟨A3, cap3, rfl, hncap, hcap⟩ := hr3.form
        have hB3 : Below w.heap.size w w3 := hb1.trans ((hbw.trans hb3).mono hb1.size)
        have HB3 := Lib.hid hB3; have Hv := Lib.hid hv; have HLl := Lib.hid hLl
        clear hp hpw hown3 hown hbw hb3 hb1 hv hB3 hLl
        go_wp2_with fail
        go_loopw [6, 7, 8, 9] (fun o d f i wr => ∃ (k : Nat) (E : List Int) (F : List Dep) (D G : Int), i = .int .i64 k ∧ d = .int .i64 D ∧ f = .int .i64 G ∧ Hid (dRun l E = ⟨F, D, G⟩) ∧ Hid (DInv l ev k E) ∧ OwnsF wr w3.heap.size o F ∧ F.length ≤ k ∧ Below w3.heap.size w3 wr) (fun _ _ _ i _ => ev.length - (intOf i).toNat)
        case atStart => exact ⟨0, [], [], 0, 0, rfl, rfl, rfl, rfl, dinv_zero l ev, OwnsF.nil _ _, Nat.le_refl _, Below.refl _ _⟩
        case round =>
          obtain ⟨k, E, F, D, G, rfl, rfl, rfl, HD, HI, hown, hF, hbw⟩ := hrel
          have hke := HI.out.le
          have hDs : D = sumS (ev.take k) := by have := HI.out.sum; rw [HD.out] at this; exact this
          have hDb := Hv.out.sum_bd k
          rw [← hDs] at hDb
          by_cases hlt : k < ev.length
          · obtain ⟨b, off, rfl, hbk⟩ := hr3.addr (by omega)
            have c0 := (hr3.below hbw).s0 k hlt
            obtain ⟨P, hP⟩ : ∃ P, P = eAt ev k := ⟨_, rfl⟩
            have HP := Lib.hid hP
            rw [show fr ev k = P from hP.symm] at c0
            clear hP
            have HDs := Lib.hid hDs; clear hDs
            go_wp2_with fail
            go_loop [9, 11] (fun i n => ∃ (j : Nat) (N : Int), i = .int .i64 j ∧ n = .int .i64 N ∧ j ≤ ev.length ∧ Hid (DGrp ev k j P) ∧ Hid (N = sumS (ev.take j))) (fun i _ => ev.length - (intOf i).toNat)
            case atStart => exact ⟨k, D, rfl, rfl, hke, dgrp_zero _ _ _, HDs.out⟩
            case round =>
              obtain ⟨j, N, rfl, rfl, hj, HG, HN⟩ := hrel
              have hNb := Hv.out.sum_bd j
              rw [← HN.out] at hNb
              by_cases hin : j < ev.length ∧ eAt ev j = P
              · obtain ⟨hjl, he⟩ := hin
                have d0 := (hr3.below hbw).s0 j hjl
                have d1 := (hr3.below hbw).s1 j hjl
                rw [show fr ev j = eAt ev j from rfl] at d0
                rw [show tt ev j = eSt ev j from rfl] at d1
                rw [he] at d0
                have hG2 := Lib.hid (dgrp_step HG.out he)
                have hN2 := Lib.hid (sum_step hjl)
                have h1 := Hv.out.step1 hjl
                generalize hS : eSt ev j = S at *
                clear hS
                have HN3 : Hid (N + S = sumS (ev.take (j + 1))) := by rw [hN2.out, ← HN.out]; exact rfl
                clear hN2 HN he
                go_wp2
                go_round
                case rel => exact ⟨j + 1, by go_num, by omega, hG2, HN3⟩
                case measure => simp [intOf]; omega
              · have hkj : k < j := by
                  rcases Nat.eq_or_lt_of_le HG.out.le with h | h
                  · subst h; exact absurd ⟨hlt, HP.out.symm⟩ hin
                  · exact h
                obtain ⟨hNa, hI2⟩ := dinv_group Hv.out HI.out HG.out hkj hj (fun h e => hin ⟨h, e⟩)
                rw [← HN.out] at hNa
                have hdr := dRun_more (x := P) HD.out
                rw [← hNa] at hdr
                have HI2 := Lib.hid hI2; have HE := Lib.hid (show True from trivial)
                clear hI2 hNa HN HG HD HI HDs
                have hex : (∃ X, w3.cell? ⟨b, off + j * 2, none⟩ = some (.int .i64 X) ∧ ¬ X = P ∧ j < ev.length) ∨ j = ev.length := by
                  by_cases hjl : j < ev.length
                  · exact .inl ⟨_, hr3.s0 j hjl, fun e => hin ⟨hjl, e⟩, hjl⟩
                  · exact .inr (by omega)
                clear hin
                rcases hex with ⟨X, d0, he, hjl⟩ | hjl
                · have d0 := (hbw.cell (p := ⟨b, off + j * 2, none⟩) hbk).trans d0
                  by_cases hnd : N = D
                  · rw [if_pos hnd] at hdr
                    have Hdr := Lib.hid hdr; clear hdr
                    subst hnd
                    go_wp2
                    go_roundw
                    case rel => exact ⟨j, E ++ [P], F, N, G, rfl, rfl, rfl, Hdr, HI2, hown, by omega, hbw⟩
                    case measure => simp [intOf]; omega
                  · rw [if_neg hnd] at hdr
                    by_cases hpos : 0 < D
                    · rw [if_pos hpos] at hdr
                      have Hdr := Lib.hid hdr; clear hdr
                      have hbs := hbw.size
                      go_wp2_with (at_builtin; refine append_fact tFacts tFactInfo (by rfl) (.tmp 70) (.tmp 78) (by rfl) w3.heap.size _ F D G P (by rfl) hown (by rfl) (by omega) hbs ?_; intro v5 w5 hown5 hb5)
                      go_roundw
                      case rel => exact ⟨j, E ++ [P], F ++ [(D, (G, P))], N, P, rfl, rfl, rfl, Hdr, HI2, hown5, by simp; omega, hbw.trans hb5⟩
                      case measure => simp [intOf]; omega
                    · rw [if_neg hpos] at hdr
                      have Hdr := Lib.hid hdr; clear hdr
                      go_wp2
                      go_roundw
                      case rel => exact ⟨j, E ++ [P], F, N, P, rfl, rfl, rfl, Hdr, HI2, hown, by omega, hbw⟩
                      case measure => simp [intOf]; omega
                · subst hjl
                  by_cases hnd : N = D
                  · rw [if_pos hnd] at hdr
                    have Hdr := Lib.hid hdr; clear hdr
                    subst hnd
                    go_wp2
                    go_roundw
                    case rel => exact ⟨ev.length, E ++ [P], F, N, G, by go_num, rfl, rfl, Hdr, HI2, hown, by omega, hbw⟩
                    case measure => simp [intOf]; omega
                  · rw [if_neg hnd] at hdr
                    by_cases hpos : 0 < D
                    · rw [if_pos hpos] at hdr
                      have Hdr := Lib.hid hdr; clear hdr
                      have hbs := hbw.size
                      go_wp2_with (at_builtin; refine append_fact tFacts tFactInfo (by rfl) (.tmp 70) (.tmp 78) (by rfl) w3.heap.size _ F D G P (by rfl) hown (by rfl) (by omega) hbs ?_; intro v5 w5 hown5 hb5)
                      go_roundw
                      case rel => exact ⟨ev.length, E ++ [P], F ++ [(D, (G, P))], N, P, by go_num, rfl, rfl, Hdr, HI2, hown5, by simp; omega, hbw.trans hb5⟩
                      case measure => simp [intOf]; omega
                    · rw [if_neg hpos] at hdr
                      have Hdr := Lib.hid hdr; clear hdr
                      go_wp2
                      go_roundw
                      case rel => exact ⟨ev.length, E ++ [P], F, N, P, by go_num, rfl, rfl, Hdr, HI2, hown, by omega, hbw⟩
                      case measure => simp [intOf]; omega
          · obtain rfl : k = ev.length := by omega
            have hres := dinv_done Hv.out HI.out
            rw [HD.out] at hres
            have Hres := Lib.hid hres
            have Hfin := Lib.hid (HB3.out.trans (hbw.mono HB3.out.size))
            have hfa := hown.facts
            clear hres HD HI hDs hDb
            go_wp2
            go_ret
            refine ⟨F, _, ?_, rfl, hfa, Hfin.out⟩
            rw [if_pos Hr.out]; exact Hres.out
end Go.Proofs.Ytahpcepnagpbdaa
