/- The walk of the reference's Pack, and its plain law: the earliest packing of the spans inside. -/
import Derived.Test.YtahpcepnagpbdaaSwC
import Derived.Test.YtahpcepnagpbdaaRunsR
namespace Go.Proofs.Ytahpcepnagpbdaa
open Go.RowKit Go.Shelf
open Go.Sort (grow)

theorem r44common_c (p q r s : Int) (w : World) : Calls Try.prog 58 #[.agg #[.int .i64 p, .int .i64 q], .agg #[.int .i64 r, .int .i64 s]] w (Ret w (.bool (comSp (p, q) (r, s)))) := by
  cases h1 : decide (p < s)
  · have e : comSp (p, q) (r, s) = false := by unfold comSp; rw [h1]; rfl
    rw [e]; clear e
    have h1' : s ≤ p := by simpa using h1
    clear h1
    go_enter Try.func58, Try.ntmps58
    go_wp2
    go_ret
    exact ⟨rfl, ((Below.refl _ _).alloc (Nat.le_refl _) _).alloc (by simp) _⟩
  · have e : comSp (p, q) (r, s) = decide (r < q) := by unfold comSp; rw [h1]; rfl
    rw [e]; clear e
    have h1' : p < s := by simpa using h1
    clear h1
    go_enter Try.func58, Try.ntmps58
    go_wp2
    go_ret
    exact ⟨rfl, ((Below.refl _ _).alloc (Nat.le_refl _) _).alloc (by simp) _⟩

/-! ### the plain law -/
def meetB (l : List Sp) (P : List Nat) (i : Nat) : Bool := P.any fun j => comSp (sp l j) (sp l i)
def pkR (l : List Sp) (s : Sp) (P : List Nat) (i : Nat) : List Nat := if insideB s (sp l i) = true then (if meetB l P i = true then P else P ++ [i]) else P
def packR (l : List Sp) (s : Sp) (L : List Nat) : List Nat := L.foldl (pkR l s) []
theorem packR_snoc (l : List Sp) (s : Sp) (L : List Nat) (i : Nat) : packR l s (L ++ [i]) = pkR l s (packR l s L) i := by simp [packR]
theorem packR_sub {l : List Sp} {s : Sp} : ∀ {L : List Nat}, (packR l s L).length ≤ L.length ∧ ∀ j ∈ packR l s L, j ∈ L := by
  intro L
  induction L using snocRec with
  | nil => exact ⟨Nat.le_refl _, fun j hj => by simp [packR] at hj⟩
  | snoc L i ih =>
    rw [packR_snoc]
    have h1 : ∀ P : List Nat, (pkR l s P i).length ≤ P.length + 1 ∧ ∀ j ∈ pkR l s P i, j ∈ P ∨ j = i := fun P => by
      unfold pkR
      split
      · split
        · exact ⟨by omega, fun j hj => .inl hj⟩
        · exact ⟨by simp, fun j hj => by simpa using hj⟩
      · exact ⟨by omega, fun j hj => .inl hj⟩
    refine ⟨by have := (h1 (packR l s L)).1; simp; omega, fun j hj => ?_⟩
    rcases (h1 _).2 j hj with h | h
    · exact List.mem_append_left _ (ih.2 j h)
    · rw [h]; simp
/-- Along a list in the order of the ends the two packings are one. -/
theorem packR_eq {l : List Sp} {s : Sp} (hl : ∀ j, (sp l j).1 < (sp l j).2 ∨ l.length ≤ j) : ∀ {L : List Nat}, L.Pairwise (fun i j => tt l i ≤ tt l j) → (∀ j ∈ L, j < l.length) →
    packR l s L = packL l (L.filter fun i => insideB s (sp l i)) ∧ (packL l (L.filter fun i => insideB s (sp l i))).Pairwise (fun i j => tt l i ≤ tt l j) := by
  intro L
  induction L using snocRec with
  | nil => intro _ _; exact ⟨rfl, List.Pairwise.nil⟩
  | snoc L i ih =>
    intro hp hlt
    have hp' := List.pairwise_append.1 hp
    obtain ⟨h1, h2⟩ := ih hp'.1 fun j hj => hlt j (by simp [hj])
    rw [packR_snoc, List.filter_append, List.filter_cons]
    have hi := hlt i (by simp)
    cases hin : insideB s (sp l i)
    · rw [if_neg (by exact Bool.false_ne_true), List.filter_nil, List.append_nil, pkR, if_neg (by rw [hin]; exact Bool.false_ne_true)]
      exact ⟨h1, h2⟩
    · rw [if_pos rfl, List.filter_nil, packL_snoc, pkR, if_pos hin, h1]
      generalize hP : packL l (L.filter fun i => insideB s (sp l i)) = P at *
      have hPm : ∀ j ∈ P, j ∈ L := fun j hj => by
        rw [← hP] at hj
        exact (List.mem_filter.1 (packL_mem hj)).1
      have hle : ∀ j ∈ P, tt l j ≤ tt l i := fun j hj => hp'.2.2 j (hPm j hj) i (by simp)
      have hiv : fr l i < tt l i := by
        rcases hl i with h | h
        · exact h
        · omega
      have key : meetB l P i = !pkOk l P i := by
        by_cases h0 : P.length = 0
        · obtain rfl := List.length_eq_zero_iff.1 h0
          rfl
        · have hlast : ix P (P.length - 1) ∈ P := ix_mem (by omega)
          have e : pkOk l P i = decide (tt l (ix P (P.length - 1)) ≤ fr l i) := by
            unfold pkOk
            rw [show (P.length == 0) = false from by rw [beq_eq_false_iff_ne]; exact h0, Bool.false_or]; rfl
          rw [e]
          by_cases hd : tt l (ix P (P.length - 1)) ≤ fr l i
          · rw [decide_eq_true hd]
            show meetB l P i = false
            unfold meetB
            rw [List.any_eq_false]
            intro j hj
            have hjl : tt l j ≤ tt l (ix P (P.length - 1)) := by
              obtain ⟨k, hk, rfl⟩ := List.mem_iff_getElem.1 hj
              rcases Nat.eq_or_lt_of_le (show k ≤ P.length - 1 by omega) with h | h
              · rw [← ix_at (by omega)]; simp only [h]; exact Int.le_refl _
              · have := (List.pairwise_iff_getElem.1 h2) k (P.length - 1) (by omega) (by omega) h
                rw [← ix_at (by omega)]; exact this
            have hjl' : (sp l j).2 ≤ tt l (ix P (P.length - 1)) := hjl
            have hd' : tt l (ix P (P.length - 1)) ≤ (sp l i).1 := hd
            unfold comSp
            simp only [Bool.and_eq_true, decide_eq_true_eq]
            omega
          · rw [decide_eq_false hd]
            show meetB l P i = true
            unfold meetB
            rw [List.any_eq_true]
            refine ⟨_, hlast, ?_⟩
            have h3 := hle _ hlast
            have h4 : fr l (ix P (P.length - 1)) < tt l (ix P (P.length - 1)) := by
              rcases hl (ix P (P.length - 1)) with h | h
              · exact h
              · have := hlt _ (List.mem_append_left _ (hPm _ hlast)); omega
            show comSp (fr l _, tt l _) (fr l i, tt l i) = true
            unfold comSp
            simp only [Bool.and_eq_true, decide_eq_true_eq]
            omega
      rw [key]
      unfold pk
      cases hk : pkOk l P i
      · exact ⟨rfl, h2⟩
      · refine ⟨rfl, ?_⟩
        show (P ++ [i]).Pairwise _
        rw [List.pairwise_append]
        exact ⟨h2, List.pairwise_singleton _ _, fun a ha b hb => by rw [List.mem_singleton.1 hb]; exact hle a ha⟩
theorem pack_ref {l : List Sp} {s : Sp} {L M : List Nat} (ho : l.all okSpan = true) (hL : OrdOf (fun j => (sp l j).2) (List.range l.length) L) (hM : OrdOf (fun j => (sp l j).2) (pickL l (insideB s) l.length) M) : packR l s L = packL l M := by
  have h1 : M = L.filter fun i => insideB s (sp l i) := ord_one hM (ord_filter hL _)
  rw [h1]
  refine (packR_eq (fun j => ?_) (hL.asc.imp lex_le) fun j hj => List.mem_range.1 (hL.perm.mem_iff.1 hj)).1
  rcases Nat.lt_or_ge j l.length with h | h
  · have := okS_all ho _ (idx_mem h)
    unfold OkSp at this
    exact .inl this.2.1
  · exact .inr h

theorem meet_take {l : List Sp} {P : List Nat} {i m : Nat} (hm : m < P.length) : meetB l (P.take (m + 1)) i = (meetB l (P.take m) i || comSp (sp l (ix P m)) (sp l i)) := by
  rw [take_ix hm]; unfold meetB; simp
set_option maxRecDepth 100000 in
set_option maxHeartbeats 2000000 in
theorem r44Pack_c (v : Value) (l : List Sp) (p q : Int) (w : World) (hs : IsSpans w v l) (hl : l.length ≤ 100000) :
    Calls Try.prog 22 #[v, .agg #[.int .i64 p, .int .i64 q]] w (IdxRet w (fun r => ∃ L, OrdOf (fun j => (sp l j).2) (List.range l.length) L ∧ r = packR l (p, q) L)) := by
  obtain ⟨A, c, rfl, hnc, hc⟩ := hs.form
  go_enter Try.func22, Try.ntmps22
  go_wp2_with fail
  refine (r44order_c _ l true _ (hs.alloc _) hl).mono ?_
  rintro e w1 ⟨L, v5, hL, rfl, hv5, hb⟩
  have x0 : w1.cell? ⟨w.heap.size, 0, none⟩ = some (.int .i64 p) := (hb.cell (p := ⟨w.heap.size, 0, none⟩) (by simp)).trans (by simp)
  have x1 : w1.cell? ⟨w.heap.size, 1, none⟩ = some (.int .i64 q) := (hb.cell (p := ⟨w.heap.size, 1, none⟩) (by simp)).trans (by simp)
  have hltb : w.heap.size < w1.heap.size := by have := hb.size; simp at this; omega
  have hB : Below w.heap.size w w1 := ((Below.refl _ _).alloc (Nat.le_refl _) _).trans (hb.mono (by simp))
  have hs1 := hs.below hB
  have hLl : L.length ≤ 100000 := by have := hL.perm.length_eq; simp at this; omega
  have hLlt : ∀ j, j < L.length → ix L j < l.length := fun j hj => List.mem_range.1 (hL.perm.mem_iff.1 (ix_mem hj))
  have HLlt := Lib.hid hLlt; clear hLlt
  have HLm := Lib.hid (fun j (hj : j ∈ L) => List.mem_range.1 (hL.perm.mem_iff.1 hj))
  have HL := Lib.hid hL; clear hL hb hs
  have hv5 := rows_idx hv5
  obtain ⟨B, cb, rfl, hcb, hcb2⟩ := hv5.form
  go_wp2_with fail
  go_loopw [6, 7] (fun v6 i wr => ∃ (k : Nat) (P : List Nat), i = .int .i64 k ∧ k ≤ L.length ∧ Hid (P = packR l (p, q) (L.take k)) ∧ OwnsIx wr w1.heap.size v6 P ∧ Below w1.heap.size w1 wr) (fun _ i _ => L.length - (intOf i).toNat)
  case atStart => exact ⟨0, [], rfl, Nat.zero_le _, rfl, own_nilI _ _ _, Below.refl _ _⟩
  case round =>
    obtain ⟨k, P, rfl, hk, HP, hown, hbw⟩ := hrel
    obtain ⟨wo, rfl⟩ : ∃ wo : World, wo = wr := ⟨_, rfl⟩
    by_cases hlt : k < L.length
    · obtain ⟨b, off, rfl, hbk⟩ := hv5.addr (by omega)
      have c0 := (hv5.below hbw).i0 k hlt
      rw [iv_ix hlt] at c0
      have hj := HLlt.out k hlt
      have hstep : packR l (p, q) (L.take (k + 1)) = pkR l (p, q) P (ix L k) := by rw [take_ix hlt, packR_snoc, HP.out]
      have hPlt : ∀ m, m < P.length → ix P m < l.length := fun m hm => HLm.out _ (List.mem_of_mem_take ((packR_sub (l := l) (s := (p, q)) (L := L.take k)).2 _ (by rw [← HP.out]; exact ix_mem hm)))
      have hPl : P.length ≤ k := by rw [HP.out]; have := (packR_sub (l := l) (s := (p, q)) (L := L.take k)).1; simp at this; omega
      have HPlt := Lib.hid hPlt; clear hPlt
      obtain ⟨j, hjx⟩ : ∃ j, j = ix L k := ⟨_, rfl⟩
      rw [← hjx] at c0 hj hstep
      have Hix : Hid (ix L k = j) := hjx.symm
      clear hjx
      obtain ⟨b2, off2, rfl, hb2⟩ := hs1.addr (by omega)
      have hsw := hs1.below hbw
      have d0 := hsw.c0 j hj
      have d1 := hsw.c1 j hj
      have x0 := (hbw.cell (p := ⟨w.heap.size, 0, none⟩) hltb).trans x0
      have x1 := (hbw.cell (p := ⟨w.heap.size, 1, none⟩) hltb).trans x1
      have hltb2 : w.heap.size < wo.heap.size := Nat.lt_of_lt_of_le hltb hbw.size
      have hown1 := hown.alloc (.cells #[.int .i64 (fr l j), .int .i64 (tt l j)] 31)
      have hal := (Below.refl w1.heap.size wo).alloc hbw.size (.cells #[.int .i64 (fr l j), .int .i64 (tt l j)] 31)
      have hbw1 := hbw.trans hal
      by_cases hin : p ≤ fr l j ∧ tt l j ≤ q
      · obtain ⟨hin1, hin2⟩ := hin
        have hst : pkR l (p, q) P j = if meetB l P j = true then P else P ++ [j] := by
          rw [pkR, if_pos]; unfold insideB sp; simp only [Bool.and_eq_true, decide_eq_true_eq]; exact ⟨hin1, hin2⟩
        rw [hst] at hstep
        have Hstep := Lib.hid hstep; clear hstep hst
        obtain ⟨F, hF⟩ : ∃ F, F = fr l j := ⟨_, rfl⟩
        obtain ⟨T, hT⟩ : ∃ T, T = tt l j := ⟨_, rfl⟩
        rw [← hF, ← hT] at hown1 hal hbw1
        rw [← hF] at d0 hin1
        rw [← hT] at d1 hin2
        have HF := Lib.hid hF; have HT := Lib.hid hT; clear hF hT
        have y0 : (wo.alloc (.cells #[.int .i64 F, .int .i64 T] 31)).cell? ⟨wo.heap.size, 0, none⟩ = some (.int .i64 F) := by simp
        have y1 : (wo.alloc (.cells #[.int .i64 F, .int .i64 T] 31)).cell? ⟨wo.heap.size, 1, none⟩ = some (.int .i64 T) := by simp
        have hys : wo.heap.size < (wo.alloc (.cells #[.int .i64 F, .int .i64 T] 31)).heap.size := by simp
        go_wp2_with fail
        generalize hw2 : wo.alloc (.cells #[.int .i64 F, .int .i64 T] 31) = w2 at *
        clear hw2 c0 d0 d1 x0 x1
        have hsw2 := hs1.below hbw1
        obtain ⟨C, cc, rfl, hcc⟩ := own_formX hown1
        go_loopw [9, 10] (fun fv i wr2 => ∃ (m : Nat) (fb : Bool), i = .int .i64 m ∧ m ≤ P.length ∧ fv = .bool fb ∧ Hid (fb = !meetB l (P.take m) j) ∧ Below w2.heap.size w2 wr2) (fun _ i _ => P.length - (intOf i).toNat)
        case atStart => exact ⟨0, true, rfl, Nat.zero_le _, rfl, rfl, Below.refl _ _⟩
        case round =>
          obtain ⟨m, fb, rfl, hm, rfl, Hfb, hb3⟩ := hrel
          by_cases hlt2 : m < P.length
          · obtain ⟨g, cap, he, hgb, hglt, _, _⟩ := hown1.form (by omega)
            injection he with e1 _ e3
            subst e1 e3
            have hown2 := hown1.below hb3
            have hglt2 := Nat.lt_of_lt_of_le hglt hb3.size
            have g0 := hown2.cell m hlt2
            have ht := HPlt.out m hlt2
            have hmt := meet_take (l := l) (i := j) hlt2
            rw [show sp l j = (F, T) from by rw [HF.out, HT.out]; rfl, show sp l (ix P m) = (fr l (ix P m), tt l (ix P m)) from rfl] at hmt
            have hsr := hsw2.below hb3
            have d0 := hsr.c0 _ ht
            have d1 := hsr.c1 _ ht
            have y0 := (hb3.cell (p := ⟨wo.heap.size, 0, none⟩) hys).trans y0
            have y1 := (hb3.cell (p := ⟨wo.heap.size, 1, none⟩) hys).trans y1
            have hys2 := Nat.lt_of_lt_of_le hys hb3.size
            have hbl : b2 < wr.heap.size := Nat.lt_of_lt_of_le (Nat.lt_of_lt_of_le hb2 hbw1.size) hb3.size
            have kC := fun (W : World) => r44common_c (fr l (ix P m)) (tt l (ix P m)) F T W
            generalize ix P m = t at *
            have e0 := fun x : BW wr => bw_cell x g0 hglt2
            have e2 := fun x : BW wr => bw_cell x d0 hbl
            have e3 := fun x : BW wr => bw_cell x d1 hbl
            have e4 := fun x : BW wr => bw_cell x y0 hys2
            have e5 := fun x : BW wr => bw_cell x y1 hys2
            clear g0 d0 d1 y0 y1
            cases hcm : comSp (fr l t, tt l t) (F, T)
            · rw [hcm, Bool.or_false] at hmt
              rw [hcm] at kC
              have KC := Lib.hid kC; have Hmt := Lib.hid hmt; clear kC hmt hcm
              go_wp2_with fail
              refine wp_region_below (by kernel_rfl) (by kernel_rfl) ?_
              repeat (go_big_quiet_step ((go_at_call 58; exact calls_bw _ (KC.out _))))
              refine wpQuiet_nil ?_
              rintro w5 ⟨⟨_, hb5⟩, rfl⟩
              have hb6 := hb3.trans (hb5.mono hb3.size)
              clear e0 e2 e3 e4 e5
              go_wp2
              go_roundw
              case rel => exact ⟨m + 1, fb, by go_num, hlt2, rfl, by rw [Hmt.out]; exact Hfb.out, hb6⟩
              case measure => simp [intOf]; omega
            · rw [hcm, Bool.or_true] at hmt
              rw [hcm] at kC
              have KC := Lib.hid kC; have Hmt := Lib.hid hmt; clear kC hmt hcm
              go_wp2_with fail
              refine wp_region_below (by kernel_rfl) (by kernel_rfl) ?_
              repeat (go_big_quiet_step ((go_at_call 58; exact calls_bw _ (KC.out _))))
              refine wpQuiet_nil ?_
              rintro w5 ⟨⟨_, hb5⟩, rfl⟩
              have hb6 := hb3.trans (hb5.mono hb3.size)
              clear e0 e2 e3 e4 e5
              go_wp2
              go_roundw
              case rel => exact ⟨m + 1, false, by go_num, hlt2, rfl, by rw [Hmt.out]; rfl, hb6⟩
              case measure => simp [intOf]; omega
          · obtain rfl : m = P.length := by omega
            have hfb := Hfb.out
            rw [List.take_length] at hfb
            have hown3 := hown1.below hb3
            have hv6 := (hv5.below hbw1).below hb3
            have c0 := hv6.i0 k hlt
            rw [iv_ix hlt] at c0
            have hbw3 := hbw1.trans (hb3.mono hbw1.size)
            cases fb
            · have hm2 : meetB l P j = true := by
                cases h : meetB l P j
                · rw [h] at hfb; cases hfb
                · rfl
              have hst := Hstep.out
              rw [if_pos hm2] at hst
              have Hst := Lib.hid hst; clear hst hfb hm2 c0
              go_wp2
              go_roundw
              case rel => exact ⟨k + 1, P, by go_num, hlt, Hst.out.symm, hown3, hbw3⟩
              case measure => simp [intOf]; omega
            · have hm2 : ¬ meetB l P j = true := by
                cases h : meetB l P j
                · exact Bool.false_ne_true
                · rw [h] at hfb; cases hfb
              have hst := Hstep.out
              rw [if_neg hm2] at hst
              have Hst := Lib.hid hst; clear hst hfb hm2
              have hix : ix L k = j := Hix.out
              rw [hix] at c0
              clear hix
              go_wp2_with (at_builtin; refine append_ix tInts tIntInfo (by rfl) (.tmp 54) (.tmp 59) (by rfl) w1.heap.size _ P j (by rfl) hown3 (by rfl) (by omega) hbw3.size ?_; intro v8 w8 hown8 hb8; have hbw8 := hbw3.trans hb8)
              go_roundw
              case rel => exact ⟨k + 1, _, by go_num, hlt, Hst.out.symm, hown8, hbw8⟩
              case measure => simp [intOf]; omega
      · have hst : pkR l (p, q) P j = P := by
          rw [pkR, if_neg]; unfold insideB sp; simp only [Bool.and_eq_true, decide_eq_true_eq]; exact hin
        rw [hst] at hstep
        have Hstep := Lib.hid hstep; clear hstep hst
        generalize fr l j = F at *
        generalize tt l j = T at *
        by_cases h1 : p ≤ F
        · have h2 : q < T := by omega
          clear hin
          go_wp2
          go_roundw
          case rel => exact ⟨k + 1, P, by go_num, hlt, Hstep.out.symm, hown1, hbw1⟩
          case measure => simp [intOf]; omega
        · have h2 : F < p := by omega
          clear hin h1
          go_wp2
          go_roundw
          case rel => exact ⟨k + 1, P, by go_num, hlt, Hstep.out.symm, hown1, hbw1⟩
          case measure => simp [intOf]; omega
    · obtain rfl : k = L.length := by omega
      have hP := HP.out
      rw [List.take_length] at hP
      have HP2 := Lib.hid hP; clear hP HP
      have hfin := hB.trans (hbw.mono hB.size)
      go_wp2
      go_ret
      exact ⟨P, _, ⟨L, HL.out, HP2.out⟩, rfl, hown.ints, hfin⟩
end Go.Proofs.Ytahpcepnagpbdaa
