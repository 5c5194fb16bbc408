/- Law 47: the reference's cut: canonical runs between two numbers. -/
import Derived.Test.YtcppcfinnbeboaaDkD
namespace Go.Proofs.Ytcppcfinnbeboaa
open Go.RowKit Go.Shelf

/-! ### plain -/
theorem addL_ok {r : List Sp} {a b : Int} (hg : r.Pairwise fun s t => s.2 < t.1) (h : ∀ s ∈ r, s.1 < s.2 ∧ s.2 ≤ a) (hab : a < b) : (addL r (a, b)).Pairwise (fun s t => s.2 < t.1) ∧ ∀ s ∈ addL r (a, b), s ∈ r ∨ (s.2 = b ∧ s.1 < b ∧ (s.1 = a ∨ ∃ t ∈ r, s.1 = t.1)) := by
  unfold addL
  split
  · rename_i hc
    have hlen : 0 < r.length := List.length_pos_iff.2 hc.1
    have hmem := idx_mem (l := r) (i := r.length - 1) (by omega)
    have hl := h _ hmem
    have hgap := hg
    have hr' : r = r.take (r.length - 1) ++ [(fr r (r.length - 1), tt r (r.length - 1))] := by
      rw [← sp_at r (r.length - 1) (by omega), ← List.take_succ_eq_append_getElem (by omega), show r.length - 1 + 1 = r.length from by omega, List.take_length]
    rw [hr', List.pairwise_append] at hgap
    have hsub : ∀ s ∈ r.take (r.length - 1), s ∈ r := fun s hs => List.mem_of_mem_take hs
    refine ⟨?_, fun s hs => ?_⟩
    · rw [List.pairwise_append]
      refine ⟨hgap.1, by simp, fun s hs t ht => ?_⟩
      rw [List.mem_singleton] at ht
      subst ht
      exact hgap.2.2 s hs (fr r (r.length - 1), tt r (r.length - 1)) (by simp)
    · rcases List.mem_append.1 hs with h1 | h1
      · exact .inl (hsub s h1)
      · rw [List.mem_singleton] at h1
        subst h1
        simp only at hl
        exact .inr ⟨rfl, by simp only; omega, .inr ⟨_, hmem, rfl⟩⟩
  · rename_i hc
    refine ⟨?_, fun s hs => ?_⟩
    · rw [List.pairwise_append]
      refine ⟨hg, by simp, fun s hs t ht => ?_⟩
      rw [List.mem_singleton] at ht
      subst ht
      have hs2 := h s hs
      simp only
      by_cases e : s.2 = a
      · exfalso
        obtain ⟨k, hk, rfl⟩ := mem_idx hs
        have hne : r ≠ [] := List.ne_nil_of_mem hs
        rcases Nat.lt_or_ge k (r.length - 1) with h4 | h4
        · have h5 := List.pairwise_iff_getElem.1 hg k (r.length - 1) hk (by omega) h4
          rw [sp_at r k hk, sp_at r (r.length - 1) (by omega)] at h5
          have h6 := h _ (idx_mem (l := r) (i := r.length - 1) (by omega))
          simp only at h5 h6 e
          omega
        · obtain rfl : k = r.length - 1 := by omega
          exact hc ⟨hne, e⟩
      · omega
    · rcases List.mem_append.1 hs with h1 | h1
      · exact .inl h1
      · rw [List.mem_singleton] at h1
        subst h1
        exact .inr ⟨rfl, hab, .inl rfl⟩
theorem addL_len (r : List Sp) (s : Sp) : (addL r s).length ≤ r.length + 1 := by
  unfold addL
  split
  · rename_i h
    have := List.length_pos_iff.2 h.1
    rw [List.length_append, List.length_take, List.length_singleton]
    omega
  · simp
structure CutInv (x : List Sp) (lo hi : Int) (E : List Int) (i : Nat) (r : List Sp) : Prop where
  ok : ∀ s ∈ r, s.1 < s.2 ∧ -1073741824 ≤ s.1 ∧ s.2 ≤ 1073741824 ∧ s.2 ≤ iv E i
  gap : r.Pairwise fun s t => s.2 < t.1
  pts : ∀ y, y < iv E i → mem r y = (mem x y && inB lo hi y)
  len : r.length ≤ i
section
variable {x : List Sp} {lo hi : Int} {E : List Int} {i : Nat} {r : List Sp}
theorem asc_low (hE : Asc E) {y : Int} (h : y < iv E 0) : ∀ e ∈ E, y < e := fun e he => by
  obtain ⟨k, hk, rfl⟩ := mem_iv he
  rcases Nat.eq_zero_or_pos k with rfl | hp
  · exact h
  · exact Int.lt_trans h (asc_lt hE hp hk)
theorem cut_zero (hE : Asc E) (hx : ∀ s ∈ x, s.1 ∈ E ∧ s.2 ∈ E) : CutInv x lo hi E 0 [] :=
  ⟨by simp, List.Pairwise.nil, fun y hy => by rw [mem_outside hx (.inl (asc_low hE hy))]; rfl, by simp⟩
theorem inB_iff {lo hi y : Int} : inB lo hi y = true ↔ lo ≤ y ∧ y < hi := by
  unfold inB
  rw [Bool.and_eq_true, decide_eq_true_eq, decide_eq_true_eq]
theorem cut_not (hE : Asc E) (hx : ∀ s ∈ x, s.1 ∈ E ∧ s.2 ∈ E) (h : CutInv x lo hi E i r) (hi1 : i + 1 < E.length) (hg : min (iv E (i + 1)) hi ≤ max (iv E i) lo ∨ mem x (iv E i) = false) : CutInv x lo hi E (i + 1) r := by
  have hlt : iv E i < iv E (i + 1) := asc_lt hE (Nat.lt_succ_self i) hi1
  refine ⟨fun s hs => ⟨(h.ok s hs).1, (h.ok s hs).2.1, (h.ok s hs).2.2.1, by have := (h.ok s hs).2.2.2; omega⟩, h.gap, fun y hy => ?_, by have := h.len; omega⟩
  by_cases hx1 : y < iv E i
  · exact h.pts y hx1
  · have hr : mem r y = false := by
      rw [Bool.eq_false_iff, Ne, mem_iff]
      rintro ⟨s, hs, h1, h2⟩
      have := (h.ok s hs).2.2.2
      omega
    rw [hr]
    symm
    rcases hg with hg | hg
    · rw [Bool.eq_false_iff]
      intro h2
      rw [Bool.and_eq_true, inB_iff] at h2
      omega
    · rw [mem_const hE hx hi1 (by omega) hy, hg, Bool.false_and]
theorem cut_add (hE : Asc E) (hbd : ∀ e ∈ E, -1073741824 ≤ e ∧ e ≤ 1073741824) (hx : ∀ s ∈ x, s.1 ∈ E ∧ s.2 ∈ E) (h : CutInv x lo hi E i r) (hi1 : i + 1 < E.length) (hg : ¬ min (iv E (i + 1)) hi ≤ max (iv E i) lo) (hm : mem x (iv E i) = true) : CutInv x lo hi E (i + 1) (addL r (max (iv E i) lo, min (iv E (i + 1)) hi)) := by
  have hlt : iv E i < iv E (i + 1) := asc_lt hE (Nat.lt_succ_self i) hi1
  have b0 := hbd _ (iv_mem (show i < E.length by omega))
  have b1 := hbd _ (iv_mem hi1)
  obtain ⟨g1, g2⟩ := addL_ok (a := max (iv E i) lo) (b := min (iv E (i + 1)) hi) h.gap (fun s hs => ⟨(h.ok s hs).1, by have := (h.ok s hs).2.2.2; omega⟩) (by omega)
  refine ⟨fun s hs => ?_, g1, fun y hy => ?_, by have := h.len; have := addL_len r (max (iv E i) lo, min (iv E (i + 1)) hi); omega⟩
  · rcases g2 s hs with h1 | ⟨h1, h2, h3⟩
    · have := h.ok s h1
      omega
    · rcases h3 with h3 | ⟨t, ht, h3⟩
      · omega
      · have := h.ok t ht
        omega
  · rw [addL_pts (fun s hs => (h.ok s hs).1) (by omega)]
    by_cases hx1 : y < iv E i
    · rw [h.pts y hx1, decide_eq_false (show ¬ max (iv E i) lo ≤ y by omega)]
      simp
    · have hr : mem r y = false := by
        rw [Bool.eq_false_iff, Ne, mem_iff]
        rintro ⟨s, hs, h1, h2⟩
        have := (h.ok s hs).2.2.2
        omega
      rw [hr, mem_const hE hx hi1 (by omega) hy, hm, Bool.false_or, Bool.true_and, Bool.eq_iff_iff, inB_iff, Bool.and_eq_true, decide_eq_true_eq, decide_eq_true_eq]
      omega
theorem cut_end (hE : Asc E) (hx : ∀ s ∈ x, s.1 ∈ E ∧ s.2 ∈ E) (h : CutInv x lo hi E i r) (h1 : E.length ≤ i + 1) (h2 : i = 0 ∨ i < E.length) : Canon r ∧ ∀ y, mem r y = (mem x y && inB lo hi y) := by
  refine ⟨⟨fun s hs => ?_, h.gap⟩, fun y => ?_⟩
  · have := h.ok s hs
    unfold OkSp
    omega
  · by_cases hy : y < iv E i
    · exact h.pts y hy
    · have hup : ∀ e ∈ E, e ≤ y := fun e he => by
        obtain ⟨k, hk, rfl⟩ := mem_iv he
        rcases Nat.lt_or_ge k i with h4 | h4
        · have := asc_lt hE h4 (by omega); omega
        · obtain rfl : k = i := by omega
          omega
      rw [mem_outside hx (.inr hup), Bool.false_and, Bool.eq_false_iff, Ne, mem_iff]
      rintro ⟨s, hs, h3, h4⟩
      have := (h.ok s hs).2.2.2
      omega
end
theorem ends_near {l : List Sp} {E : List Int} (h : EndsSpec l l.length E) (hl : l.all spB = true) : ∀ e ∈ E, -1073741824 ≤ e ∧ e ≤ 1073741824 := fun e he => by
  obtain ⟨i, hi, _, h1⟩ := (h.mem e).1 he
  have := spB_near (List.all_eq_true.1 hl _ (idx_mem (l := l) (i := i) hi))
  simp only at this
  rcases h1 with rfl | rfl <;> omega
/-! ### the walk -/
theorem own_lower {w : World} {base b size n : Nat} {e : TypeId} {v : Value} {xs : List Value} (h : w.ownsRow base e size v n xs) (hb : b ≤ base) : w.ownsRow b e size v n xs := by
  obtain ⟨h1, h2⟩ := h
  refine ⟨h1, h2.imp id ?_⟩
  rintro ⟨g, cap, cur, hv, hg, r⟩
  exact ⟨g, cap, cur, hv, Nat.le_trans hb hg, r⟩
def CutRet (x : List Sp) (lo hi : Int) (w : World) (e : Ending) (w' : World) : Prop := ∃ r v, (Canon r ∧ ∀ y, mem r y = (mem x y && inB lo hi y)) ∧ e = .returned v ∧ w'.ownsRow w.heap.size 38 2 v r.length (flat r) ∧ r.length ≤ 100 ∧ Below w.heap.size w w'
set_option maxRecDepth 100000 in
set_option maxHeartbeats 8000000 in
theorem r47cut_c (v : Value) (x : List Sp) (lo hi : Int) (w : World) (hs : IsSpans w v x) (hx : x.all spB = true) (hl : x.length ≤ 8) (hhi : -9223372036854775808 ≤ hi ∧ hi < 9223372036854775807) : Calls Try.prog 37 #[v, .int .i64 lo, .int .i64 hi] w (CutRet x lo (hi + 1) w) := by
  obtain ⟨A, c, rfl, hnc, hc⟩ := hs.form
  have z1 : IntKind.i64.wrap (hi + 1) = hi + 1 := by rw [IntKind.wrap_i64]; omega
  have Hs := Lib.hid hs; have Hx := Lib.hid hx; have Hl := Lib.hid hl
  clear hs hx hl hhi
  go_enter Try.func37, Try.ntmps37
  go_wp2_with fail
  go_loopw [7, 8] (fun o i wr => ∃ (k : Nat) (E : List Int), k ≤ x.length ∧ i = .int .i64 (k : Int) ∧ Hid (EndsSpec x k E) ∧ IsInts wr o E ∧ Below w.heap.size w wr) (fun _ i _ => x.length - (intOf i).toNat)
  case atStart => exact ⟨0, [], Nat.zero_le _, rfl, Lib.hid (ends_zero x), IsInts.nil, Below.refl _ _⟩
  case round =>
    obtain ⟨k, E, hk, rfl, HE, hE, hb⟩ := hrel
    have hel := HE.out.len
    obtain ⟨C, f, rfl, hnf, hf⟩ := hE.form
    rcases Nat.lt_or_ge k x.length with hlt | hge
    · have k0 : decide ((k : Int) < (x.length : Int)) = true := decide_eq_true (by omega)
      have k1 : IntKind.i64.wrap ((k : Int) + 1) = (k : Int) + 1 := by rw [IntKind.wrap_i64]; have := Hl.out; omega
      have k2 : (0 : Int) ≤ (k : Int) := by omega
      have k3 : (k : Int) < (x.length : Int) := by omega
      obtain ⟨g, off, rfl, hbk⟩ := Hs.out.addr (by omega)
      have FC : Hid (∀ X, Below w.heap.size w X → X.cell? ⟨g, off + k * 2, none⟩ = some (.int .i64 (fr x k)) ∧ X.cell? ⟨g, off + k * 2 + 1, none⟩ = some (.int .i64 (tt x k))) := Lib.hid fun X h => ⟨(Hs.out.below h).c0 k hlt, (Hs.out.below h).c1 k hlt⟩
      have hl100 : E.length ≤ 100 := by have := Hl.out; omega
      have KP : Hid (∀ X o L, IsInts X o L → Asc L → L.length ≤ 101 → ∀ y, Calls Try.prog 60 #[o, .int .i64 y] X (RetIns X (InsSpec L y))) := Lib.hid fun X o L h1 h2 h3 y => r47put_c o L y X h1 h2 (by omega)
      have Hstep : Hid (∀ E1 E2, InsSpec E (fr x k) E1 → InsSpec E1 (tt x k) E2 → EndsSpec x (k + 1) E2) := Lib.hid fun E1 E2 h1 h2 => ends_step HE.out hlt h1 h2
      have K1 : Hid (∀ X, Below wr.heap.size wr X → Calls Try.prog 60 #[.slice C E.length f, .int .i64 (fr x k)] X (RetIns X (InsSpec E (fr x k)))) := Lib.hid fun X h => KP.out X _ E (hE.below h) HE.out.asc (by omega) _
      have Hlt := Lib.hid hlt; have Hb := Lib.hid hb
      generalize fr x k = p at *
      generalize tt x k = q at *
      have kb : Below wr.heap.size wr wr.drew := (Below.refl _ _).drew
      have FCr : Hid (∀ X, Below wr.heap.size wr X → X.cell? ⟨g, off + k * 2, none⟩ = some (.int .i64 p) ∧ X.cell? ⟨g, off + k * 2 + 1, none⟩ = some (.int .i64 q)) := Lib.hid fun X h => FC.out X (Hb.out.trans (h.mono Hb.out.size))
      clear hb hbk hlt hk hel
      go_wp2_with fail
      go_region_held3 (fun X => X.cell? ⟨g, off + k * 2, none⟩ = some (.int .i64 p) ∧ X.cell? ⟨g, off + k * 2 + 1, none⟩ = some (.int .i64 q)) ((first | exact FCr.out _ kb)) (first
        | (go_at_call 60; (with_reducible refine (K1.out _ kb).mono ?_); rintro e Wa ⟨E1, o1, h1, rfl, i1, hba⟩; have kb := kb.trans (hba.mono kb.size); have Kput2 := KP.out Wa o1 E1 i1 h1.asc (by have := h1.len; omega) q; have H1 := Lib.hid h1; clear hba i1 h1)
        | (go_at_call 60; (with_reducible refine Kput2.mono ?_); rintro e Wb ⟨E2, o2, h2, rfl, i2, hba⟩; have kb := kb.trans (hba.mono kb.size); have H2 := Lib.hid h2; clear hba h2)
        | fail)
      have hres := Lib.hid (Hstep.out _ _ H1.out H2.out)
      have Hf := Lib.hid (Hb.out.trans (kb.mono Hb.out.size)); have I2 := Lib.hid i2
      clear kb i2 Kput2
      go_wp2_with fail
      go_roundw
      case rel => exact ⟨k + 1, _, Hlt.out, by go_num, hres, I2.out, Hf.out⟩
      case measure => have := Hlt.out; simp [intOf]; omega
    · obtain rfl : k = x.length := by omega
      have k0 : decide ((x.length : Int) < (x.length : Int)) = false := decide_eq_false (by omega)
      have hall : ∀ s ∈ x, s.1 ∈ E ∧ s.2 ∈ E := ends_all HE.out
      have hnr := ends_near HE.out Hx.out
      have HA := Lib.hid HE.out.asc; have Hall := Lib.hid hall; have Hnr := Lib.hid hnr; have Hb := Lib.hid hb; have HEi := Lib.hid hE; have Hel := Lib.hid (show E.length ≤ 16 by have := Hl.out; omega)
      clear hall hnr hE HE hel hb hge hk
      go_wp2_with fail
      clear k0
      obtain ⟨w3, hw3⟩ : ∃ y, y = wr := ⟨_, rfl⟩
      rw [← hw3] at Hb HEi ⊢
      clear hw3
      go_loopw [9, 10] (fun o i wr => ∃ (k : Nat) (r : List Sp), (k = 0 ∨ k < E.length) ∧ i = .int .i64 (k : Int) ∧ Hid (CutInv x lo (hi + 1) E k r) ∧ wr.ownsRow w3.heap.size 38 2 o r.length (flat r) ∧ Below w3.heap.size w3 wr) (fun _ i _ => E.length - (intOf i).toNat)
      case atStart => exact ⟨0, [], .inl rfl, rfl, Lib.hid (cut_zero HA.out Hall.out), own_nil _ _ _ _, Below.refl _ _⟩
      case round =>
        obtain ⟨k, r, hk, rfl, HI, hown, hb⟩ := hrel
        have k1 : IntKind.i64.wrap ((k : Int) + 1) = (k : Int) + 1 := by rw [IntKind.wrap_i64]; have := Hel.out; omega
        have hrl := HI.out.len
        rcases Nat.lt_or_ge (k + 1) E.length with hlt | hge
        rotate_left
        · have k0 : decide ((k : Int) + 1 < (E.length : Int)) = false := decide_eq_false (by omega)
          have HR := Lib.hid (cut_end HA.out Hall.out HI.out hge hk)
          have hB := Hb.out.trans (hb.mono Hb.out.size)
          have hbs := Hb.out.size
          have HO := Lib.hid (own_lower hown hbs)
          have HB := Lib.hid hB
          have Hr := Lib.hid (show r.length ≤ 100 by have := Hel.out; omega)
          clear hown hb hB hbs
          go_wp2_with fail
          go_ret
          exact ⟨r, _, HR.out, rfl, HO.out, Hr.out, HB.out⟩
        have k0 : decide ((k : Int) + 1 < (E.length : Int)) = true := decide_eq_true (by omega)
        have k2 : (0 : Int) ≤ (k : Int) := by omega
        have k3 : (k : Int) < (E.length : Int) := by omega
        have k4 : (0 : Int) ≤ (k : Int) + 1 := by omega
        have k5 : (k : Int) + 1 < (E.length : Int) := by omega
        have k6 : ((k : Int) + 1).toNat = k + 1 := by omega
        obtain ⟨g, off, rfl, hbk⟩ := HEi.out.addr (by omega)
        have hnot : min (iv E (k + 1)) (hi + 1) ≤ max (iv E k) lo ∨ mem x (iv E k) = false → CutInv x lo (hi + 1) E (k + 1) r := cut_not HA.out Hall.out HI.out hlt
        have hadd : ¬ min (iv E (k + 1)) (hi + 1) ≤ max (iv E k) lo → mem x (iv E k) = true → CutInv x lo (hi + 1) E (k + 1) (addL r (max (iv E k) lo, min (iv E (k + 1)) (hi + 1))) := cut_add HA.out Hnr.out Hall.out HI.out hlt
        have FC : Hid (∀ X, Below w3.heap.size w3 X → X.cell? ⟨g, off + k, none⟩ = some (.int .i64 (iv E k)) ∧ X.cell? ⟨g, off + (k + 1), none⟩ = some (.int .i64 (iv E (k + 1)))) := Lib.hid fun X h => ⟨(HEi.out.below h).c0 k (by omega), (HEi.out.below h).c0 (k + 1) hlt⟩
        have KI : Hid (∀ X, Below w3.heap.size w3 X → Calls Try.prog 61 #[.slice A x.length c, .int .i64 (iv E k)] X (Ret X (.bool (mem x (iv E k))))) := Lib.hid fun X h => r47in_c _ x _ X (Hs.out.below (Hb.out.trans (h.mono Hb.out.size))) (by have := Hl.out; omega)
        have hbd := hb.drew
        obtain ⟨Ar, cr, rfl, _, _⟩ := (spans_of_own hown).form
        obtain ⟨w5, hw5⟩ : ∃ y, y = wr.drew := ⟨_, rfl⟩
        have hown5 : w5.ownsRow w3.heap.size 38 2 (.slice Ar r.length cr) r.length (flat r) := by rw [hw5]; exact own_below hown ((Below.refl wr.heap.size wr).drew) (Nat.le_refl _)
        rw [← hw5] at hbd
        obtain ⟨d0, d1⟩ := FC.out _ hbd
        have d0' := d0; have d1' := d1
        rw [hw5] at d0' d1'
        generalize iv E k = p at *
        generalize iv E (k + 1) = q at *
        have Hlt := Lib.hid hlt; have Hnot := Lib.hid hnot; have Hadd := Lib.hid hadd; have Hw5 := Lib.hid hw5; have Hown := Lib.hid hown5; have Hbd := Lib.hid hbd; have Hrl := Lib.hid (show r.length ≤ 16 by have := Hel.out; omega)
        clear hlt hnot hadd hw5 hown5 hbd hown hb HI hbk hk hrl
        go_wp2_with fail
        go_still (by kernel_rfl)
        have hrec : ({ heap := wr.heap, tape := wr.tape, drawn := wr.drawn + 1, os := wr.os, output := wr.output } : World) = w5 := Hw5.out.symm
        rw [hrec]
        clear hrec d0' d1' k4 k5 k6
        obtain ⟨a, ha⟩ : ∃ y, y = max p lo := ⟨_, rfl⟩
        obtain ⟨b, hbq⟩ : ∃ y, y = min q (hi + 1) := ⟨_, rfl⟩
        rw [← ha, ← hbq] at Hnot Hadd ⊢
        clear ha hbq
        cases g1 : decide (b ≤ a)
        rotate_left
        · have HR := Lib.hid (Hnot.out (.inl (of_decide_eq_true g1)))
          go_wp2_with fail
          go_roundw
          case rel => exact ⟨k + 1, r, .inr Hlt.out, by go_num, HR, Hown.out, Hbd.out⟩
          case measure => have := Hlt.out; simp [intOf]; omega
        have KI5 := KI.out _ Hbd.out
        cases g2 : mem x p
        · have HR := Lib.hid (Hnot.out (.inr g2))
          rw [g2] at KI5
          have KI6 := Lib.hid KI5
          clear KI5
          go_wp2_with fail
          refine KI6.out.mono ?_
          rintro e w6 ⟨rfl, hb6⟩
          have HB6 := Lib.hid (Hbd.out.trans (hb6.mono Hbd.out.size))
          have HO6 := Lib.hid (own_below Hown.out hb6 (Nat.le_refl _))
          clear hb6
          go_wp2_with fail
          go_roundw
          case rel => exact ⟨k + 1, r, .inr Hlt.out, by go_num, HR, HO6.out, HB6.out⟩
          case measure => have := Hlt.out; simp [intOf]; omega
        have HR := Lib.hid (Hadd.out (by simpa using g1) g2)
        rw [g2] at KI5
        have KI6 := Lib.hid KI5
        clear KI5
        rcases Nat.eq_zero_or_pos r.length with hr0 | hr0
        · obtain rfl : r = [] := List.length_eq_zero_iff.1 hr0
          have HR2 := HR.out
          rw [addL_push (fun h => by simp at h)] at HR2
          have HR3 := Lib.hid HR2
          clear HR2 hr0
          go_wp2_with fail
          refine KI6.out.mono ?_
          rintro e w6 ⟨rfl, hb6⟩
          have HB6 := Lib.hid (Hbd.out.trans (hb6.mono Hbd.out.size))
          have hO6 := own_below Hown.out hb6 (Nat.le_refl _)
          clear hb6
          go_wp2_with (at_builtin; refine append_span tSpans tSpanInfo (by rfl) _ _ (by rfl) w3.heap.size _ [] _ _ (by rfl) hO6 (by rfl) (by simp) HB6.out.size ?_; intro v3 w7 hown7 hb7; have HB7 := Lib.hid (HB6.out.trans hb7))
          go_roundw
          case rel => exact ⟨k + 1, _, .inr Hlt.out, by go_num, HR3, hown7, HB7.out⟩
          case measure => have := Hlt.out; simp [intOf]; omega
        obtain ⟨gr, cap, hv, hgb, hglt, hcap, hcm⟩ := own_form Hown.out hr0
        injection hv with hv1 hv2 hv3
        subst hv1 hv3
        have n0 : decide ((0 : Int) < (r.length : Int)) = true := decide_eq_true (by omega)
        have n1 : (0 : Int) < (r.length : Int) := by omega
        have n2 : ¬ r = [] := fun h => by rw [h] at hr0; cases hr0
        have w1 : IntKind.i64.wrap ((r.length : Int) - 1) = ((r.length - 1 : Nat) : Int) := by rw [IntKind.wrap_i64]; have := Hrl.out; omega
        have w2 : (0 : Int) ≤ ((r.length - 1 : Nat) : Int) := by omega
        have w4 : ((r.length - 1 : Nat) : Int) < (r.length : Int) := by omega
        have FT : Hid (∀ X, w5.heap.size ≤ w5.heap.size → Below w5.heap.size w5 X → X.ownsRow w3.heap.size 38 2 (.slice (some ⟨gr, 0, none⟩) r.length cr) r.length (flat r) ∧ X.cell? ⟨gr, (r.length - 1) * 2 + 1, none⟩ = some (.int .i64 (tt r (r.length - 1)))) := Lib.hid fun X _ h => by
          have ho := own_below Hown.out h (Nat.le_refl _)
          have c1 := (spans_of_own ho).c1 (r.length - 1) (by omega)
          rw [Nat.zero_add] at c1
          exact ⟨ho, c1⟩
        cases g3 : tt r (r.length - 1) == a
        · have HR2 := HR.out
          rw [addL_push (fun h => by rw [h.2] at g3; simp at g3)] at HR2
          have HR3 := Lib.hid HR2
          clear HR2 hgb hglt hcap hcm
          go_wp2_with fail
          refine KI6.out.mono ?_
          rintro e w6 ⟨rfl, hb6⟩
          have HB6 := Lib.hid (Hbd.out.trans (hb6.mono Hbd.out.size))
          obtain ⟨hO6, t1⟩ := FT.out _ (Nat.le_refl _) hb6
          clear hb6
          go_wp2_with (at_builtin; refine append_span tSpans tSpanInfo (by rfl) _ _ (by rfl) w3.heap.size _ r _ _ (by rfl) hO6 (by rfl) (by have := Hrl.out; omega) HB6.out.size ?_; intro v3 w7 hown7 hb7; have HB7 := Lib.hid (HB6.out.trans hb7))
          go_roundw
          case rel => exact ⟨k + 1, _, .inr Hlt.out, by go_num, HR3, hown7, HB7.out⟩
          case measure => have := Hlt.out; simp [intOf]; omega
        · have HR2 := HR.out
          rw [addL_join hr0 (by simpa using g3)] at HR2
          have HR3 := Lib.hid HR2
          have Hjl := Lib.hid (join_len (s := (fr r (r.length - 1), b)) hr0)
          have Hfl := Lib.hid (flat_last (q := b) hr0)
          have Hgb := Lib.hid hgb
          clear HR2 hgb hglt hcap hcm
          go_wp2_with fail
          refine KI6.out.mono ?_
          rintro e w6 ⟨rfl, hb6⟩
          have hB6 := Hbd.out.trans (hb6.mono Hbd.out.size)
          obtain ⟨hO6, t1⟩ := FT.out _ (Nat.le_refl _) hb6
          have f1 := hO6.frozenAt ((r.length - 1) * 2 + 1)
          have hst := (hO6.stored ((r.length - 1) * 2 + 1) (.int .i64 b)).1
          rw [Hfl.out] at hst
          have Hst := Lib.hid hst
          have HB7 := Lib.hid (hB6.setCell (p := ⟨gr, (r.length - 1) * 2 + 1, none⟩) Hgb.out (.int .i64 b))
          clear hb6 hO6 hst hB6
          go_wp2_with fail
          go_roundw
          case rel => exact ⟨k + 1, _, .inr Hlt.out, by go_num, HR3, by rw [Hjl.out]; exact Hst.out, HB7.out⟩
          case measure => have := Hlt.out; simp [intOf]; omega
end Go.Proofs.Ytcppcfinnbeboaa
