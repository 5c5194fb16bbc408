/- Law 42: the walk of checker.visit. -/
import Derived.Test.YtgdcgdjlhljbiaaIdxB
import Derived.Test.YtgdcgdjlhljbiaaIdxV
import Derived.Test.YtgdcgdjlhljbiaaPre
import Derived.Test.YtgdcgdjlhljbiaaIdxA
namespace Go.Proofs.Ytgdcgdjlhljbiaa
open Go.RowKit

theorem max_if (a b : Int) : max a b = if a < b then b else a := by split <;> omega
/-- What visit hands back. -/
def VisRet (B g : Nat) (v : Value) (root : Int) (w : World) (r : (Int × Int × Bool) × VSt) (e : Ending) (w' : World) : Prop :=
  e = .returned (.tuple #[.int .i64 r.1.1, .int .i64 r.1.2.1, .bool r.1.2.2]) ∧ ChkAt w' B g v root r.2 ∧ Duo B g w w'
set_option maxRecDepth 100000 in
set_option maxHeartbeats 4000000 in
theorem xvisit_c (N : List Nd) (hN : N.length ≤ 1000) (w0 : World) (v : Value) (hs : IsNodes w0 v N) (B g : Nat) (root : Int) (hne : B ≠ g) (hB : w0.heap.size ≤ B) (hg : w0.heap.size ≤ g) :
    ∀ (fuel : Nat) (i : Int) (s : VSt) (w : World), s.seen.length = N.length → s.seen.count false < fuel → ChkAt w B g v root s → Below w0.heap.size w0 w →
      Calls Try.prog 44 #[.pointer (some ⟨B, 0, none⟩), .int .i64 i] w (VisRet B g v root w (visitF N fuel i s)) := by
  intro fuel
  induction fuel with
  | zero => intro i s w h1 h2; omega
  | succ fuel ih =>
    intro i s w hl hf hk hb
    obtain ⟨A, c, rfl, hnc, hc⟩ := hs.form
    obtain ⟨n, hn⟩ : ∃ n, n = N.length := ⟨_, rfl⟩
    by_cases h0 : i = -1
    · subst h0
      rw [vF_nil rfl]
      go_enter Try.func44, Try.ntmps44
      go_wp2_with fail
      go_ret3
      exact ⟨rfl, hk, Duo.refl _ _ _⟩
    have t0 : (i == -1) = false := by simpa using h0
    by_cases h1 : i < 0
    · rw [vF_out h0 (.inl h1)]
      have t1 : decide (i < 0) = true := by simpa using h1
      go_enter Try.func44, Try.ntmps44
      go_wp2_with fail
      go_ret3
      exact ⟨rfl, hk, Duo.refl _ _ _⟩
    have t1 : decide (i < 0) = false := by simpa using h1
    obtain ⟨j, rfl⟩ : ∃ j : Nat, i = j := ⟨i.toNat, by omega⟩
    by_cases h2 : (N.length : Int) ≤ j
    · rw [vF_out h0 (.inr (.inl h2))]
      have t2 : decide ((N.length : Int) ≤ j) = true := by simpa using h2
      have c0 := hk.k0
      go_enter Try.func44, Try.ntmps44
      go_wp2_with fail
      go_ret3
      exact ⟨rfl, hk, Duo.refl _ _ _⟩
    have t2 : decide ((N.length : Int) ≤ j) = false := by simpa using h2
    have hj : j < N.length := by omega
    have hl2 : j < s.seen.length := by omega
    have c0 := hk.k0
    have c2 := hk.k2
    have cs := hk.sc j hl2
    cases h3 : s.seen.getD j false
    rotate_left
    · rw [vF_out h0 (.inr (.inr (by simpa using h3)))]
      rw [h3] at cs
      go_enter Try.func44, Try.ntmps44
      go_wp2_with fail
      go_ret3
      exact ⟨rfl, hk, Duo.refl _ _ _⟩
    rw [h3] at cs
    obtain ⟨b0, off, rfl, hb0⟩ := hs.addr (by omega)
    have hn0 := hs.below hb
    have hbz := hb.size
    have hkB := hk.ltB
    have hkg := hk.ltg
    have fg := hk.fg j
    obtain ⟨w1, hw1⟩ : ∃ x, x = w.setCell ⟨g, j, none⟩ (.bool true) := ⟨_, rfl⟩
    have hk1 := hk.mark hne j
    have hd1 := Duo.setR B g w j (.bool true)
    rw [← hw1] at hk1 hd1
    have hb1 : Below w0.heap.size w0 w1 := hb.trans (hd1.below hB hg hbz)
    have hs1 := hs.below hb1
    have d0 := hs1.c0 j hj
    have d1 := hs1.c1 j hj
    have d2 := hs1.c2 j hj
    have d3 := hs1.c3 j hj
    have d4 := hs1.c4 j hj
    have d5 := hs1.c5 j hj
    have d6 := hs1.c6 j hj
    have e0 := hk1.k0
    have e2 := hk1.k2
    obtain ⟨r, hr⟩ : ∃ r, r = visitF N (fuel + 1) (j : Int) s := ⟨_, rfl⟩
    rw [← hr]
    have Hr := Lib.hid hr; clear hr
    have Hf := Lib.hid hf; have Hk := Lib.hid hk; have Hk1 := Lib.hid hk1; have Hd1 := Lib.hid hd1; have Hb1 := Lib.hid hb1
    clear hf hk hk1 hd1
    rw [hw1] at d0 d1 d2 d3 d4 d5 d6 e0 e2
    go_enter Try.func44, Try.ntmps44
    go_wp2_with fail
    rw [← hw1]
    clear d0 d1 d2 d3 d4 d5 d6 e0 e2 c0 c2 cs fg hn0 hs1
    have hz1 : w.heap.size = w1.heap.size := by rw [hw1]; simp [World.setCell]
    have Hw1 := Lib.hid hw1; clear hw1
    have hb12 : Below w1.heap.size w1 (w1.alloc (.cells #[.int .i64 (nd N j).f, .int .i64 (nd N j).t, .int .i64 (nd N j).v, .int .i64 (nd N j).l, .int .i64 (nd N j).r, .int .i64 (nd N j).m, .int .i64 (nd N j).h] 60)) := (Below.refl _ _).alloc (Nat.le_refl _) _
    have hbk : (w1.alloc (.cells #[.int .i64 (nd N j).f, .int .i64 (nd N j).t, .int .i64 (nd N j).v, .int .i64 (nd N j).l, .int .i64 (nd N j).r, .int .i64 (nd N j).m, .int .i64 (nd N j).h] 60)).heap[w1.heap.size]? = some (.cells #[.int .i64 (nd N j).f, .int .i64 (nd N j).t, .int .i64 (nd N j).v, .int .i64 (nd N j).l, .int .i64 (nd N j).r, .int .i64 (nd N j).m, .int .i64 (nd N j).h] 60 (0, 0)) := heap_alloc_new w1 _
    generalize w1.alloc (.cells #[.int .i64 (nd N j).f, .int .i64 (nd N j).t, .int .i64 (nd N j).v, .int .i64 (nd N j).l, .int .i64 (nd N j).r, .int .i64 (nd N j).m, .int .i64 (nd N j).h] 60) = w2 at *
    obtain ⟨p, hp⟩ : ∃ p, p = w.heap.size := ⟨_, rfl⟩
    rw [← hp]
    rw [← hz1, ← hp] at hbk hb12
    have hpB : p ≠ B := by omega
    have hpg : p ≠ g := by omega
    have hk2 := Hk1.out.below (by rw [← hz1, ← hp]; exact hb12)
    have hd2 : Duo B g w w2 := Hd1.out.trans (Duo.of_below (by rw [← hz1, ← hp]; exact hb12))
    have hb2 : Below w0.heap.size w0 w2 := Hb1.out.trans ((hb12.mono (by omega)))
    have hp2 := lt_of_block hbk
    have Hp := Lib.hid hp; have Hz1 := Lib.hid hz1
    clear hp hz1
    have hcnt := count_set_true hl2 h3
    have Ih := ih (nd N j).l { seen := s.seen.set j true, last := s.last, some := s.some } w2 (by simpa using hl) (by have := Hf.out; simp only; omega) hk2 hb2
    have hkeep := visit_keep N fuel (nd N j).l { seen := s.seen.set j true, last := s.last, some := s.some } (by simpa using hl)
    rcases hx : visitF N fuel (nd N j).l { seen := s.seen.set j true, last := s.last, some := s.some } with ⟨⟨a, x, ok⟩, s1⟩
    rw [hx] at Ih hkeep
    have h1' : ¬ ((j : Int) < 0 ∨ (N.length : Int) ≤ j ∨ s.seen.getD (j : Int).toNat false = true) := by
      rintro (h | h | h)
      · omega
      · omega
      · rw [show (j : Int).toNat = j from rfl, h3] at h; exact Bool.false_ne_true h
    have H1 := Lib.hid h1'; have Hx := Lib.hid hx; have Hkeep := Lib.hid hkeep; have Hcnt := Lib.hid hcnt
    clear hk2 hx hkeep h1' hcnt
    refine Ih.mono ?_
    clear Ih
    rintro e w3 ⟨rfl, hk3, hd3⟩
    cases ok
    · go_wp2_with fail
      go_ret3
      refine ⟨?_, ?_, hd2.trans hd3⟩
      · rw [Hr.out, vF_left h0 H1.out Hx.out]; rfl
      · rw [Hr.out, vF_left h0 H1.out Hx.out]; exact hk3
    have hd3' := hd2.trans hd3
    have f0 : w3.cell? ⟨p, 0, none⟩ = some (.int .i64 (nd N j).f) := (hd3.cell hp2 hpB hpg).trans (by simp [World.cell?, hbk])
    have f1 : w3.cell? ⟨p, 1, none⟩ = some (.int .i64 (nd N j).t) := (hd3.cell hp2 hpB hpg).trans (by simp [World.cell?, hbk])
    have f2 : w3.cell? ⟨p, 2, none⟩ = some (.int .i64 (nd N j).v) := (hd3.cell hp2 hpB hpg).trans (by simp [World.cell?, hbk])
    have f3 : w3.cell? ⟨p, 3, none⟩ = some (.int .i64 (nd N j).l) := (hd3.cell hp2 hpB hpg).trans (by simp [World.cell?, hbk])
    have f4 : w3.cell? ⟨p, 4, none⟩ = some (.int .i64 (nd N j).r) := (hd3.cell hp2 hpB hpg).trans (by simp [World.cell?, hbk])
    have f5 : w3.cell? ⟨p, 5, none⟩ = some (.int .i64 (nd N j).m) := (hd3.cell hp2 hpB hpg).trans (by simp [World.cell?, hbk])
    have f6 : w3.cell? ⟨p, 6, none⟩ = some (.int .i64 (nd N j).h) := (hd3.cell hp2 hpB hpg).trans (by simp [World.cell?, hbk])
    have hp3 : p < w3.heap.size := Nat.lt_of_lt_of_le hp2 hd3.size
    have hkB3 := hk3.ltB
    have hkg3 := hk3.ltg
    obtain ⟨q, hq⟩ : ∃ q, q = w3.heap.size := ⟨_, rfl⟩
    have hb34 : Below q w3 (w3.alloc (.cells #[.int .i64 (nd N j).f, .int .i64 (nd N j).t, .int .i64 (nd N j).v] 75)) := hq ▸ (Below.refl _ _).alloc (Nat.le_refl _) _
    have hbq : (w3.alloc (.cells #[.int .i64 (nd N j).f, .int .i64 (nd N j).t, .int .i64 (nd N j).v] 75)).heap[q]? = some (.cells #[.int .i64 (nd N j).f, .int .i64 (nd N j).t, .int .i64 (nd N j).v] 75 (0, 0)) := hq ▸ heap_alloc_new w3 _
    have Hhk3 := Lib.hid hk3; have Hd3 := Lib.hid hd3'
    clear hd3 hd3' hk3 hbk hd2 hb12
    go_wp2_with fail
    rw [← hq]
    generalize w3.alloc (.cells #[.int .i64 (nd N j).f, .int .i64 (nd N j).t, .int .i64 (nd N j).v] 75) = w4 at *
    have g0 := fun z : BW w4 => bw_cell z ((hb34.cell (p := ⟨p, 0, none⟩) (show p < q by omega)).trans f0) (Nat.lt_of_lt_of_le hp3 (hq ▸ hb34.size))
    have g1 := fun z : BW w4 => bw_cell z ((hb34.cell (p := ⟨p, 1, none⟩) (show p < q by omega)).trans f1) (Nat.lt_of_lt_of_le hp3 (hq ▸ hb34.size))
    have hk4 := Hhk3.out.below (hq ▸ hb34)
    have hp4 : p < w4.heap.size := Nat.lt_of_lt_of_le hp3 (hq ▸ hb34.size)
    have g9 := fun z : BW w4 => bw_cell z ((hb34.cell (p := ⟨p, 4, none⟩) (show p < q by omega)).trans f4) hp4
    have ga := fun z : BW w4 => bw_cell z ((hb34.cell (p := ⟨p, 5, none⟩) (show p < q by omega)).trans f5) hp4
    have gb := fun z : BW w4 => bw_cell z ((hb34.cell (p := ⟨p, 6, none⟩) (show p < q by omega)).trans f6) hp4
    have hd4 : Duo B g w w4 := Hd3.out.trans (Duo.of_below (hq ▸ hb34))
    have g2 := fun z : BW w4 => bw_cell z hk4.k3 hk4.ltB
    have g3 := fun z : BW w4 => bw_cell z hk4.k4 hk4.ltB
    have g4 := fun z : BW w4 => bw_cell z hk4.k5 hk4.ltB
    have g5 := fun z : BW w4 => bw_cell z hk4.k6 hk4.ltB
    have hq4 := lt_of_block hbq
    have g6 := fun z : BW w4 => bw_cell z (show w4.cell? ⟨q, 0, none⟩ = some (.int .i64 (nd N j).f) by simp [World.cell?, hbq]) hq4
    have g7 := fun z : BW w4 => bw_cell z (show w4.cell? ⟨q, 1, none⟩ = some (.int .i64 (nd N j).t) by simp [World.cell?, hbq]) hq4
    have g8 := fun z : BW w4 => bw_cell z (show w4.cell? ⟨q, 2, none⟩ = some (.int .i64 (nd N j).v) by simp [World.cell?, hbq]) hq4
    have hiv := ivValid_c (nd N j).f (nd N j).t
    have hcm := fun W => xcompare_b s1.last (ent (nd N j)) W
    have hge := cmpE_ge s1.last (ent (nd N j))
    obtain ⟨rc, hrc⟩ : ∃ rc, rc = cmpE s1.last (ent (nd N j)) := ⟨_, rfl⟩
    rw [← hrc] at hge hcm
    have Hbq := Lib.hid hbq; have Hq := Lib.hid hq; have Hb34 := Lib.hid hb34; have Hk4 := Lib.hid hk4; have Hd4 := Lib.hid hd4
    have Hg9 := Lib.hid g9; have Hga := Lib.hid ga; have Hgb := Lib.hid gb
    clear hbq hrc hq hb34 hk4 hd4 g9 ga gb f0 f1 f2 f3 f4 f5 f6
    obtain ⟨som, hsom⟩ : ∃ b, b = s1.some := ⟨_, rfl⟩
    have Hsom := Lib.hid hsom
    rw [← hsom] at g5
    clear hsom
    cases hok : okSpan ((nd N j).f, (nd N j).t)
    · rw [hok] at hiv
      have Hiv := Lib.hid hiv; have Hok := Lib.hid hok
      clear hiv hok hcm hge
      refine wp_region_below (by kernel_rfl) (by kernel_rfl) ?_
      repeat (go_big_quiet_step (exact calls_bw _ (Hiv.out _)))
      refine wpQuiet_nil ?_
      rintro w5 ⟨⟨_, hb5⟩, rfl⟩
      clear g0 g1 g2 g3 g4 g5 g6 g7 g8
      go_wp2_with fail
      go_ret3
      refine ⟨?_, ?_, Hd4.out.trans (Duo.of_below hb5)⟩
      · rw [Hr.out, vF_bad h0 H1.out Hx.out (.inl Hok.out)]; rfl
      · rw [Hr.out, vF_bad h0 H1.out Hx.out (.inl Hok.out)]; exact Hk4.out.below hb5
    · rw [hok] at hiv
      have Hiv := Lib.hid hiv; have Hcm := Lib.hid hcm
      clear hiv hcm
      have hcase : (som = true ∧ decide (0 ≤ rc) = true) ∨ ((som = false ∨ decide (0 ≤ rc) = false) ∧ (som = true → enLt s1.last (ent (nd N j)))) := by
        cases som
        · exact .inr ⟨.inl rfl, fun h => absurd h (by simp)⟩
        · by_cases hlt : enLt s1.last (ent (nd N j))
          · exact .inr ⟨.inr (by rw [decide_eq_false_iff_not, hge]; exact fun h => h hlt), fun _ => hlt⟩
          · exact .inl ⟨rfl, by rw [decide_eq_true_eq, hge]; exact hlt⟩
      have Hge := Lib.hid hge; clear hge
      rcases hcase with ⟨rfl, t4⟩ | ⟨hcase, hlt⟩
      · refine wp_region_below (by kernel_rfl) (by kernel_rfl) ?_
        repeat (go_big_quiet_step (first | exact calls_bw _ (Hiv.out _) | exact calls_bw _ (Hcm.out _)))
        refine wpQuiet_nil ?_
        rintro w5 ⟨⟨_, hb5⟩, rfl⟩
        clear g0 g1 g2 g3 g4 g5 g6 g7 g8
        have hbad : okSpan ((nd N (j : Int).toNat).f, (nd N (j : Int).toNat).t) = false ∨ (s1.some = true ∧ ¬ enLt s1.last (ent (nd N (j : Int).toNat))) := .inr ⟨Hsom.out.symm, Hge.out.1 (of_decide_eq_true t4)⟩
        have Hbad := Lib.hid hbad; clear hbad
        go_wp2_with fail
        go_ret3
        refine ⟨?_, ?_, Hd4.out.trans (Duo.of_below hb5)⟩
        · rw [Hr.out, vF_bad h0 H1.out Hx.out Hbad.out]; rfl
        · rw [Hr.out, vF_bad h0 H1.out Hx.out Hbad.out]; exact Hk4.out.below hb5
      · have hgood : ¬ (okSpan ((nd N (j : Int).toNat).f, (nd N (j : Int).toNat).t) = false ∨ (s1.some = true ∧ ¬ enLt s1.last (ent (nd N (j : Int).toNat)))) := by
          rintro (h | ⟨h, h'⟩)
          · rw [show (j : Int).toNat = j from rfl, hok] at h; cases h
          · exact h' (hlt (Hsom.out.trans h))
        have Hgood := Lib.hid hgood
        clear hgood hlt hok
        rcases hcase with rfl | t4
        rotate_left
        rcases Bool.eq_false_or_eq_true som with rfl | rfl
        all_goals
          refine wp_region_below (by kernel_rfl) (by kernel_rfl) ?_
          repeat (go_big_quiet_step (first | exact calls_bw _ (Hiv.out _) | exact calls_bw _ (Hcm.out _)))
          refine wpQuiet_nil ?_
          rintro w5 ⟨⟨_, hb5⟩, rfl⟩
          have hk5 := Hk4.out.below hb5
          have j6 : w5.cell? ⟨q, 0, none⟩ = some (.int .i64 (nd N j).f) := g6 ⟨w5, hb5⟩
          have j7 : w5.cell? ⟨q, 1, none⟩ = some (.int .i64 (nd N j).t) := g7 ⟨w5, hb5⟩
          have j8 : w5.cell? ⟨q, 2, none⟩ = some (.int .i64 (nd N j).v) := g8 ⟨w5, hb5⟩
          have i0 : w5.cell? ⟨p, 0, none⟩ = some (.int .i64 (nd N j).f) := g0 ⟨w5, hb5⟩
          have i1 : w5.cell? ⟨p, 1, none⟩ = some (.int .i64 (nd N j).t) := g1 ⟨w5, hb5⟩
          have i3 : w5.cell? ⟨p, 4, none⟩ = some (.int .i64 (nd N j).r) := Hg9.out ⟨w5, hb5⟩
          have i4 : w5.cell? ⟨p, 5, none⟩ = some (.int .i64 (nd N j).m) := Hga.out ⟨w5, hb5⟩
          have i5 : w5.cell? ⟨p, 6, none⟩ = some (.int .i64 (nd N j).h) := Hgb.out ⟨w5, hb5⟩
          clear g0 g1 g2 g3 g4 g5 g6 g7 g8
          have hp5 : p < w5.heap.size := Nat.lt_of_lt_of_le hp4 hb5.size
          have q3 := hk5.k3
          have q4 := hk5.k4
          have q5 := hk5.k5
          have q6 := hk5.k6
          have r3 := hk5.fB 3
          have r4 := hk5.fB 4
          have r5 := hk5.fB 5
          have r6 := hk5.fB 6
          have hd56 : Duo B g w5 ((((w5.setCell ⟨B, 3, none⟩ (.int .i64 (nd N j).f)).setCell ⟨B, 4, none⟩ (.int .i64 (nd N j).t)).setCell ⟨B, 5, none⟩ (.int .i64 (nd N j).v)).setCell ⟨B, 6, none⟩ (.bool true)) := (((Duo.setL B g _ 3 _).trans (Duo.setL B g _ 4 _)).trans (Duo.setL B g _ 5 _)).trans (Duo.setL B g _ 6 _)
          have hk6 := hk5.put hne (ent (nd N j))
          have l3 := (hd56.cell (o := 4) hp5 hpB hpg).trans i3
          have Hd56 := Lib.hid hd56; have Hk6 := Lib.hid hk6; have Hb5 := Lib.hid hb5
          have I0 := Lib.hid i0; have I1 := Lib.hid i1; have I4 := Lib.hid i4; have I5 := Lib.hid i5
          clear hd56 hk6 hb5 i0 i1 i3 i4 i5 hk5
          go_wp2_with fail
          obtain ⟨w6, hw6⟩ : ∃ x, x = ((((w5.setCell ⟨B, 3, none⟩ (.int .i64 (nd N j).f)).setCell ⟨B, 4, none⟩ (.int .i64 (nd N j).t)).setCell ⟨B, 5, none⟩ (.int .i64 (nd N j).v)).setCell ⟨B, 6, none⟩ (.bool true)) := ⟨_, rfl⟩
          have hk6 := Hk6.out
          have hd56 := Hd56.out
          rw [show ent (nd N j) = ((nd N j).f, (nd N j).t, (nd N j).v) from rfl] at hk6
          simp only at hk6
          rw [← hw6] at hk6 hd56 ⊢
          have hp6 : p < w6.heap.size := Nat.lt_of_lt_of_le hp5 hd56.size
          have i0 := (hd56.cell (o := 0) hp5 hpB hpg).trans I0.out
          have i1 := (hd56.cell (o := 1) hp5 hpB hpg).trans I1.out
          have i4 := (hd56.cell (o := 5) hp5 hpB hpg).trans I4.out
          have i5 := (hd56.cell (o := 6) hp5 hpB hpg).trans I5.out
          have hd6 : Duo B g w w6 := (Hd4.out.trans (Duo.of_below Hb5.out)).trans hd56
          have hb6 : Below w0.heap.size w0 w6 := hb.trans (hd6.below hB hg hbz)
          clear q3 q4 q5 q6 r3 r4 r5 r6 j6 j7 j8 l3 hw6 hd56
          have Ih := ih (nd N j).r { seen := s1.seen, last := ((nd N j).f, (nd N j).t, (nd N j).v), some := true } w6 Hkeep.out.1 (by have h1 : s1.seen.count false ≤ (s.seen.set j true).count false := Hkeep.out.2; have h2 := Hcnt.out; have h3 := Hf.out; show s1.seen.count false < fuel; omega) hk6 hb6
          have hlo1 := visit_low hN (by simpa using hl) Hx.out
          rcases hy : visitF N fuel (nd N j).r { seen := s1.seen, last := ((nd N j).f, (nd N j).t, (nd N j).v), some := true } with ⟨⟨b, y, ok2⟩, s2⟩
          rw [hy] at Ih
          have hlo2 := fun (h : ok2 = true) => visit_low (s' := s2) (m := y) (h := b) (fuel := fuel) (i := (nd N j).r) (s := { seen := s1.seen, last := ((nd N j).f, (nd N j).t, (nd N j).v), some := true }) hN Hkeep.out.1 (by rw [hy, h])
          have Hy := Lib.hid hy
          clear hy hk6 hb6
          refine Ih.mono ?_
          clear Ih
          rintro e w7 ⟨rfl, hk7, hd7⟩
          have hd67 := hd6.trans hd7
          cases ok2
          · go_wp2_with fail
            go_ret3
            refine ⟨?_, ?_, hd67⟩
            · rw [Hr.out, vF_right h0 H1.out Hx.out Hgood.out Hy.out (.inl rfl)]; rfl
            · rw [Hr.out, vF_right h0 H1.out Hx.out Hgood.out Hy.out (.inl rfl)]; exact hk7
          obtain ⟨hlo1, hhi1⟩ := hlo1
          obtain ⟨hlo2, hhi2⟩ := hlo2 rfl
          have m0 := (hd7.cell (o := 0) hp6 hpB hpg).trans i0
          have m1 := (hd7.cell (o := 1) hp6 hpB hpg).trans i1
          have m4 := (hd7.cell (o := 5) hp6 hpB hpg).trans i4
          have m5 := (hd7.cell (o := 6) hp6 hpB hpg).trans i5
          have hp7 : p < w7.heap.size := Nat.lt_of_lt_of_le hp6 hd7.size
          have Hd67 := Lib.hid hd67; have Hk7 := Lib.hid hk7
          clear hd67 hk7 hd7 i0 i1 i4 i5 hd6
          by_cases u1 : (nd N j).h = 1 + max a b
          rotate_left
          · have t1 : ((nd N j).h == 1 + max a b) = false := by simpa using u1
            have t1' : ((nd N j).h != 1 + max a b) = true := by simpa using u1
            go_wp2_with fail
            all_goals
              go_ret3
              refine ⟨?_, ?_, Hd67.out⟩
              · rw [Hr.out, vF_right h0 H1.out Hx.out Hgood.out Hy.out (.inr (.inl u1))]; rfl
              · rw [Hr.out, vF_right h0 H1.out Hx.out Hgood.out Hy.out (.inr (.inl u1))]; exact Hk7.out
          have t1 : ((nd N j).h == 1 + max a b) = true := by simpa using u1
          have t1' : ((nd N j).h != 1 + max a b) = false := by simpa using u1
          by_cases u2 : a - b > 1
          · have t2 : decide (a - b > 1) = true := by simpa using u2
            have t2' : decide (1 < a - b) = true := by simpa using u2
            go_wp2_with fail
            all_goals
              go_ret3
              refine ⟨?_, ?_, Hd67.out⟩
              · rw [Hr.out, vF_right h0 H1.out Hx.out Hgood.out Hy.out (.inr (.inr (.inl u2)))]; rfl
              · rw [Hr.out, vF_right h0 H1.out Hx.out Hgood.out Hy.out (.inr (.inr (.inl u2)))]; exact Hk7.out
          have t2 : decide (a - b > 1) = false := by simpa using u2
          have t2' : decide (1 < a - b) = false := by simpa using u2
          by_cases u3 : b - a > 1
          · have t3 : decide (b - a > 1) = true := by simpa using u3
            have t3' : decide (1 < b - a) = true := by simpa using u3
            go_wp2_with fail
            all_goals
              go_ret3
              refine ⟨?_, ?_, Hd67.out⟩
              · rw [Hr.out, vF_right h0 H1.out Hx.out Hgood.out Hy.out (.inr (.inr (.inr (.inl u3))))]; rfl
              · rw [Hr.out, vF_right h0 H1.out Hx.out Hgood.out Hy.out (.inr (.inr (.inr (.inl u3))))]; exact Hk7.out
          have t3 : decide (b - a > 1) = false := by simpa using u3
          have t3' : decide (1 < b - a) = false := by simpa using u3
          by_cases u4 : (nd N j).m = max (max x y) (nd N j).t
          rotate_left
          · have t4 : ((nd N j).m == (if (if x < y then y else x) < (nd N j).t then (nd N j).t else if x < y then y else x)) = false := by rw [← max_if, ← max_if]; simpa using u4
            have t4' : ((nd N j).m != (if (if x < y then y else x) < (nd N j).t then (nd N j).t else if x < y then y else x)) = true := by rw [← max_if, ← max_if]; simpa using u4
            go_wp2_with fail
            all_goals
              go_ret3
              refine ⟨?_, ?_, Hd67.out⟩
              · rw [Hr.out, vF_right h0 H1.out Hx.out Hgood.out Hy.out (.inr (.inr (.inr (.inr u4))))]; rfl
              · rw [Hr.out, vF_right h0 H1.out Hx.out Hgood.out Hy.out (.inr (.inr (.inr (.inr u4))))]; exact Hk7.out
          have t4 : ((nd N j).m == (if (if x < y then y else x) < (nd N j).t then (nd N j).t else if x < y then y else x)) = true := by rw [← max_if, ← max_if]; simpa using u4
          have t4' : ((nd N j).m != (if (if x < y then y else x) < (nd N j).t then (nd N j).t else if x < y then y else x)) = false := by rw [← max_if, ← max_if]; simpa using u4
          have hfin : ¬ ((nd N (j : Int).toNat).h ≠ 1 + max a b ∨ a - b > 1 ∨ b - a > 1 ∨ (nd N (j : Int).toNat).m ≠ max (max x y) (nd N (j : Int).toNat).t) := by
            rintro (h | h | h | h)
            · exact h u1
            · exact u2 h
            · exact u3 h
            · exact h u4
          have Hfin := Lib.hid hfin
          clear hfin u1 u2 u3 u4
          go_wp2_with fail
          all_goals
            have z4 := fun z : BW w7 => bw_cell z m4 hp7
            have z5 := fun z : BW w7 => bw_cell z m5 hp7
            clear m0 m1 m4 m5
            refine wp_region_below (by kernel_rfl) (by kernel_rfl) ?_
            repeat (go_big_quiet_step (fail))
            refine wpQuiet_nil ?_
            rintro w8 ⟨⟨_, hb8⟩, rfl⟩
            go_wp2_with fail
            go_ret3
            refine ⟨?_, ?_, Hd67.out.trans (Duo.of_below hb8)⟩
            · rw [Hr.out, vF_good h0 H1.out Hx.out Hgood.out Hy.out Hfin.out]; rfl
            · rw [Hr.out, vF_good h0 H1.out Hx.out Hgood.out Hy.out Hfin.out]; exact Hk7.out.below hb8
end Go.Proofs.Ytgdcgdjlhljbiaa
