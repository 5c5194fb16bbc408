/- slices.DeleteFunc at spans. -/
import Derived.Test.YtahpcepnagpbdaaSwV
namespace Go.Proofs.Ytahpcepnagpbdaa
open Go.RowKit Go.Shelf

theorem World.size_setCells' (b : Nat) : ∀ (vs : List Value) (o : Nat) (w : World), (w.setCells b o vs).heap.size = w.heap.size
  | [], _, _ => rfl
  | v :: r, o, w => by
    show ((w.setCell ⟨b, o, none⟩ v).setCells b (o + 1) r).heap.size = _
    rw [World.size_setCells' b r (o + 1)]
    simp [World.setCell]
theorem take_spans {w : World} {g n c I : Nat} {L : List Sp} (h : IsSpans w (.slice (some ⟨g, 0, none⟩) n c) L) (hI : I ≤ L.length) (vs : List Value) : IsSpans (w.setCells g (I * 2) vs) (.slice (some ⟨g, 0, none⟩) I c) (L.take I) := by
  have hl : (L.take I).length = I := by simp; omega
  obtain ⟨A, c', e, h1, h2, h3⟩ := h
  injection e with e1 e2 e3
  subst e1 e2 e3
  refine ⟨_, c, by rw [hl], by rw [hl]; omega, h2, fun hn => ?_⟩
  rw [hl] at hn
  obtain ⟨b, off, e, hb, hcell⟩ := h3 (by omega)
  injection e with e
  injection e with e4 e5
  subst e4 e5
  refine ⟨g, 0, rfl, by rw [World.size_setCells']; exact hb, fun i j hi hj => ?_⟩
  rw [hl] at hi
  rw [World.cell?_setCells_out g vs (I * 2) w _ (fun _ _ => .inl (by simp only; omega)), hcell i j (by omega) hj]
  have e1 : fr (L.take I) i = fr L i := by simp [fr, List.getElem?_take_of_lt hi]
  have e2 : tt (L.take I) i = tt L i := by simp [tt, List.getElem?_take_of_lt hi]
  simp only [spanCell, e1, e2]
def DelRet (w0 : World) (l : List Sp) (p : Sp → Bool) (e : Ending) (w' : World) : Prop := ∃ v', e = .returned v' ∧ IsSpans w' v' (l.filter fun s => !p s) ∧ Below w0.heap.size w0 w'
set_option maxRecDepth 100000 in
set_option maxHeartbeats 4000000 in
theorem slDeleteSpan_c (gs : FuncId) (cs : Array Value) (p : Sp → Bool) (v : Value) (l : List Sp) (w0 w : World) (hb0 : Below w0.heap.size w0 w) (hown : w.ownsRow w0.heap.size 31 2 v l.length (flat l)) (hp : PredFn gs cs p w0) (hl : l.length ≤ 100000) :
    Calls Try.prog 78 #[v, .func (.func gs) #[] cs] w (DelRet w0 l p) := by
  have hidx := slIndexP_c gs cs p v l w (spans_of_own hown) (hp.below hb0)
  obtain ⟨A, c, rfl, hnc, hc⟩ := (spans_of_own hown).form
  obtain ⟨es, hp⟩ := hp
  have Hp := Lib.hid hp
  have Hidx := Lib.hid hidx
  clear hp hidx
  go_enter Try.func78, Try.ntmps78
  go_wp2_with fail
  refine Hidx.out.mono ?_
  rintro e w1 ⟨r, hr, rfl, hb1⟩
  have hown1 := own_below hown hb1 (Nat.le_refl _)
  have hB1 := hb0.trans (hb1.mono hb0.size)
  clear hown
  rcases hr with ⟨rfl, hno⟩ | ⟨i0, hi0, rfl, hpi, hno⟩
  · have hfl : (l.filter fun s => !p s) = l := by
      have := filter_none (p := p) l.length (Nat.le_refl _) hno
      rwa [List.take_length] at this
    have Hfl := Lib.hid hfl
    clear hno hfl
    go_wp2
    go_ret
    exact ⟨_, rfl, by rw [Hfl.out]; exact spans_of_own hown1, hB1⟩
  · have hst := del_start hi0 hpi hno
    have Hst := Lib.hid hst
    obtain ⟨g, cap, hv, hgb, hgl, hcap1, hcap2⟩ := own_form hown1 (by omega)
    injection hv with v1 v2 v3
    subst v1 v3
    have h1 : ((i0 : Int) == -1) = false := by rw [beq_eq_false_iff_ne]; omega
    clear hno hpi hst
    go_wp2
    go_loopw [5, 6] (fun i j wr => ∃ (I J : Nat) (L : List Sp), i = .int .i64 I ∧ j = .int .i64 J ∧ Hid (DelInv l p I J L) ∧ wr.ownsRow w0.heap.size 31 2 (.slice (some ⟨g, 0, none⟩) l.length c) l.length (flat L) ∧ Below w0.heap.size w0 wr ∧ w1.heap.size ≤ wr.heap.size) (fun _ j _ => l.length - (intOf j).toNat)
    case atStart => exact ⟨i0, i0 + 1, l, rfl, by go_num, Hst, hown1, hB1, Nat.le_refl _⟩
    case round =>
      obtain ⟨I, J, L, rfl, rfl, HI, hown, hbw, hsz⟩ := hrel
      have hij := HI.out.ij
      have hjl := HI.out.jl
      by_cases hlt : J < l.length
      · have hcl := own_cell hown (by rw [HI.out.len]) hlt
        have hpo := HI.out.post J (Nat.le_refl _) hlt
        obtain ⟨d0, d1⟩ := hcl
        have e0 : fr L J = fr l J := congrArg Prod.fst hpo
        have e1 : tt L J = tt l J := congrArg Prod.snd hpo
        rw [e0] at d0
        rw [e1] at d1
        have hkeep := Lib.hid (fun h => del_keep HI.out hlt h)
        have hdrop := Lib.hid (fun h => del_drop HI.out hlt h)
        have hok : True := trivial
        generalize fr l J = s0 at *
        generalize tt l J = s1 at *
        have hown2 := hown.alloc (.cells #[.int .i64 s0, .int .i64 s1] 31)
        have hbw2 := hbw.alloc hbw.size (.cells #[.int .i64 s0, .int .i64 s1] 31)
        have b0 : (wr.alloc (.cells #[.int .i64 s0, .int .i64 s1] 31)).cell? ⟨wr.heap.size, 0, none⟩ = some (.int .i64 s0) := by simp
        have b1 : (wr.alloc (.cells #[.int .i64 s0, .int .i64 s1] 31)).cell? ⟨wr.heap.size, 1, none⟩ = some (.int .i64 s1) := by simp
        have hxs : wr.heap.size < (wr.alloc (.cells #[.int .i64 s0, .int .i64 s1] 31)).heap.size := by simp
        have hcall := Hp.out (wr.alloc (.cells #[.int .i64 s0, .int .i64 s1] 31)) s0 s1 hbw2
        generalize hw3 : wr.alloc (.cells #[.int .i64 s0, .int .i64 s1] 31) = w3 at *
        clear e0 e1 hpo
        cases hd : p (s0, s1)
        · rw [hd] at hcall
          have Hcall := Lib.hid hcall
          have Hk := Lib.hid (hkeep.out hd)
          clear hcall hd hkeep hdrop
          go_wp2_with fail
          refine Hcall.out.mono ?_
          rintro e w4 ⟨rfl, hb4⟩
          have hown4 := own_below hown2 hb4 (Nat.le_refl _)
          have hbw4 := hbw2.trans (hb4.mono hbw2.size)
          have y0 := (hb4.cell (p := ⟨wr.heap.size, 0, none⟩) hxs).trans b0
          have y1 := (hb4.cell (p := ⟨wr.heap.size, 1, none⟩) hxs).trans b1
          have z0 := World.ownsRow.frozenAt hown4 (I * 2)
          have z1 := World.ownsRow.frozenAt hown4 (I * 2 + 1)
          obtain ⟨x0, x1⟩ := own_cell hown4 (by rw [HI.out.len]) (show I < l.length by omega)
          clear hw3 d0 d1 b0 b1 hown hown2
          have hs1 := hown4.stored (I * 2) (.int .i64 s0)
          have hs2 := hs1.1.stored (I * 2 + 1) (.int .i64 s1)
          rw [← flat_setS L I (s0, s1)] at hs2
          have hbw5 := (hbw4.grown hs1.2 hbw4.size (fun k hk => by have := Option.some.inj hk; omega)).grown hs2.2 (Nat.le_trans hbw4.size hs1.2.size) (fun k hk => by have := Option.some.inj hk; omega)
          have hsz5 : w1.heap.size ≤ ((w4.setCell ⟨g, I * 2, none⟩ (.int .i64 s0)).setCell ⟨g, I * 2 + 1, none⟩ (.int .i64 s1)).heap.size := Nat.le_trans hsz (Nat.le_trans (Nat.le_trans (Nat.le_of_lt hxs) hb4.size) (Nat.le_trans hs1.2.size hs2.2.size))
          have Hs2 := Lib.hid hs2.1
          clear hs1 hs2 hown4
          go_wp2
          exact ⟨⟨I + 1, J + 1, L.set I (s0, s1), by go_num, by go_num, Hk, Hs2.out, hbw5, hsz5⟩, by simp [intOf]; omega⟩
        · rw [hd] at hcall
          have Hcall := Lib.hid hcall
          have Hk := Lib.hid (hdrop.out hd)
          clear hcall hd hkeep hdrop
          go_wp2_with fail
          refine Hcall.out.mono ?_
          rintro e w4 ⟨rfl, hb4⟩
          have hown4 := own_below hown2 hb4 (Nat.le_refl _)
          have hbw4 := hbw2.trans (hb4.mono hbw2.size)
          have hsz4 : w1.heap.size ≤ w4.heap.size := Nat.le_trans hsz (Nat.le_trans (Nat.le_of_lt hxs) hb4.size)
          clear hw3 d0 d1 b0 b1 hown hown2
          go_wp2
          go_roundw
          case rel => exact ⟨I, J + 1, L, by go_num, by go_num, Hk, hown4, hbw4, hsz4⟩
          case measure => simp [intOf]; omega
      · obtain rfl : J = l.length := by omega
        have hdn := del_done HI.out
        have Hdn := Lib.hid hdn
        have hLl := HI.out.len
        have hne : ¬ c = I := by omega
        have hcs : ∀ j, j < (l.length - I) * 2 → (wr.cell? ⟨g, I * 2 + j, none⟩).isSome = true := fun j hj => by
          rw [World.ownsRow.cellAt hown (I * 2 + j) (by omega)]
          rw [List.getElem?_eq_getElem (by rw [flat_length]; omega)]; rfl
        have hfs : ∀ j, j < (l.length - I) * 2 → wr.frozen? ⟨g, I * 2 + j, none⟩ = false := fun j _ => World.ownsRow.frozenAt hown (I * 2 + j)
        have hsp := spans_of_own (by rw [← hLl] at hown; exact hown)
        have Hsp := Lib.hid hsp
        have hbc := below_setCells hgb (List.replicate ((l.length - I) * 2) (.int .i64 0)) (I * 2) wr hbw
        have hclr := run_clear_spans wr 0 g (I * 2) (l.length - I) (c - I) (by omega) hcs hfs
        have hres := take_spans Hsp.out (show I ≤ L.length by omega) (List.replicate ((l.length - I) * 2) (.int .i64 0))
        rw [hdn] at hres
        have Hres := Lib.hid hres
        clear hdn hcs hfs hsp hres hown
        go_wp2
        go_ret
        exact ⟨_, rfl, Hres.out, hbc⟩
end Go.Proofs.Ytahpcepnagpbdaa
