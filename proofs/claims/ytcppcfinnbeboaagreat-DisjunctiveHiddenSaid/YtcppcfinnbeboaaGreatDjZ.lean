/- Law 47: the law's way to write a choice. -/
import Derived.Test.YtcppcfinnbeboaaGreatDjU
import Derived.Deep.RegionLaw
namespace Go.Proofs.YtcppcfinnbeboaaGreat
open Go.RowKit Go.Shelf

theorem own_kept {w w' : World} {base size n : Nat} {e : TypeId} {v : Value} {xs : List Value} (h : w.ownsRow base e size v n xs) (hk : ∀ g, base ≤ g → g < w.heap.size → w'.heap[g]? = w.heap[g]?) : w'.ownsRow base e size v n xs := by
  obtain ⟨h1, h2⟩ := h
  refine ⟨h1, h2.imp id ?_⟩
  rintro ⟨g, cap, cur, hv, hg, hh, r⟩
  exact ⟨g, cap, cur, hv, hg, (hk g hg (blk_lt hh)).trans hh, r⟩
/-- append(own, a span) where an operation is met alone. -/
theorem append_span_wp {P : Program} {tS tE : TypeId} (hS : P.underlying tS = some (.slice tE)) (hE : (P.info? tE).map (fun i => (i.zero, i.size, i.bytes)) = some (some (.agg #[.int .i64 0, .int .i64 0]), 2, 16))
    {o : Oper} {a : Act} {K : Act → World → Prop} {Q : Exit → Act → World → Prop} (s x : Operand)
    (ho : o.op = .call { callee := .builtin .append, args := #[s, x], argTypes := #[tS, tS] })
    {w : World} (base : Nat) (v : Value) (l : List Sp) (p q : Int) (hs : a.eval s = v) (hown : w.ownsRow base tE 2 v l.length (flat l))
    (hx : a.eval x = .slice (some ⟨w.heap.size, 0, none⟩) 1 1) (hlen : l.length < 1000000000) (hbase : base ≤ w.heap.size)
    (h : ∀ v' w', w'.ownsRow base tE 2 v' (l ++ [(p, q)]).length (flat (l ++ [(p, q)])) → Below base w w' → K (a.put o.dst v') w') :
    o.wp P a (w.alloc (.cells #[.int .i64 p, .int .i64 q] tE)).drew K Q := by
  obtain ⟨i, hi, hz, hsz, hby⟩ := info_parts hE
  obtain ⟨v', w', hr, hown', hg, _, _⟩ := run_append_own_at (P := P) (w.alloc (.cells #[.int .i64 p, .int .i64 q] tE)).drew base tS o.type tE i _ 2 16 hS hi hz hsz hby rfl (by omega) v l.length (flat l) (own_kept (hown.alloc _) fun _ _ _ => rfl) ⟨w.heap.size, 0, none⟩ 1 1
    [.int .i64 p, .int .i64 q] rfl (by
      intro j u hu
      rcases j with _ | _ | j <;> simp at hu
      · subst hu; simp [Addr.add]
      · subst hu; simp [Addr.add]) (by simp [Value.oneCell']) (by unfold maxLen; omega) (by omega) (by simp; omega)
  unfold Oper.wp execOp
  simp only [ho, resolve, invoke, builtin, Sem.run_bind, Sem.run_pure, Result.andThen_ok, List.map_toArray, List.map_cons, List.map_nil, hs, hx, hr]
  refine h v' w' ?_ ?_
  · rw [flat_snoc]; simpa using hown'
  · refine (((Below.refl base w).alloc hbase _).drew).grown hg (by simp; omega) ?_
    intro k hk
    exact (hown.lt k hk).1
def pairsF (xs : List Int) : Nat → List Sp
  | 0 => []
  | k + 1 => pairsF xs k ++ [(iv xs (2 * k), iv xs (2 * k + 1))]
theorem pairsF_len (xs : List Int) : ∀ k, (pairsF xs k).length = k
  | 0 => rfl
  | k + 1 => by rw [pairsF, List.length_append, pairsF_len xs k]; rfl
def ChoRet (i j : Int) (l : List Sp) (w : World) (e : Ending) (w' : World) : Prop := ∃ u, e = .returned (.agg #[.int .i64 i, .int .i64 j, u]) ∧ IsSpans w' u l ∧ Below w.heap.size w w'
set_option maxRecDepth 100000 in
set_option maxHeartbeats 4000000 in
theorem choice47_c (i j : Int) (v : Value) (xs : List Int) (m0 : Nat) (w : World) (hs : IsInts w v xs) (hm0 : xs.length = 2 * m0) (hl : m0 ≤ 1000) : Calls Tryz.prog 25 #[.int .i64 i, .int .i64 j, v] w (ChoRet i j (pairsF xs m0) w) := by
  obtain ⟨A, c, rfl, hnc, hc⟩ := hs.form
  obtain ⟨W1, hW1⟩ : ∃ y, y = (w.alloc (.cells #[.int .i64 0, .int .i64 0, .slice none 0 0] 31)).alloc (.cells #[.int .i64 i, .int .i64 j, .slice none 0 0] 31) := ⟨_, rfl⟩
  obtain ⟨b6, hb6⟩ : ∃ y, y = w.heap.size := ⟨_, rfl⟩
  obtain ⟨b7, hb7⟩ : ∃ y, y = w.heap.size + 1 := ⟨_, rfl⟩
  have hb1 : Below w.heap.size w W1 := by rw [hW1]; exact ((Below.refl _ _).alloc (Nat.le_refl _) _).alloc (by simp) _
  have hT6 : W1.heap[b6]? = some (.cells #[.int .i64 0, .int .i64 0, .slice none 0 0] 31 (0, 0)) := by
    rw [hW1, hb6]
    exact (((Below.refl (w.alloc (.cells #[.int .i64 0, .int .i64 0, .slice none 0 0] 31)).heap.size _).alloc (Nat.le_refl _) _).block _ (by simp)).trans (heap_alloc_new w _)
  have hT7 : W1.heap[b7]? = some (.cells #[.int .i64 i, .int .i64 j, .slice none 0 0] 31 (0, 0)) := by
    rw [hW1, hb7]
    have := heap_alloc_new (w.alloc (.cells #[.int .i64 0, .int .i64 0, .slice none 0 0] 31)) (.cells #[.int .i64 i, .int .i64 j, .slice none 0 0] 31)
    simpa using this
  have HW1 := Lib.hid hW1; have Hb6 := Lib.hid hb6; have Hb7 := Lib.hid hb7; have Hb1 := Lib.hid hb1; have HT6 := Lib.hid hT6; have HT7 := Lib.hid hT7; have Hs := Lib.hid hs; have Hm0 := Lib.hid hm0; have Hl := Lib.hid hl
  clear hW1 hb6 hb7 hb1 hT6 hT7 hs hm0 hl
  go_enter Tryz.func25, Tryz.ntmps25
  go_wp2_with fail
  rw [← HW1.out, ← Hb7.out, ← Hb6.out]
  go_loopw [8] (fun k wr => ∃ (m : Nat) (t : Nat) (u : Value), k = .int .i64 (t : Int) ∧ t = 2 * m ∧ m ≤ m0 ∧ wr.heap[b7]? = some (.cells #[.int .i64 i, .int .i64 j, u] 31 (0, 0)) ∧ wr.heap[b6]? = some (.cells #[.int .i64 0, .int .i64 0, .slice none 0 0] 31 (0, 0)) ∧ wr.ownsRow (b7 + 1) 48 2 u (pairsF xs m).length (flat (pairsF xs m)) ∧ Below w.heap.size w wr) (fun k _ => xs.length - (intOf k).toNat)
  case atStart => exact ⟨0, 0, _, rfl, rfl, Nat.zero_le _, HT7.out, HT6.out, own_nil _ _ _ _, Hb1.out⟩
  case round =>
    obtain ⟨m, t, u, rfl, ht, hm, h7, h6, ho, hb⟩ := hrel
    obtain ⟨Au, cu, rfl, _, _⟩ := (spans_of_own ho).form
    have hl2 := Hm0.out
    rcases Nat.lt_or_ge m m0 with hlt | hge
    rotate_left
    · obtain rfl : m = m0 := by omega
      have k0 : decide ((t : Int) + 1 < (xs.length : Int)) = false := decide_eq_false (by omega)
      have k1 : IntKind.i64.wrap ((t : Int) + 1) = (t : Int) + 1 := by rw [IntKind.wrap_i64]; have := Hl.out; omega
      have t0 := blk_get h7 0
      have t1 := blk_get h7 1
      have t2 := blk_get h7 2
      have s0 := blk_get h6 0
      have s1 := blk_get h6 1
      have s2 := blk_get h6 2
      simp at t0 t1 t2 s0 s1 s2
      have z0 := blk_soft h6 0
      have z1 := blk_soft h6 1
      have z2 := blk_soft h6 2
      have Ho := Lib.hid ho; have Hb := Lib.hid hb; have H6 := Lib.hid h6
      clear h7 h6 ho hb hm hge hl2 ht
      go_wp2_with fail
      obtain ⟨Z, hZ⟩ : ∃ y, y = ((wr.setCell ⟨b6, 0, none⟩ (.int .i64 i)).setCell ⟨b6, 1, none⟩ (.int .i64 j)).setCell ⟨b6, 2, none⟩ (.slice Au (pairsF xs m).length cu) := ⟨_, rfl⟩
      have hz6 : Z.heap[b6]? = some (.cells #[.int .i64 i, .int .i64 j, .slice Au (pairsF xs m).length cu] 31 (0, 0)) := by
        rw [hZ]
        have := blk_set (blk_set (blk_set H6.out 0 (.int .i64 i)) 1 (.int .i64 j)) 2 (.slice Au (pairsF xs m).length cu)
        simpa using this
      have e0 := blk_get hz6 0
      have e1 := blk_get hz6 1
      have e2 := blk_get hz6 2
      simp at e0 e1 e2
      have hbZ : Below w.heap.size w Z := by
        rw [hZ]
        have hle : w.heap.size ≤ b6 := Nat.le_of_eq Hb6.out.symm
        exact ((Hb.out.setCell (p := ⟨b6, 0, none⟩) hle _).setCell (p := ⟨b6, 1, none⟩) hle _).setCell (p := ⟨b6, 2, none⟩) hle _
      have hoZ : Z.ownsRow (b7 + 1) 48 2 (.slice Au (pairsF xs m).length cu) (pairsF xs m).length (flat (pairsF xs m)) := own_kept Ho.out fun g h1 _ => by
        have hne : g ≠ b6 := by have := Hb6.out; have := Hb7.out; omega
        rw [hZ]
        exact ((blk_oth hne _ _).trans (blk_oth hne _ _)).trans (blk_oth hne _ _)
      rw [← hZ]
      (try simp only [Exit.inBlock, Exit.then])
      refine bodyPost_ret (by simp [results, Tryz.results25, go_sem, e0, e1, e2]; try rfl) rfl ?_
      exact ⟨_, rfl, spans_of_own hoZ, hbZ⟩
    have k0 : decide ((t : Int) + 1 < (xs.length : Int)) = true := decide_eq_true (by omega)
    have k1 : IntKind.i64.wrap ((t : Int) + 1) = (t : Int) + 1 := by rw [IntKind.wrap_i64]; have := Hl.out; omega
    have k2 : IntKind.i64.wrap ((t : Int) + 2) = ((t + 2 : Nat) : Int) := by rw [IntKind.wrap_i64]; have := Hl.out; omega
    have k3 : (0 : Int) ≤ (t : Int) := by omega
    have k4 : (t : Int) < (xs.length : Int) := by omega
    have k5 : (0 : Int) ≤ (t : Int) + 1 := by omega
    have k6 : (t : Int) + 1 < (xs.length : Int) := by omega
    have k8 : ((t : Int) + 1).toNat = t + 1 := by omega
    have hsr := (Hs.out.below hb).below (Below.refl _ _).drew
    obtain ⟨g, off, rfl, _⟩ := hsr.addr (by omega)
    have c0 := hsr.c0 t (by omega)
    have c1 := hsr.c0 (t + 1) (by omega)
    have h7d : wr.drew.heap[b7]? = some (.cells #[.int .i64 i, .int .i64 j, .slice Au (pairsF xs m).length cu] 31 (0, 0)) := h7
    have t2 := blk_get h7d 2
    simp at t2
    have h7e : (wr.alloc (.cells #[.int .i64 (iv xs t), .int .i64 (iv xs (t + 1))] 48)).drew.heap[b7]? = some (.cells #[.int .i64 i, .int .i64 j, .slice Au (pairsF xs m).length cu] 31 (0, 0)) := (((Below.refl wr.heap.size wr).alloc (Nat.le_refl _) (.cells #[.int .i64 (iv xs t), .int .i64 (iv xs (t + 1))] 48)).block b7 (blk_lt h7)).trans h7
    have t2e := blk_get h7e 2
    simp at t2e
    have hnx : pairsF xs (m + 1) = pairsF xs m ++ [(iv xs t, iv xs (t + 1))] := by rw [ht]; rfl
    have hln : (pairsF xs m).length < 1000000000 := by rw [pairsF_len]; have := Hl.out; omega
    have hbs : b7 + 1 ≤ wr.heap.size := blk_lt h7
    have h67 : b6 ≠ b7 := by rw [Hb6.out, Hb7.out]; omega
    have Ho := Lib.hid ho; have Hb := Lib.hid hb; have H7 := Lib.hid h7; have H6 := Lib.hid h6; have Hlt := Lib.hid hlt; have Hnx := Lib.hid hnx; have Hln := Lib.hid hln; have Hbs := Lib.hid hbs; have H67 := Lib.hid h67
    have Ht := Lib.hid ht
    clear hsr h7d h7e hnx hln hbs ho hb h7 h6 hlt hm h67 hl2 ht
    go_wp2_with fail
    go_region_law ((rw [if_pos (by rfl)]; refine append_span_wp tSpans tSpanInfo (.tmp 20) (.tmp 31) (by rfl) (b7 + 1) _ (pairsF xs m) (iv xs t) (iv xs (t + 1)) (by rfl) Ho.out (by rfl) Hln.out Hbs.out (fun v7 w7 q1 q2 => ?_); rw [← Hnx.out] at q1; obtain ⟨Av, cv, rfl, _, _⟩ := (spans_of_own q1).form; have Q1 := Lib.hid q1; have Q2 := Lib.hid q2; have f7 := (q2.block b7 (Nat.lt_succ_self _)).trans H7.out; have F7 := Lib.hid f7; have y2 := blk_get f7 2; have y3 := blk_soft f7 2; simp at y2; clear q1 q2 f7))
    all_goals
      have F7a := blk_set F7.out 2 (.slice Av (pairsF xs (m + 1)).length cv)
      have F7b : (w7.setCell ⟨b7, 2, none⟩ (.slice Av (pairsF xs (m + 1)).length cv)).heap[b7]? = some (.cells #[.int .i64 i, .int .i64 j, .slice Av (pairsF xs (m + 1)).length cv] 31 (0, 0)) := by simpa using F7a
      have F6 : (w7.setCell ⟨b7, 2, none⟩ (.slice Av (pairsF xs (m + 1)).length cv)).heap[b6]? = some (.cells #[.int .i64 0, .int .i64 0, .slice none 0 0] 31 (0, 0)) := (blk_oth H67.out _ _).trans ((Q2.out.block b6 (by have := Hb6.out; have := Hb7.out; omega)).trans H6.out)
      have Fo := own_kept (w' := w7.setCell ⟨b7, 2, none⟩ (.slice Av (pairsF xs (m + 1)).length cv)) Q1.out fun g h1 _ => blk_oth (by omega) _ _
      have hw7 : w.heap.size ≤ b7 + 1 := by have := Hb7.out; omega
      have Fb := (Hb.out.trans (Q2.out.mono hw7)).setCell (p := ⟨b7, 2, none⟩) (by have := Hb7.out; simp only; omega) (.slice Av (pairsF xs (m + 1)).length cv)
      have F7c := Lib.hid F7b; have F6c := Lib.hid F6; have Foc := Lib.hid Fo; have Fbc := Lib.hid Fb
      generalize w7.setCell ⟨b7, 2, none⟩ (.slice Av (pairsF xs (m + 1)).length cv) = W9 at F7c F6c Foc Fbc ⊢
      clear F7a F7b F6 Fo Fb y2 y3 t2 t2e c0 c1
      go_wp2_with fail
      go_roundw
      case rel => exact ⟨m + 1, t + 2, _, by go_num, by have := Ht.out; omega, Hlt.out, F7c.out, F6c.out, Foc.out, Fbc.out⟩
      case measure => have := Hlt.out; have := Ht.out; have := Hm0.out; simp [intOf]; omega
end Go.Proofs.YtcppcfinnbeboaaGreat
