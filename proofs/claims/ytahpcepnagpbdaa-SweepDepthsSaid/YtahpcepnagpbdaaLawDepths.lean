/- SweepDepths: Depth returns the specified facts, as the reference does; the depth at a point is the number of spans that contain it, and the spans of all depths are the points that are not free; whatever the list and the point. No condition. -/
import Derived.Test.YtahpcepnagpbdaaAwake44
import Derived.Test.YtahpcepnagpbdaaSwS
import Derived.Test.YtahpcepnagpbdaaSwT
import Derived.Test.YtahpcepnagpbdaaSwC
import Derived.Test.YtahpcepnagpbdaaRunsR
import Derived.Test.YtahpcepnagpbdaaOpen
namespace Go.Proofs.Ytahpcepnagpbdaa
open Go.RowKit Go.ChangeShapes Go.WideShapes Go.ChangeAt

theorem append_spanG {P : Program} {tS tE : TypeId} (hS : P.underlying tS = some (.slice tE)) (hE : (P.info? tE).map (fun i => (i.zero, i.size, i.bytes)) = some (some (.agg #[.int .i64 0, .int .i64 0]), 2, 16))
    {ops : Array Oper} {rest : List Oper} {o : Oper} {a : Act} {Q : Exit → Act → World → Prop} (hgd : o.guard = none) (s x : Operand)
    (ho : o.op = .call { callee := .builtin .append, args := #[s, x], argTypes := #[tS, tS] })
    {w : World} (base : Nat) (v : Value) (l : List Sp) (p q : Int) (hs : a.eval s = v) (hown : w.ownsRow base tE 2 v l.length (flat l))
    (hx : a.eval x = .slice (some ⟨w.heap.size, 0, none⟩) 1 1) (hlen : l.length < 1000000000) (hbase : base ≤ w.heap.size)
    (h : ∀ v' w', w'.ownsRow base tE 2 v' (l ++ [(p, q)]).length (flat (l ++ [(p, q)])) → Below base w w' → (∀ b, b < w.heap.size → v.ownBlock ≠ some b → w'.heap[b]? = w.heap[b]? ∧ v'.ownBlock ≠ some b) → w.heap.size ≤ w'.heap.size → wpList P ops Q rest (a.put o.dst v') w') :
    wpList P ops Q (o :: rest) a (w.alloc (.cells #[.int .i64 p, .int .i64 q] tE)) := by
  obtain ⟨i, hi, hz, hsz, hby⟩ := info_parts hE
  refine wpList_append_own_at (w.alloc (.cells #[.int .i64 p, .int .i64 q] tE)) hgd s x tS ho base tE i _ 2 16 hS hi hz hsz hby rfl (by omega) v l.length (flat l) hs (hown.alloc _) ⟨w.heap.size, 0, none⟩ 1 1
    [.int .i64 p, .int .i64 q] hx rfl ?_ (by simp [Value.oneCell']) (by unfold maxLen; omega) (by omega) (by simp; omega) ?_
  · intro j u hu
    rcases j with _ | _ | j <;> simp at hu
    · subst hu; simp [Addr.add]
    · subst hu; simp [Addr.add]
  · intro v' w' hown' hg _ hob
    refine h v' w' ?_ ?_ ?_ ?_
    · rw [flat_snoc]; simpa using hown'
    · refine ((Below.refl base w).alloc hbase _).grown hg (by simp; omega) ?_
      intro k hk
      exact (hown.lt k hk).1
    · intro b hb hne
      refine ⟨?_, ?_⟩
      · exact (hg.block b (by simp; omega) (fun e => hne e.symm)).trans (((Below.refl w.heap.size w).alloc (Nat.le_refl _) _).block b hb)
      · rcases hob with e | e
        · rw [e]; exact hne
        · rw [e]; intro e'; have := Option.some.inj e'; simp at this; omega
    · have := hg.size; simp at this; omega
theorem mem_atS (l : List Sp) (x : Int) : mem l x = decide (0 < atS l x) := by
  induction l with
  | nil => rfl
  | cons s l ih =>
    have := (atS_nonneg l x).1
    rw [mem_cons, ih, atS, Bool.eq_iff_iff]
    simp only [Bool.or_eq_true, Bool.and_eq_true, decide_eq_true_eq]
    split <;> omega
theorem mem_sumAt {F : List Dep} (h : ∀ f ∈ F, 0 < f.1) (x : Int) : mem (F.map (·.2)) x = decide (0 < sumAt F x) ∧ 0 ≤ sumAt F x := by
  induction F with
  | nil => exact ⟨rfl, Int.le_refl _⟩
  | cons f F ih =>
    obtain ⟨h1, h2⟩ := ih (fun g hg => h g (by simp [hg]))
    have h3 := h f (by simp)
    rw [List.map_cons, mem_cons, h1, sumAt]
    refine ⟨?_, by split <;> omega⟩
    rw [Bool.eq_iff_iff]
    simp only [Bool.or_eq_true, Bool.and_eq_true, decide_eq_true_eq]
    split <;> omega
theorem sumAt_part {F : List Dep} (h : ∀ f ∈ F, 0 < f.1) (x : Int) (k : Nat) : 0 ≤ sumAt (F.take k) x ∧ sumAt (F.take k) x ≤ sumAt F x := by
  have h1 := (mem_sumAt (F := F.take k) (fun f hf => h f (List.mem_of_mem_take hf)) x).2
  have h2 := (mem_sumAt (F := F.drop k) (fun f hf => h f (List.mem_of_mem_drop hf)) x).2
  have h3 := sumAt_append (F.take k) (F.drop k) x
  rw [List.take_append_drop] at h3
  omega
theorem sumAt_step {F : List Dep} {k : Nat} (hk : k < F.length) (x : Int) : sumAt (F.take (k + 1)) x = sumAt (F.take k) x + (if df F k ≤ x ∧ x < dt F k then dn F k else 0) := by
  rw [dep_take hk, sumAt_append, sumAt_one]
theorem dRun_len (l : List Sp) : ∀ E : List Int, (dRun l E).out.length ≤ E.length := by
  refine snocRec (by simp [dRun]) ?_
  intro E p ih
  rw [dRun_snoc, dStep, List.length_append, List.length_singleton]
  split
  · omega
  · dsimp only
    split
    · rw [List.length_append]; simp only [List.length_cons, List.length_nil]; omega
    · omega
theorem dep_len {l : List Sp} {F : List Dep} (h : DepRes l F) : F.length ≤ 2 * l.length := by
  obtain ⟨E, hE, rfl⟩ := h
  have h1 := dRun_len l E
  have h2 : E.length ≤ (l.flatMap fun s => [s.1, s.2]).length := nodup_sub (by
    rw [List.nodup_iff_pairwise_ne]; exact hE.asc.imp fun h => Int.ne_of_lt h) (fun y hy => by
      obtain ⟨s, hs, h⟩ := (hE.mem y).1 hy
      exact List.mem_flatMap.2 ⟨s, hs, by rcases h with rfl | rfl <;> simp⟩)
  have h3 : ∀ m : List Sp, (m.flatMap fun s => [s.1, s.2]).length = 2 * m.length := fun m => by
    induction m with
    | nil => rfl
    | cons s m ih => rw [List.flatMap_cons, List.length_append, ih]; simp; omega
  rw [h3] at h2
  omega
theorem dep_ok {l : List Sp} {F : List Dep} (ho : l.all okSpan = true) (h : DepRes l F) : (F.map (·.2)).all okSpan = true := by
  have hs : ∀ s ∈ l, s.1 < s.2 := fun s hs => (okS_all ho s hs).2.1
  rw [List.all_eq_true]
  intro s hs'
  obtain ⟨f, hf, rfl⟩ := List.mem_map.1 hs'
  obtain ⟨_, h2, ⟨a, ha, ha'⟩, ⟨b, hb, hb'⟩⟩ := (dep_sum hs h).2 f hf
  have o1 := okS_all ho a ha
  have o2 := okS_all ho b hb
  unfold OkSp at o1 o2
  rw [okSpan_iff]; unfold OkSp
  omega
theorem dep_mem_eq {l : List Sp} {F : List Dep} (ho : l.all okSpan = true) (h : DepRes l F) (x : Int) : mem (F.map (·.2)) x = mem l x := by
  have hs : ∀ s ∈ l, s.1 < s.2 := fun s hs => (okS_all ho s hs).2.1
  obtain ⟨h1, h2⟩ := dep_sum hs h
  rw [(mem_sumAt (fun f hf => (h2 f hf).1) x).1, mem_atS, h1 x]
theorem spansF {F : List Dep} {k : Nat} (hk : k < F.length) : ((F.take k).map (·.2)) ++ [(df F k, dt F k)] = (F.take (k + 1)).map (·.2) := by
  rw [dep_take hk]; simp

set_option maxRecDepth 100000 in
set_option maxHeartbeats 4000000 in
theorem lawDepths_c (v : Value) (l : List Sp) (x : Int) (w : World) (h1 : IsSpans w v l) :
    Calls Try.prog 11 #[v, .int .i64 x] w (Ret w (.bool true)) := by
  obtain ⟨A, c, rfl, hnc, hc⟩ := h1.form
  have hla : l.length ≤ 9223372036854775807 := by omega
  go_enter Try.func11, Try.ntmps11
  go_wp2_with fail
  refine (awake44_c _).mono ?_
  rintro e w1 ⟨rfl, hB⟩
  have h1 := h1.below hB
  go_wp2_with fail
  refine (great44_c _ [l.length] _ (by exact slices_one w1.heap.size rfl hla)).mono ?_
  rintro e w2 ⟨rfl, rfl⟩
  have hB := hB.alloc hB.size (.cells #[.slice A l.length c] 22)
  have h1 := h1.alloc (.cells #[.slice A l.length c] 22)
  cases hg : anyLong60 [l.length]
  · have hl : l.length ≤ 60 := by simpa [anyLong60, longAt60] using hg
    clear hg
    generalize w1.alloc (.cells #[.slice A l.length c] 22) = w2 at *
    go_wp2_with fail
    refine (sDepth_c _ l _ h1).mono ?_
    rintro e w3 ⟨F, v3, hF, rfl, h3, hb⟩
    have h1 := h1.below hb
    have hB := hB.trans (hb.mono hB.size)
    clear hb
    have hval := r44Valid_c _ l _ h1
    cases hr : rightB l
    · rw [if_neg (by rw [hr]; exact Bool.false_ne_true)] at hF
      subst hF
      obtain ⟨A3, c3, rfl, _, _⟩ := h3.form
      rw [hr] at hval
      have Hv := Lib.hid hval
      clear hval hr
      go_wp2_with fail
      refine Hv.out.mono ?_
      rintro e w4 ⟨rfl, hb⟩
      have hB := hB.trans (hb.mono hB.size)
      go_wp2
      go_ret
      exact ⟨rfl, hB⟩
    · rw [if_pos hr] at hF
      rw [hr] at hval
      have Hv := Lib.hid hval
      have hok := rightB_ok hr
      have hs : ∀ s ∈ l, s.1 < s.2 := fun s hs => (okS_all hok s hs).2.1
      have HF := Lib.hid hF; have Hok := Lib.hid hok; have Hs := Lib.hid hs
      have hFl := dep_len hF
      obtain ⟨hsum, hpos⟩ := dep_sum hs hF
      have hpos1 : ∀ f ∈ F, 0 < f.1 := fun f hf => (hpos f hf).1
      have Hpart := Lib.hid (fun k => sumAt_part hpos1 x k)
      have hsx := hsum x
      have han := atS_nonneg l x
      have Hsx := Lib.hid hsx
      clear hval hr hF hok hs hsum hpos hpos1 hsx
      go_wp2_with fail
      refine Hv.out.mono ?_
      rintro e w4 ⟨rfl, hb⟩
      have h1 := h1.below hb
      have h3 := h3.below hb
      have hB := hB.trans (hb.mono hB.size)
      clear hb
      go_wp2_with fail
      refine (r44Depth_c _ l _ h1 (by omega) Hs.out).mono ?_
      rintro e w5 ⟨F', v5, hF', rfl, h5, hb⟩
      obtain rfl := dep_one HF.out hF'
      have h1 := h1.below hb
      have h3 := h3.below hb
      have hB := hB.trans (hb.mono hB.size)
      clear hb hF'
      go_wp2_with fail
      refine (law44same_c _ _ F _ h3 h5).mono ?_
      rintro e w6 ⟨rfl, hb⟩
      have h1 := h1.below hb
      have h3 := h3.below hb
      have hB := hB.trans (hb.mono hB.size)
      clear hb h5
      obtain ⟨A3, c3, rfl, hn3, hc3⟩ := h3.form
      go_wp2
      go_loopw [6, 36] (fun m i wr => ∃ (k : Nat) (N : Int), i = .int .i64 k ∧ m = .int .i64 N ∧ k ≤ l.length ∧ 0 ≤ N ∧ N ≤ k ∧ Hid (N = atS (l.take k) x) ∧ Below w6.heap.size w6 wr) (fun _ i _ => l.length - (intOf i).toNat)
      case atStart => exact ⟨0, 0, rfl, rfl, Nat.zero_le _, Int.le_refl _, Int.le_refl _, by rw [List.take_zero]; exact rfl, Below.refl _ _⟩
      case round =>
        obtain ⟨k, N, rfl, rfl, hk, hN0, hN1, HN, hbw⟩ := hrel
        by_cases hlt : k < l.length
        · obtain ⟨b, off, rfl, hbk⟩ := h1.addr (by omega)
          have c0 := (h1.below hbw).c0 k hlt
          have c1 := (h1.below hbw).c1 k hlt
          have hst := atS_take (x := x) hlt
          rw [← HN.out] at hst
          generalize fr l k = p at *
          generalize tt l k = q at *
          have hal := hbw.alloc hbw.size (.cells #[.int .i64 p, .int .i64 q] 31)
          have hgo : (p ≤ x ∧ x < q ∧ Hid (atS (l.take (k + 1)) x = N + 1)) ∨ (p ≤ x ∧ ¬ x < q ∧ Hid (atS (l.take (k + 1)) x = N)) ∨ (¬ p ≤ x ∧ Hid (atS (l.take (k + 1)) x = N)) := by
            by_cases e1 : p ≤ x
            · by_cases e2 : x < q
              · exact .inl ⟨e1, e2, by rw [if_pos ⟨e1, e2⟩] at hst; exact hst⟩
              · exact .inr (.inl ⟨e1, e2, by rw [if_neg (fun h => e2 h.2), Int.add_zero] at hst; exact hst⟩)
            · exact .inr (.inr ⟨e1, by rw [if_neg (fun h => e1 h.1), Int.add_zero] at hst; exact hst⟩)
          clear hst HN
          rcases hgo with ⟨e1, e2, Hst⟩ | ⟨e1, e2, Hst⟩ | ⟨e1, Hst⟩
          · go_wp2
            go_roundw
            case rel => exact ⟨k + 1, N + 1, by go_num, by go_num, by omega, by omega, by omega, Hst.out.symm, hal⟩
            case measure => simp [intOf]; omega
          · go_wp2
            go_roundw
            case rel => exact ⟨k + 1, N, by go_num, by go_num, by omega, by omega, by omega, Hst.out.symm, hal⟩
            case measure => simp [intOf]; omega
          · go_wp2
            go_roundw
            case rel => exact ⟨k + 1, N, by go_num, by go_num, by omega, by omega, by omega, Hst.out.symm, hal⟩
            case measure => simp [intOf]; omega
        · obtain rfl : k = l.length := by omega
          have hNe := HN.out
          rw [List.take_length] at hNe
          have h1 := h1.below hbw
          have h3 := h3.below hbw
          have hB := hB.trans (hbw.mono hB.size)
          obtain ⟨w7, rfl⟩ : ∃ w7 : World, w7 = wr := ⟨_, rfl⟩
          have HNe := Lib.hid hNe
          clear HN hbw hNe
          go_wp2
          go_loopw [6, 9, 55] (fun m o i wr => ∃ (k : Nat) (M : Int), i = .int .i64 k ∧ m = .int .i64 M ∧ k ≤ F.length ∧ 0 ≤ M ∧ M ≤ 60 ∧ Hid (M = atS l x - sumAt (F.take k) x) ∧ wr.ownsRow w7.heap.size 31 2 o ((F.take k).map (·.2)).length (flat ((F.take k).map (·.2))) ∧ Below w7.heap.size w7 wr) (fun _ _ i _ => F.length - (intOf i).toNat)
          case atStart => exact ⟨0, N, rfl, rfl, Nat.zero_le _, hN0, by omega, by rw [HNe.out, List.take_zero]; show atS l x = atS l x - 0; omega, own_nil _ _ _ _, Below.refl _ _⟩
          case round =>
            obtain ⟨k, M, rfl, rfl, hk, hM0, hM1, HM, hown, hbw⟩ := hrel
            by_cases hlt : k < F.length
            · obtain ⟨g1, o1, rfl, hg1⟩ := h3.addr (by omega)
              obtain ⟨vb, vo, vc, f0, f1, f2, f3, f4, f5, f6, f7, f8⟩ := h3.row k hlt
              have hst := sumAt_step hlt x
              have hp1 := Hpart.out (k + 1)
              have Hsp := Lib.hid (spansF hlt)
              have hln : ((F.take k).map (·.2)).length < 1000000000 := by simp; omega
              rw [Hsx.out] at hp1
              have hME := HM.out
              generalize dn F k = n at *
              generalize df F k = p at *
              generalize dt F k = q at *
              have g0 := (hbw.cell (p := ⟨g1, o1 + k * 3, none⟩) hg1).trans f0
              have g1' := (hbw.cell (p := ⟨g1, o1 + k * 3 + 1, none⟩) hg1).trans f1
              have g2' := (hbw.cell (p := ⟨g1, o1 + k * 3 + 2, none⟩) hg1).trans f2
              have F7 := Lib.hid f7
              clear f0 f1 f2 f6 f7 f8
              have hal := hbw.alloc hbw.size (.cells #[.slice (some ⟨vb, vo, none⟩) 1 vc, .int .i64 p, .int .i64 q] 36)
              have hown1 := hown.alloc (.cells #[.slice (some ⟨vb, vo, none⟩) 1 vc, .int .i64 p, .int .i64 q] 36)
              have b0 : (wr.alloc (.cells #[.slice (some ⟨vb, vo, none⟩) 1 vc, .int .i64 p, .int .i64 q] 36)).cell? ⟨wr.heap.size, 0, none⟩ = some (.slice (some ⟨vb, vo, none⟩) 1 vc) := by simp
              have b1 : (wr.alloc (.cells #[.slice (some ⟨vb, vo, none⟩) 1 vc, .int .i64 p, .int .i64 q] 36)).cell? ⟨wr.heap.size, 1, none⟩ = some (.int .i64 p) := by simp
              have b2 : (wr.alloc (.cells #[.slice (some ⟨vb, vo, none⟩) 1 vc, .int .i64 p, .int .i64 q] 36)).cell? ⟨wr.heap.size, 2, none⟩ = some (.int .i64 q) := by simp
              have hxs : wr.heap.size < (wr.alloc (.cells #[.slice (some ⟨vb, vo, none⟩) 1 vc, .int .i64 p, .int .i64 q] 36)).heap.size := by simp
              have hown0 := Lib.hid (fun j (hj : Value.ownBlock _ = some j) => (hown.lt j hj).2)
              generalize hw8 : wr.alloc (.cells #[.slice (some ⟨vb, vo, none⟩) 1 vc, .int .i64 p, .int .i64 q] 36) = w8 at *
              clear hown
              have hgo : (p ≤ x ∧ x < q ∧ 0 ≤ M - n ∧ M - n ≤ 60 ∧ Hid (M - n = atS l x - sumAt (F.take (k + 1)) x)) ∨ (p ≤ x ∧ ¬ x < q ∧ Hid (M = atS l x - sumAt (F.take (k + 1)) x)) ∨ (¬ p ≤ x ∧ Hid (M = atS l x - sumAt (F.take (k + 1)) x)) := by
                by_cases e1 : p ≤ x
                · by_cases e2 : x < q
                  · rw [if_pos ⟨e1, e2⟩] at hst
                    exact .inl ⟨e1, e2, by omega, by omega, by rw [hME, hst]; show _ = _; omega⟩
                  · rw [if_neg (fun h => e2 h.2), Int.add_zero] at hst
                    exact .inr (.inl ⟨e1, e2, by rw [hst]; exact hME⟩)
                · rw [if_neg (fun h => e1 h.1), Int.add_zero] at hst
                  exact .inr (.inr ⟨e1, by rw [hst]; exact hME⟩)
              clear hst hME HM hp1
              rcases hgo with ⟨e1, e2, e3, e4, Hst⟩ | ⟨e1, e2, Hst⟩ | ⟨e1, Hst⟩
              all_goals
                go_wp2_with (at_builtin; refine append_spanG tSpans tSpanInfo (by rfl) (.tmp 63) (.tmp 66) (by rfl) w7.heap.size _ ((F.take k).map (·.2)) p q (by rfl) hown1 (by rfl) hln hal.size ?_; intro v9 w9 hown9 hb9 hblk9 hsz9; obtain ⟨qq, _⟩ := hblk9 wr.heap.size hxs (fun e => absurd (hown0.out _ e) (Nat.lt_irrefl _)); have y0 := (World.cell?_of_block (a := ⟨wr.heap.size, 0, none⟩) qq).trans b0; have y1 := (World.cell?_of_block (a := ⟨wr.heap.size, 1, none⟩) qq).trans b1; have y2 := (World.cell?_of_block (a := ⟨wr.heap.size, 2, none⟩) qq).trans b2; have hbw9 := hal.trans hb9; have y7 := (hbw9.cell (p := ⟨vb, vo + 1, none⟩) f5).trans F7.out; rw [Hsp.out] at hown9; clear b0 b1 b2 qq hblk9 hown1)
                go_roundw
                case rel => first | exact ⟨k + 1, M - n, by go_num, by go_num, by omega, by omega, by omega, Hst, hown9, hbw9⟩ | exact ⟨k + 1, M, by go_num, by go_num, by omega, by omega, by omega, Hst, hown9, hbw9⟩
                case measure => simp [intOf]; omega
            · obtain rfl : k = F.length := by omega
              have hM0 : M = 0 := by
                have := HM.out
                rw [List.take_length, Hsx.out] at this
                omega
              subst hM0
              rw [List.take_length] at hown
              have hsp := spans_of_own hown
              have h1 := h1.below hbw
              have hB := hB.trans (hbw.mono hB.size)
              have hml : (F.map (·.2)).length ≤ 1000 := by simp; omega
              have hmo := dep_ok Hok.out HF.out
              have hme := dep_mem_eq Hok.out HF.out
              have Hmo := Lib.hid hmo; have Hme := Lib.hid hme
              clear HM hown hbw hmo hme
              go_wp2_with fail
              refine (rOf_c _ _ _ hsp (by omega)).mono ?_
              rintro e w10 ⟨r1, hr1, v10, rfl, h10, hb⟩
              have h1 := h1.below hb
              have hB := hB.trans (hb.mono hB.size)
              clear hb
              go_wp2_with fail
              refine (rOf_c _ l _ h1 (by omega)).mono ?_
              rintro e w11 ⟨r2, hr2, v11, rfl, h11, hb⟩
              replace h10 := h10.below hb
              have hB := hB.trans (hb.mono hB.size)
              clear hb
              obtain ⟨z1, z2, z3, _, _⟩ := of_small hr1 hml Hmo.out
              obtain ⟨t1, t2, t3, _, _⟩ := of_small hr2 (by omega) Hok.out
              have heq : r1.1 = r2.1 := canon_ext ((validB_iff _).1 z2).2 ((validB_iff _).1 t2).2 (fun y => by rw [z3, t3, Hme.out])
              obtain ⟨a1, k1⟩ := r1
              obtain ⟨a2, k2⟩ := r2
              simp only at z1 z2 t1 t2 heq h10 h11
              subst heq z1 t1
              have hcall := fun W (h : IsSpans W v10 a1) (h' : IsSpans W v11 a1) => rEqual_c v10 v11 a1 a1 W h h'
              rw [z2, (sameL_iff a1 a1).2 rfl] at hcall
              have Hcall := Lib.hid hcall
              clear hcall z2 z3 t2 t3 hr1 hr2
              go_wp2_with fail
              refine (Hcall.out _ h10 h11).mono ?_
              rintro e w12 ⟨rfl, hb⟩
              have hB := hB.trans (hb.mono hB.size)
              go_wp2
              go_ret
              exact ⟨rfl, hB⟩
  · go_wp2
    go_ret
    exact ⟨rfl, hB⟩

set_option maxRecDepth 100000 in
theorem lawDepths_lifted (os : Os) (started : os.Started) (H : Type) (enc : TypeId × Value → H) :
    ReturnsInHanded {} Try.checked os 11 .any (Rows.sweepDepthsSpec.pre6 enc Try.prog Try.f11 Rows.sweepDepthsRow.domain false) (Rows.sweepDepthsSpec.post enc Try.prog Try.f11 false true false false) := by
  refine returnsInHanded_of_change (C := Try.checked) Try.own started (by kernel_rfl) Try.func11
    (ChangeSpec.witness6 (enc := enc) (C := Try.checked) false ⟨#[], #[.slice none 0 0, .int .i64 0], []⟩ 8 (by kernel_rfl) (by kernel_rfl) (by kernel_rfl) (by kernel_rfl)) ?_
  intro W base args ds gs before hval0 hW hcnd _
  have hval : ∀ (j : Nat) t v, Try.f11.params[j]? = some t → args[j]? = some v → Value.okWide Try.prog W .any base t v := hval0
  have hW' := hW
  obtain ⟨p, q, hA0, hV, rfl, hfz, hnd⟩ := hW
  have hA : DataW.TrodAll enc Try.prog W 0 (fun _ => true) true Try.f11.params.toList args.toList ds p := hA0
  have hA1 := hA0
  rw [Try.params11] at hA hval
  obtain ⟨v0, v1, d0, d1, p0, p1, rfl, rfl, hp, h0, h1⟩ := trodAll_two hA
  obtain ⟨rfl, rfl⟩ := trodVars_none hV
  obtain ⟨l, g0, r0⟩ := open_spans (hval 0 22 v0 rfl rfl) h0
  obtain ⟨x, rfl, rfl, rfl, g1⟩ := open_int Try.underlying3 (hval 1 3 v1 rfl rfl) h1
  clear hA0 hval0
  have hlt : ∀ x ∈ p, x.block < W.heap.size := fun x hx => hW'.lt x (by simp [hx])
  refine (lawDepths_c v0 l x W g0).mono fun e W' ⟨he, hg⟩ => ?_
  subst he
  exact ⟨_, rfl, post_of_below (pa := p) (pv := []) hW' (fun _ _ _ => trodAll_mk1 (shut_bool Try.underlying4 _))
    (fun sp hsp => trodAll_keep Try.laidOut hg (by kernel_rfl) hA1 hlt (fun x hx => hsp x (by simp [hx])))
    (fun _ _ => rfl) rfl hg (ok_one (by kernel_rfl) rfl (okWide_bool_mk Try.underlying4 _))⟩

theorem lawDepths_holds : Rows.SweepDepthsSaid :=
  OpenClaim.holds_of_wide 11 Try.f11 rfl rfl rfl rfl rfl rfl rfl ⟨rfl, rfl, rfl, rfl, rfl⟩ rfl rfl rfl rfl rfl (by kernel_rfl) Try.func11 (by kernel_rfl)
    (of_decide_eq_true (by kernel_rfl)) (by unfold Func.isWrapper; first | (rw [if_pos (by decide +kernel)]; kernel_rfl) | (rw [if_neg (by decide +kernel)]; exact ⟨rfl, rfl⟩))
    (fun os started H enc _ => lawDepths_lifted os started H enc)
#print axioms lawDepths_holds
end Go.Proofs.Ytahpcepnagpbdaa
