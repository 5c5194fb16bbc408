/- IndexOrder: a tree that was built, and one into which the same entries were inserted one by one in another order, have the same entries; and so has one from which an entry was deleted and inserted again. For every list of intervals and every number. No condition. -/
import Derived.Test.YtgdcgdjlhljbiaaIyT
namespace Go.Proofs.Ytgdcgdjlhljbiaa
open Go.RowKit Go.Shelf Go.ChangeShapes Go.WideShapes Go.ChangeAt

theorem law42Order1_c (p q : Int) (w : World) : Calls Try.prog 41 #[.agg #[.int .i64 p, .int .i64 q]] w (Ret w (.bool (!okSpan (p, q)))) := by
  have hb1 := (Below.refl w.heap.size w).alloc (Nat.le_refl _) (.cells #[.int .i64 p, .int .i64 q] 33)
  cases ho : okSpan (p, q)
  all_goals
    have Ho := Lib.hid ho
    clear ho
    go_enter Try.func41, Try.ntmps41
    go_wp2_with fail
    refine (ivValid_c p q _).mono ?_
    rw [Ho.out]
    rintro e w1 ⟨rfl, hb⟩
    go_wp2_with fail
    go_ret
    exact ⟨rfl, hb1.trans (hb.mono hb1.size)⟩
theorem ent_law42Order1 : ∀ (args : Array Value) (w : World), Sem.run Try.prog (callFunc 41 args) w = .ok (.enter 41 args) w := fun _ _ => by kernel_rfl
theorem pred_law42Order1 (w : World) : PredBelow Try.prog 41 #[] (fun x => .agg (encSp x).toArray) (fun s => !okSpan s) w := fun W x hb =>
  (law42Order1_c x.1 x.2 W).mono fun _ _ ⟨he, hb'⟩ => ⟨he, hb.trans (hb'.mono hb.size)⟩
theorem order_bad (v : Value) (l : List Sp) (w : World) (hs : IsSpans w v l) (b : Bool) (ho : l.all okSpan = b) : Calls Try.prog 17 #[v, .func (.func 41) #[] #[]] w (Ret w (.bool (!b))) := by
  have h := slContainsSpan_c (fun s => !okSpan s) 41 #[] ent_law42Order1 v l w hs (pred_law42Order1 w)
  rwa [show l.any (fun s => !okSpan s) = !l.all okSpan from by rw [List.not_all_eq_any_not], ho] at h
theorem wfu8 {n : Int} (h : (Lit.int .u8 n).wf = true) : 0 ≤ n ∧ n ≤ 255 := by
  simp [Lit.wf, IntKind.min, IntKind.max, IntKind.signed, IntKind.bits] at h
  omega
/-- The tree of the entries from an index on, in its box. -/
def OrdSt (b : Nat) (L : List En) (w : World) : Prop := ∃ A c N r, w.heap[b]? = some (.cells #[.slice A (List.length N) c, .int .i64 r] 24 (0, 0)) ∧ IsNodes w (.slice A (List.length N) c) N ∧ treeB N r = true ∧ (entsT N r).Perm L
set_option maxRecDepth 100000 in
set_option maxHeartbeats 8000000 in
theorem law42Order_c (v : Value) (l : List Sp) (kk : Int) (w : World) (hs : IsSpans w v l) (hk0 : 0 ≤ kk) (hk1 : kk ≤ 255) : Calls Try.prog 11 #[v, .int .u8 kk] w (Ret w (.bool true)) := by
  obtain ⟨A, c, rfl, hnc, hc⟩ := hs.form
  have Hs := Lib.hid hs; clear hs
  by_cases hg : 60 < l.length
  · have g1 : decide ((60 : Int) < (l.length : Int)) = true := decide_eq_true (by omega)
    clear hg
    go_enter Try.func11, Try.ntmps11
    go_wp2_with fail
    refine (awake42_c _).mono ?_
    rintro e w2 ⟨rfl, hb2⟩
    go_wp2_with fail
    go_ret
    exact ⟨rfl, hb2⟩
  have g1 : decide ((60 : Int) < (l.length : Int)) = false := decide_eq_false (by omega)
  cases ho : l.all okSpan
  · have CB := Lib.hid fun W h => order_bad (.slice A l.length c) l W h false ho
    clear ho hg
    go_enter Try.func11, Try.ntmps11
    go_wp2_with fail
    refine (awake42_c _).mono ?_
    rintro e w2 ⟨rfl, hb2⟩
    go_wp2_with fail
    refine (CB.out _ (Hs.out.below hb2)).mono ?_
    rintro e w3 ⟨rfl, hb3⟩
    go_wp2_with fail
    go_ret
    exact ⟨rfl, hb2.trans (hb3.mono hb2.size)⟩
  have CB := Lib.hid fun W h => order_bad (.slice A l.length c) l W h true ho
  have BB := Lib.hid fun W h => xBuild_t (.slice A l.length c) l W h ho (by omega)
  have B0 := Lib.hid fun W => xBuild_t (.slice none 0 0) [] W IsSpans.nil rfl (by simp)
  have HO := Lib.hid ho; have Hg := Lib.hid hg
  clear ho hg
  go_enter Try.func11, Try.ntmps11
  go_wp2_with fail
  refine (awake42_c _).mono ?_
  rintro e w2 ⟨rfl, hb2⟩
  go_wp2_with fail
  refine (CB.out _ (Hs.out.below hb2)).mono ?_
  rintro e w3 ⟨rfl, hb3⟩
  have hB := hb2.trans (hb3.mono hb2.size)
  clear hb2 hb3
  go_wp2_with fail
  refine (BB.out _ (Hs.out.below hB)).mono ?_
  rintro e w4 ⟨A5, c5, N5, r5, rfl, hn5, ht5, hp5, hb4⟩
  have hB := hB.trans (hb4.mono hB.size)
  have HB := Lib.hid hB; have Hn5 := Lib.hid hn5; have Ht5 := Lib.hid ht5; have Hp5 := Lib.hid hp5
  clear hB hn5 ht5 hp5 hb4 CB BB
  go_wp2_with fail
  obtain ⟨w5, hw5⟩ : ∃ y, y = w4.alloc (.cells #[.slice A5 N5.length c5, .int .i64 r5] 24) := ⟨_, rfl⟩
  obtain ⟨b5, hb5⟩ : ∃ y, y = w4.heap.size := ⟨_, rfl⟩
  have hx := (Below.refl w4.heap.size w4).alloc (Nat.le_refl _) (.cells #[.slice A5 N5.length c5, .int .i64 r5] 24)
  have hT5 := heap_alloc_new w4 (.cells #[.slice A5 N5.length c5, .int .i64 r5] 24)
  rw [← hw5] at hx hT5 ⊢
  rw [← hb5] at hT5 ⊢
  have hn5 := Hn5.out.nodes.below hx
  have hB := HB.out.trans (hx.mono HB.out.size)
  have HB := Lib.hid hB; have Hn5 := Lib.hid hn5; have HT5 := Lib.hid hT5
  clear hx hT5 hn5 hB hw5 hb5
  refine (B0.out _).mono ?_
  rintro e w6 ⟨A6, c6, N6, r6, rfl, hn6, ht6, hp6, hb6⟩
  have hB := HB.out.trans (hb6.mono HB.out.size)
  have hn5 := Hn5.out.below hb6
  have hT5 := (hb6.block _ (lt_of_block HT5.out)).trans HT5.out
  have HB := Lib.hid hB; have Hn5 := Lib.hid hn5; have HT5 := Lib.hid hT5; have Hn6 := Lib.hid hn6; have Ht6 := Lib.hid ht6; have Hp6 := Lib.hid hp6
  clear hB hn5 hT5 hn6 ht6 hp6 hb6 B0
  have FN5 : Hid (∀ X, Below w6.heap.size w6 X → IsNodes X (.slice A5 N5.length c5) N5) := Lib.hid fun X h => Hn5.out.below h
  have FT5 : Hid (∀ X, Below w6.heap.size w6 X → X.heap[b5]? = some (.cells #[.slice A5 N5.length c5, .int .i64 r5] 24 (0, 0))) := Lib.hid fun X h => (h.block _ (lt_of_block HT5.out)).trans HT5.out
  have FS : Hid (∀ X, Below w6.heap.size w6 X → IsSpans X (.slice A l.length c) l) := Lib.hid fun X h => Hs.out.below (HB.out.trans (h.mono HB.out.size))
  have FB : Hid (∀ X, Below w6.heap.size w6 X → Below w.heap.size w X) := Lib.hid fun X h => HB.out.trans (h.mono HB.out.size)
  have Hlt5 := Lib.hid (lt_of_block HT5.out)
  clear HB Hn5 HT5 Hs
  go_wp2_with fail
  obtain ⟨w7, hw7⟩ : ∃ y, y = w6.alloc (.cells #[.slice A6 N6.length c6, .int .i64 r6] 24) := ⟨_, rfl⟩
  obtain ⟨b7, hb7⟩ : ∃ y, y = w6.heap.size := ⟨_, rfl⟩
  have hx := (Below.refl w6.heap.size w6).alloc (Nat.le_refl _) (.cells #[.slice A6 N6.length c6, .int .i64 r6] 24)
  have hT7 := heap_alloc_new w6 (.cells #[.slice A6 N6.length c6, .int .i64 r6] 24)
  rw [← hw7] at hx hT7 ⊢
  rw [← hb7] at hT7 ⊢
  have hn7 := Hn6.out.nodes.below hx
  have Hx := Lib.hid hx; have HT7 := Lib.hid hT7; have Hn7 := Lib.hid hn7; have Hb7 := Lib.hid hb7
  clear hx hT7 hn7 hw7 hb7
  have wl : IntKind.i64.wrap ((l.length : Int) - 1) = (l.length : Int) - 1 := by rw [IntKind.wrap_i64]; omega
  go_wp2_with fail
  go_loopw [8, 9] (fun f i wr => ∃ k : Nat, k ≤ l.length ∧ i = .int .i64 ((k : Int) - 1) ∧ f = .int .i64 0 ∧ OrdSt b7 (ixD l k) wr ∧ Below w6.heap.size w6 wr) (fun _ i _ => (intOf i + 1).toNat)
  case atStart => exact ⟨l.length, Nat.le_refl _, rfl, rfl, ⟨A6, c6, N6, r6, HT7.out, Hn7.out, Ht6.out, by rw [ixD_end]; exact Hp6.out⟩, Hx.out⟩
  case round =>
    obtain ⟨k, hk, rfl, rfl, hst, hb⟩ := hrel
    cases k with
    | succ k =>
      have e0 : ((k + 1 : Nat) : Int) - 1 = (k : Int) := by omega
      rw [e0]
      clear e0
      obtain ⟨A9, c9, N9, r9, hT9, hn9, ht9, hp9⟩ := hst
      have hsr := FS.out _ hb
      obtain ⟨g, off, rfl, hbk⟩ := hsr.addr (by omega)
      have c0 := hsr.c0 k (by omega)
      have c1 := hsr.c1 k (by omega)
      have u0 := blk_cell hT9 0
      have u1 := blk_cell hT9 1
      simp at u0 u1
      have FC : Hid (∀ X, Below w6.heap.size w6 X → X.cell? ⟨g, off + k * 2, none⟩ = some (.int .i64 (fr l k)) ∧ X.cell? ⟨g, off + k * 2 + 1, none⟩ = some (.int .i64 (tt l k))) := Lib.hid fun X h => ⟨(FS.out X h).c0 k (by omega), (FS.out X h).c1 k (by omega)⟩
      have HK : Hid (∀ X s u, Below w6.heap.size w6 X → Below w6.heap.size w6 ((X.setCell ⟨b7, 0, none⟩ s).setCell ⟨b7, 1, none⟩ u)) := Lib.hid fun X s u h => (h.setCell (p := ⟨b7, 0, none⟩) (by simp only; rw [Hb7.out]; exact Nat.le_refl _) s).setCell (p := ⟨b7, 1, none⟩) (by simp only; rw [Hb7.out]; exact Nat.le_refl _) u
      have FT : Hid (∀ X, Below wr.heap.size wr X → X.heap[b7]? = some (.cells #[.slice A9 N9.length c9, .int .i64 r9] 24 (0, 0))) := Lib.hid fun X h => (h.block _ (lt_of_block hT9)).trans hT9
      have hok : okSpan (fr l k, tt l k) = true := List.all_eq_true.1 HO.out _ (idx_mem (by omega))
      have hnew : (fr l k, tt l k, (k : Int)) ∉ entsT N9 r9 := fun h => ixD_new l k (by omega) (hp9.mem_iff.1 h)
      have hlen : N9.length < 1000 := by
        have h1 := hp9.length_eq
        rw [tree_len ht9, ixD_len] at h1
        have := Hg.out
        omega
      have KI : Hid (∀ X, Below wr.heap.size wr X → Calls Try.prog 34 #[.agg #[.slice A9 N9.length c9, .int .i64 r9], .agg #[.int .i64 (fr l k), .int .i64 (tt l k)], .int .i64 (k : Int)] X (TreeMade ((fr l k, tt l k, (k : Int)) :: entsT N9 r9) X)) := Lib.hid fun X h => xInsert_t _ r9 _ _ _ N9 X (hn9.below h) ht9 hok hnew hlen
      have hpk : ((fr l k, tt l k, (k : Int)) :: entsT N9 r9).Perm (ixD l k) := by rw [ixD_step l k (by omega)]; exact List.Perm.cons _ hp9
      have Hpk := Lib.hid hpk; have Hb := Lib.hid hb; have Hlt7 := Lib.hid (lt_of_block hT9)
      have k0 : decide ((0 : Int) ≤ (k : Int)) = true := decide_eq_true (by omega)
      have k1 : (k : Int) < (l.length : Int) := by omega
      have k2 : (0 : Int) ≤ (k : Int) := by omega
      have k3 : IntKind.i64.wrap ((k : Int) - 1) = (k : Int) - 1 := by rw [IntKind.wrap_i64]; omega
      clear hsr hpk hb hok hnew hlen hT9 hn9 ht9 hp9
      go_wp2_with fail
      have kb : Below wr.heap.size wr wr.drew := (Below.refl _ _).drew
      have k6 := Hb.out.trans (kb.mono Hb.out.size)
      clear u0 u1 c0 c1
      have u0 := blk_cell (FT.out _ kb) 0
      have u1 := blk_cell (FT.out _ kb) 1
      simp at u0 u1
      have c0 := (FC.out _ k6).1
      have c1 := (FC.out _ k6).2
      go_region_with (first
        | (go_at_call 34; (with_reducible refine (KI.out _ kb).mono ?_); rintro e Wa ⟨Aa, ca, Na, ra, rfl, oa, ta, pa, hba⟩; have kb := kb.trans (hba.mono kb.size); have k6 := k6.trans (hba.mono k6.size); have z0 := blk_frozen (FT.out _ kb) 0; have z1 := blk_frozen (FT.out _ kb) 1; have z2 := blk_cell (FT.out _ kb) 0; have z3 := blk_cell (FT.out _ kb) 1; have Oa := Lib.hid oa; have Ta := Lib.hid ta; have Pa := Lib.hid pa; clear hba oa ta pa)
        | fail)
      all_goals
        have hTa := FT.out _ kb
        have hfin : OrdSt b7 (ixD l k) ((Wa.setCell ⟨b7, 0, none⟩ (.slice Aa Na.length ca)).setCell ⟨b7, 1, none⟩ (.int .i64 ra)) :=
          ⟨Aa, ca, Na, ra, res_stored hTa _ _, (Oa.out.res _ _ Hlt7.out).nodes, Ta.out, Pa.out.trans Hpk.out⟩
        have h6 := HK.out _ (.slice Aa Na.length ca) (.int .i64 ra) k6
        generalize (Wa.setCell ⟨b7, 0, none⟩ (.slice Aa Na.length ca)).setCell ⟨b7, 1, none⟩ (.int .i64 ra) = W7 at *
        clear hTa z0 z1 z2 z3 u0 u1 c0 c1
        go_wp2_with fail
        go_roundw
        case rel => exact ⟨k, by omega, by go_num, rfl, hfin, h6⟩
        case measure => simp [intOf]
    | zero =>
      have e0 : ((0 : Nat) : Int) - 1 = -1 := rfl
      rw [e0]
      clear e0
      obtain ⟨A7, c7, N7, r7, hT7, hn7, ht7, hp7⟩ := hst
      rw [ixD_zero] at hp7
      have hse := same_ents Ht5.out ht7 Hp5.out hp7
      have FB2 : Hid (∀ X, Below wr.heap.size wr X → Below w6.heap.size w6 X) := Lib.hid fun X h => hb.trans (h.mono hb.size)
      have FT7 : Hid (∀ X, Below wr.heap.size wr X → X.heap[b7]? = some (.cells #[.slice A7 N7.length c7, .int .i64 r7] 24 (0, 0))) := Lib.hid fun X h => (h.block _ (lt_of_block hT7)).trans hT7
      have FC : Hid (∀ X, Below wr.heap.size wr X → X.cell? ⟨b5, 0, none⟩ = some (.slice A5 N5.length c5) ∧ X.cell? ⟨b5, 1, none⟩ = some (.int .i64 r5) ∧ X.cell? ⟨b7, 0, none⟩ = some (.slice A7 N7.length c7) ∧ X.cell? ⟨b7, 1, none⟩ = some (.int .i64 r7)) := Lib.hid fun X h => by
        have v0 := blk_cell (FT5.out X (FB2.out X h)) 0
        have v1 := blk_cell (FT5.out X (FB2.out X h)) 1
        have v2 := blk_cell (FT7.out X h) 0
        have v3 := blk_cell (FT7.out X h) 1
        simp at v0 v1 v2 v3
        exact ⟨v0, v1, v2, v3⟩
      have KC5 : Hid (∀ X, Below wr.heap.size wr X → Calls Try.prog 42 #[.agg #[.slice A5 N5.length c5, .int .i64 r5]] X (ColT (entsT N5 r5) X)) := Lib.hid fun X h => collect_t _ _ _ _ (FN5.out _ (FB2.out _ h)) Ht5.out
      have KC7 : Hid (∀ X, Below wr.heap.size wr X → Calls Try.prog 42 #[.agg #[.slice A7 N7.length c7, .int .i64 r7]] X (ColT (entsT N5 r5) X)) := Lib.hid fun X h => by rw [hse]; exact collect_t _ _ _ _ (hn7.below h) ht7
      have FN7 : Hid (∀ X, Below wr.heap.size wr X → IsNodes X (.slice A7 N7.length c7) N7) := Lib.hid fun X h => hn7.below h
      have Ht7 := Lib.hid ht7; have Hp7 := Lib.hid hp7
      clear hT7 hn7 ht7 hp7 hb hse
      go_wp2_with fail
      have kb : Below wr.heap.size wr wr.drew := (Below.refl _ _).drew
      go_region_held3 (fun X => X.cell? ⟨b5, 0, none⟩ = some (.slice A5 N5.length c5) ∧ X.cell? ⟨b5, 1, none⟩ = some (.int .i64 r5) ∧ X.cell? ⟨b7, 0, none⟩ = some (.slice A7 N7.length c7) ∧ X.cell? ⟨b7, 1, none⟩ = some (.int .i64 r7)) ((first | exact FC.out _ kb)) (first
        | (go_at_call 42; (with_reducible refine (KC5.out _ kb).mono ?_); rintro e Wa ⟨Aa, ca, rfl, o1, hba⟩; have kb := kb.trans (hba.mono kb.size); clear hba)
        | (go_at_call 42; (with_reducible refine (KC7.out _ kb).mono ?_); rintro e Wa ⟨Ab, cb, rfl, o2, hba⟩; have kb := kb.trans (hba.mono kb.size); have o1 := o1.below hba; clear hba)
        | (go_at_call 23; (with_reducible refine (equal_t _ _ _ _ o1 o2).mono ?_); rintro e Wa ⟨rfl, hba⟩; have kb := kb.trans (hba.mono kb.size); clear hba o1 o2)
        | fail)
      clear KC7
      obtain ⟨W1, hW1⟩ : ∃ y, y = Wa := ⟨_, rfl⟩
      rw [← hW1] at kb ⊢
      clear hW1
      rcases Nat.eq_zero_or_pos l.length with hl0 | hl0
      · have q0 : ((l.length : Int) == 0) = true := by rw [beq_iff_eq]; omega
        have HbF := Lib.hid (FB.out _ (FB2.out _ kb))
        clear hl0 kb wl hnc
        go_wp2_with fail
        go_ret
        exact ⟨rfl, HbF.out⟩
      have q0 : ((l.length : Int) == 0) = false := by rw [beq_eq_false_iff_ne]; omega
      obtain ⟨i, hi⟩ : ∃ i : Nat, Int.tmod kk l.length = (i : Int) := ⟨(Int.tmod kk l.length).toNat, by
        have := Int.tmod_nonneg (l.length : Int) hk0
        omega⟩
      have hil : i < l.length := by
        have := Int.tmod_lt_of_pos kk (show (0 : Int) < (l.length : Int) by omega)
        omega
      have kB := FB2.out _ kb
      have hsr := FS.out _ kB
      obtain ⟨g, off, rfl, hbk⟩ := hsr.addr hl0
      have Kb := Lib.hid kb
      have i1 : (i : Int) < (l.length : Int) := by omega
      have i2 : (0 : Int) ≤ (i : Int) := by omega
      have Hil := Lib.hid hil
      clear kb kB hsr wl
      go_wp2_with fail
      have hok : okSpan (fr l i, tt l i) = true := List.all_eq_true.1 HO.out _ (idx_mem hil)
      obtain ⟨L1, hp1, hx1, hl1⟩ := ixE_out l i hil
      have FC1 : Hid (∀ X, Below W1.heap.size W1 X → X.cell? ⟨g, off + i * 2, none⟩ = some (.int .i64 (fr l i)) ∧ X.cell? ⟨g, off + i * 2 + 1, none⟩ = some (.int .i64 (tt l i)) ∧ X.cell? ⟨b7, 0, none⟩ = some (.slice A7 N7.length c7) ∧ X.cell? ⟨b7, 1, none⟩ = some (.int .i64 r7)) := Lib.hid fun X h => by
        have k := Kb.out.trans (h.mono Kb.out.size)
        have f := FS.out X (FB2.out X k)
        exact ⟨f.c0 i hil, f.c1 i hil, (FC.out X k).2.2⟩
      have KD : Hid (∀ X, Below W1.heap.size W1 X → Calls Try.prog 32 #[.agg #[.slice A7 N7.length c7, .int .i64 r7], .agg #[.int .i64 (fr l i), .int .i64 (tt l i)], .int .i64 (i : Int)] X (TreeMade L1 X)) := Lib.hid fun X h => xDelete_t _ _ _ _ _ _ _ (FN7.out _ (Kb.out.trans (h.mono Kb.out.size))) Ht7.out hok L1 (Hp7.out.trans hp1)
      have Hok := Lib.hid hok; have Hp1 := Lib.hid hp1; have Hx1 := Lib.hid hx1; have Hl1 := Lib.hid hl1
      clear hok hp1 hx1 hl1
      have kb : Below W1.heap.size W1 W1.drew := (Below.refl _ _).drew
      have kA : Below W1.heap.size W1 (W1.alloc (.cells #[.slice none 0 0, .int .i64 0] 24)).drew := ((Below.refl _ _).alloc (Nat.le_refl _) _).drew
      have HA : Hid ((W1.alloc (.cells #[.slice none 0 0, .int .i64 0] 24)).drew.heap[W1.heap.size]? = some (.cells #[.slice none 0 0, .int .i64 0] 24 (0, 0))) := Lib.hid (heap_alloc_new W1 _)
      go_region_held3 (fun X => X.cell? ⟨g, off + i * 2, none⟩ = some (.int .i64 (fr l i)) ∧ X.cell? ⟨g, off + i * 2 + 1, none⟩ = some (.int .i64 (tt l i)) ∧ X.cell? ⟨b7, 0, none⟩ = some (.slice A7 N7.length c7) ∧ X.cell? ⟨b7, 1, none⟩ = some (.int .i64 r7)) ((first | exact FC1.out _ kb | exact FC1.out _ kA | exact FC1.out _ (kb.alloc kb.size _) | exact FC1.out _ ((kb.setCell (p := ⟨W1.heap.size, 0, none⟩) (Nat.le_refl _) _).setCell (p := ⟨W1.heap.size, 1, none⟩) (Nat.le_refl _) _))) (first
        | (go_at_call 32; (with_reducible refine (KD.out _ kb).mono ?_); rintro e Wa ⟨Aa, ca, Na, ra, rfl, oa, ta, pa, hba⟩; have kb := kb.trans (hba.mono kb.size); have Oa := Lib.hid oa; have Ta := Lib.hid ta; have Pa := Lib.hid pa; clear hba oa ta pa)
        | (go_at_call 32; (with_reducible refine (KD.out _ kA).mono ?_); rintro e Wa ⟨Aa, ca, Na, ra, rfl, oa, ta, pa, hba⟩; have hq := (hba.block _ (by simp)).trans HA.out; have kb := kA.trans (hba.mono kA.size); have z0 := blk_frozen hq 0; have z1 := blk_frozen hq 1; have z2 := blk_cell hq 0; have z3 := blk_cell hq 1; have Hq := Lib.hid hq; have Oa := Lib.hid oa; have Ta := Lib.hid ta; have Pa := Lib.hid pa; clear hba oa ta pa hq)
        | fail)
      all_goals (first
        | (have hT2 := res_stored Hq.out (.slice Aa Na.length ca) (.int .i64 ra)
           have hN2 := (Oa.out.res (R := W1.heap.size) (.slice Aa Na.length ca) (.int .i64 ra) (by simp)).nodes
           have k2 := (kb.setCell (p := ⟨W1.heap.size, 0, none⟩) (Nat.le_refl _) (.slice Aa Na.length ca)).setCell (p := ⟨W1.heap.size, 1, none⟩) (Nat.le_refl _) (.int .i64 ra)
           clear z0 z1 z2 z3
           generalize (Wa.setCell ⟨W1.heap.size, 0, none⟩ (.slice Aa Na.length ca)).setCell ⟨W1.heap.size, 1, none⟩ (.int .i64 ra) = W2 at hT2 hN2 k2 ⊢
           obtain ⟨b12, hb12⟩ : ∃ y, y = W1.heap.size := ⟨_, rfl⟩
           rw [← hb12] at hT2 ⊢)
        | (have hT2 := heap_alloc_new Wa (.cells #[.slice Aa Na.length ca, .int .i64 ra] 24)
           have hN2 := Oa.out.nodes.below ((Below.refl Wa.heap.size Wa).alloc (Nat.le_refl _) (.cells #[.slice Aa Na.length ca, .int .i64 ra] 24))
           have k2 := kb.alloc kb.size (.cells #[.slice Aa Na.length ca, .int .i64 ra] 24)
           generalize Wa.alloc (.cells #[.slice Aa Na.length ca, .int .i64 ra] 24) = W2 at hT2 hN2 k2 ⊢
           obtain ⟨b12, hb12⟩ : ∃ y, y = Wa.heap.size := ⟨_, rfl⟩
           rw [← hb12] at hT2 ⊢))
      all_goals
        clear hb12 kb kA HA KD FC1
        have k1 := Kb.out.trans (k2.mono Kb.out.size)
        have FK : Hid (∀ X, Below W2.heap.size W2 X → Below wr.heap.size wr X) := Lib.hid fun X h => k1.trans (h.mono k1.size)
        have FT2 : Hid (∀ X, Below W2.heap.size W2 X → X.heap[b12]? = some (.cells #[.slice Aa Na.length ca, .int .i64 ra] 24 (0, 0))) := Lib.hid fun X h => (h.block _ (lt_of_block hT2)).trans hT2
        have FN2 : Hid (∀ X, Below W2.heap.size W2 X → IsNodes X (.slice Aa Na.length ca) Na) := Lib.hid fun X h => hN2.below h
        have FC2 : Hid (∀ X, Below W2.heap.size W2 X → X.cell? ⟨g, off + i * 2, none⟩ = some (.int .i64 (fr l i)) ∧ X.cell? ⟨g, off + i * 2 + 1, none⟩ = some (.int .i64 (tt l i)) ∧ X.cell? ⟨b12, 0, none⟩ = some (.slice Aa Na.length ca) ∧ X.cell? ⟨b12, 1, none⟩ = some (.int .i64 ra)) := Lib.hid fun X h => by
          have f := FS.out X (FB2.out X (FK.out X h))
          have v0 := blk_cell (FT2.out X h) 0
          have v1 := blk_cell (FT2.out X h) 1
          simp at v0 v1
          exact ⟨f.c0 i Hil.out, f.c1 i Hil.out, v0, v1⟩
        have hx2 : (fr l i, tt l i, (i : Int)) ∉ entsT Na ra := fun h => Hx1.out (Pa.out.mem_iff.1 h)
        have hl2 : (entsT Na ra).length = l.length - 1 := Pa.out.length_eq.trans Hl1.out
        have KI : Hid (∀ X, Below W2.heap.size W2 X → Calls Try.prog 34 #[.agg #[.slice Aa Na.length ca, .int .i64 ra], .agg #[.int .i64 (fr l i), .int .i64 (tt l i)], .int .i64 (i : Int)] X (TreeMade ((fr l i, tt l i, (i : Int)) :: entsT Na ra) X)) := Lib.hid fun X h => xInsert_t _ _ _ _ _ _ _ (FN2.out _ h) Ta.out Hok.out hx2 (by have := tree_len Ta.out; have := Hg.out; omega)
        have Hl2 := Lib.hid hl2
        clear hT2 hN2 k2 k1 hx2 hl2
        go_wp2_with fail
        have kb : Below W2.heap.size W2 W2.drew := (Below.refl _ _).drew
        have kA : Below W2.heap.size W2 (W2.alloc (.cells #[.slice none 0 0, .int .i64 0] 24)).drew := ((Below.refl _ _).alloc (Nat.le_refl _) _).drew
        have HA : Hid ((W2.alloc (.cells #[.slice none 0 0, .int .i64 0] 24)).drew.heap[W2.heap.size]? = some (.cells #[.slice none 0 0, .int .i64 0] 24 (0, 0))) := Lib.hid (heap_alloc_new W2 _)
        go_region_held3 (fun X => X.cell? ⟨g, off + i * 2, none⟩ = some (.int .i64 (fr l i)) ∧ X.cell? ⟨g, off + i * 2 + 1, none⟩ = some (.int .i64 (tt l i)) ∧ X.cell? ⟨b12, 0, none⟩ = some (.slice Aa Na.length ca) ∧ X.cell? ⟨b12, 1, none⟩ = some (.int .i64 ra)) ((first | exact FC2.out _ kb | exact FC2.out _ kA | exact FC2.out _ (kb.alloc kb.size _) | exact FC2.out _ ((kb.setCell (p := ⟨W2.heap.size, 0, none⟩) (Nat.le_refl _) _).setCell (p := ⟨W2.heap.size, 1, none⟩) (Nat.le_refl _) _))) (first
          | (go_at_call 34; (with_reducible refine (KI.out _ kb).mono ?_); rintro e Wc ⟨Ac, cc, Nc, rc, rfl, oc, tc, pc, hbc⟩; have kb := kb.trans (hbc.mono kb.size); have Oc := Lib.hid oc; have Tc := Lib.hid tc; have Pc := Lib.hid pc; clear hbc oc tc pc)
          | (go_at_call 34; (with_reducible refine (KI.out _ kA).mono ?_); rintro e Wc ⟨Ac, cc, Nc, rc, rfl, oc, tc, pc, hbc⟩; have hq := (hbc.block _ (by simp)).trans HA.out; have kb := kA.trans (hbc.mono kA.size); have z0 := blk_frozen hq 0; have z1 := blk_frozen hq 1; have z2 := blk_cell hq 0; have z3 := blk_cell hq 1; have Hq := Lib.hid hq; have Oc := Lib.hid oc; have Tc := Lib.hid tc; have Pc := Lib.hid pc; clear hbc oc tc pc hq)
          | fail)
        all_goals (first
          | (have hT3 := res_stored Hq.out (.slice Ac Nc.length cc) (.int .i64 rc)
             have hN3 := (Oc.out.res (R := W2.heap.size) (.slice Ac Nc.length cc) (.int .i64 rc) (by simp)).nodes
             have k3 := (kb.setCell (p := ⟨W2.heap.size, 0, none⟩) (Nat.le_refl _) (.slice Ac Nc.length cc)).setCell (p := ⟨W2.heap.size, 1, none⟩) (Nat.le_refl _) (.int .i64 rc)
             clear z0 z1 z2 z3
             generalize (Wc.setCell ⟨W2.heap.size, 0, none⟩ (.slice Ac Nc.length cc)).setCell ⟨W2.heap.size, 1, none⟩ (.int .i64 rc) = W3 at hT3 hN3 k3 ⊢
             obtain ⟨b14, hb14⟩ : ∃ y, y = W2.heap.size := ⟨_, rfl⟩
             rw [← hb14] at hT3 ⊢)
          | (have hT3 := heap_alloc_new Wc (.cells #[.slice Ac Nc.length cc, .int .i64 rc] 24)
             have hN3 := Oc.out.nodes.below ((Below.refl Wc.heap.size Wc).alloc (Nat.le_refl _) (.cells #[.slice Ac Nc.length cc, .int .i64 rc] 24))
             have k3 := kb.alloc kb.size (.cells #[.slice Ac Nc.length cc, .int .i64 rc] 24)
             generalize Wc.alloc (.cells #[.slice Ac Nc.length cc, .int .i64 rc] 24) = W3 at hT3 hN3 k3 ⊢
             obtain ⟨b14, hb14⟩ : ∃ y, y = Wc.heap.size := ⟨_, rfl⟩
             rw [← hb14] at hT3 ⊢))
        all_goals
          clear hb14 kb kA HA KI FC2
          have FC3 : Hid (∀ X, Below W3.heap.size W3 X → X.cell? ⟨b12, 0, none⟩ = some (.slice Aa Na.length ca) ∧ X.cell? ⟨b12, 1, none⟩ = some (.int .i64 ra) ∧ X.cell? ⟨b14, 0, none⟩ = some (.slice Ac Nc.length cc) ∧ X.cell? ⟨b14, 1, none⟩ = some (.int .i64 rc) ∧ X.cell? ⟨b5, 0, none⟩ = some (.slice A5 N5.length c5) ∧ X.cell? ⟨b5, 1, none⟩ = some (.int .i64 r5)) := Lib.hid fun X h => by
            have k := k3.trans (h.mono k3.size)
            have f5 := FC.out X (FK.out X k)
            have v0 := blk_cell (FT2.out X k) 0
            have v1 := blk_cell (FT2.out X k) 1
            have v2 := blk_cell ((h.block _ (lt_of_block hT3)).trans hT3) 0
            have v3 := blk_cell ((h.block _ (lt_of_block hT3)).trans hT3) 1
            simp at v0 v1 v2 v3
            exact ⟨v0, v1, v2, v3, f5.1, f5.2.1⟩
          have hse := same_ents Ht5.out Tc.out Hp5.out (Pc.out.trans ((List.Perm.cons _ Pa.out).trans Hp1.out.symm))
          have KCa : Hid (∀ X, Below W3.heap.size W3 X → Calls Try.prog 42 #[.agg #[.slice Aa Na.length ca, .int .i64 ra]] X (ColT (entsT Na ra) X)) := Lib.hid fun X h => collect_t _ _ _ _ (FN2.out _ (k3.trans (h.mono k3.size))) Ta.out
          have KCc : Hid (∀ X, Below W3.heap.size W3 X → Calls Try.prog 42 #[.agg #[.slice Ac Nc.length cc, .int .i64 rc]] X (ColT (entsT N5 r5) X)) := Lib.hid fun X h => by rw [hse]; exact collect_t _ _ _ _ (hN3.below h) Tc.out
          have KC5' : Hid (∀ X, Below W3.heap.size W3 X → Calls Try.prog 42 #[.agg #[.slice A5 N5.length c5, .int .i64 r5]] X (ColT (entsT N5 r5) X)) := Lib.hid fun X h => KC5.out _ (FK.out _ (k3.trans (h.mono k3.size)))
          have FF : Hid (∀ X, Below W3.heap.size W3 X → Below w.heap.size w X) := Lib.hid fun X h => FB.out _ (FB2.out _ (FK.out _ (k3.trans (h.mono k3.size))))
          have wl : IntKind.i64.wrap ((l.length : Int) - 1) = (l.length : Int) - 1 := by rw [IntKind.wrap_i64]; omega
          have q1 : (((entsT Na ra).length : Int) == (l.length : Int) - 1) = true := by rw [beq_iff_eq]; have := Hl2.out; omega
          clear k3 hT3 hN3 hse
          go_wp2_with fail
          have kb : Below W3.heap.size W3 W3.drew := (Below.refl _ _).drew
          go_region_held3 (fun X => X.cell? ⟨b12, 0, none⟩ = some (.slice Aa Na.length ca) ∧ X.cell? ⟨b12, 1, none⟩ = some (.int .i64 ra) ∧ X.cell? ⟨b14, 0, none⟩ = some (.slice Ac Nc.length cc) ∧ X.cell? ⟨b14, 1, none⟩ = some (.int .i64 rc) ∧ X.cell? ⟨b5, 0, none⟩ = some (.slice A5 N5.length c5) ∧ X.cell? ⟨b5, 1, none⟩ = some (.int .i64 r5)) ((first | exact FC3.out _ kb)) (first
            | (go_at_call 42; (with_reducible refine (KCa.out _ kb).mono ?_); rintro e Wd ⟨Ad, cd, rfl, od, hbd⟩; have kb := kb.trans (hbd.mono kb.size); clear hbd od)
            | (go_at_call 42; (with_reducible refine (KCc.out _ kb).mono ?_); rintro e We ⟨Ae, ce, rfl, oe, hbe⟩; have kb := kb.trans (hbe.mono kb.size); clear hbe)
            | (go_at_call 42; (with_reducible refine (KC5'.out _ kb).mono ?_); rintro e Wf ⟨Af, cf, rfl, of, hbf⟩; have kb := kb.trans (hbf.mono kb.size); have oe := oe.below hbf; clear hbf)
            | (go_at_call 23; (with_reducible refine (equal_t _ _ _ _ oe of).mono ?_); rintro e Wg ⟨rfl, hbg⟩; have kb := kb.trans (hbg.mono kb.size); clear hbg oe of)
            | fail)
          all_goals
            go_wp2_with fail
            go_ret
            exact ⟨rfl, FF.out _ kb⟩

set_option maxRecDepth 100000 in
theorem law42Order_lifted (os : Os) (started : os.Started) (H : Type) (enc : TypeId × Value → H) :
    ReturnsInHanded {} Try.checked os 11 .any (Rows.indexOrderSpec.pre6 enc Try.prog Try.f11 Rows.indexOrderRow.domain false) (Rows.indexOrderSpec.post enc Try.prog Try.f11 false true false false) := by
  refine returnsInHanded_of_change (C := Try.checked) Try.own started (by kernel_rfl) Try.func11
    (ChangeSpec.witness6 (enc := enc) (C := Try.checked) false ⟨#[], #[.slice none 0 0, .int .u8 0], []⟩ 8 (by kernel_rfl) (by kernel_rfl) (by kernel_rfl) (by kernel_rfl)) ?_
  intro W base args ds gs before hval0 hW hcnd _
  have hval : ∀ (j : Nat) t v, Try.f11.params[j]? = some t → args[j]? = some v → Value.okWide Try.prog W .any base t v := hval0
  have hW' := hW
  obtain ⟨p, q, hA0, hV, rfl, hfz, hnd⟩ := hW
  have hA : DataW.TrodAll enc Try.prog W 0 (fun _ => true) true Try.f11.params.toList args.toList ds p := hA0
  have hA1 := hA0
  rw [Try.params11] at hA hval
  obtain ⟨v0, v1, d0, d1, p0, p1, rfl, rfl, hp, h0, h1⟩ := trodAll_two hA
  obtain ⟨rfl, rfl⟩ := trodVars_none hV
  obtain ⟨l, g0, r0⟩ := open_spans (hval 0 27 v0 rfl rfl) h0
  obtain ⟨k, rfl, rfl, rfl, g1⟩ := open_int Try.underlying5 (hval 1 5 v1 rfl rfl) h1
  clear hA0 hval0
  have hlt : ∀ x ∈ p, x.block < W.heap.size := fun x hx => hW'.lt x (by simp [hx])
  refine (law42Order_c v0 l k W g0 (wfu8 g1).1 (wfu8 g1).2).mono fun e W' ⟨he, hg⟩ => ?_
  subst he
  exact ⟨_, rfl, post_of_below (pa := p) (pv := []) hW' (fun _ _ _ => trodAll_mk1 (shut_bool Try.underlying4 _))
    (fun sp hsp => trodAll_keep Try.laidOut hg (by kernel_rfl) hA1 hlt (fun x hx => hsp x (by simp [hx])))
    (fun _ _ => rfl) rfl hg (ok_one (by kernel_rfl) rfl (okWide_bool_mk Try.underlying4 _))⟩

theorem law42Order_holds : Rows.IndexOrderSaid :=
  OpenClaim.holds_of_wide 11 Try.f11 rfl rfl rfl rfl rfl rfl rfl ⟨rfl, rfl, rfl, rfl, rfl⟩ rfl rfl rfl rfl rfl (by kernel_rfl) Try.func11 (by kernel_rfl)
    (of_decide_eq_true (by kernel_rfl)) (by unfold Func.isWrapper; first | (rw [if_pos (by decide +kernel)]; kernel_rfl) | (rw [if_neg (by decide +kernel)]; exact ⟨rfl, rfl⟩))
    (fun os started H enc _ => law42Order_lifted os started H enc)
#print axioms law42Order_holds
end Go.Proofs.Ytgdcgdjlhljbiaa
