/- IndexScript: what was inserted into a tree is found until it is deleted; each insertion and deletion is accepted or refused as specified. For every list of changes and every number. No condition. -/
import Derived.Test.YtgdcgdjlhljbiaaIyW
import Derived.Test.YtgdcgdjlhljbiaaIyT
namespace Go.Proofs.Ytgdcgdjlhljbiaa
open Go.RowKit Go.Shelf Go.ChangeShapes Go.WideShapes Go.ChangeAt

theorem OwnsH.res {w : World} {base R : Nat} {t : TypeId} {v : Value} {L : List Ch} (h : OwnsH w base t v L) (s u : Value) (hR : R < base) : OwnsH ((w.setCell ⟨R, 0, none⟩ s).setCell ⟨R, 1, none⟩ u) base t v L :=
  h.kept fun g e => res_other _ _ _ _ (by have := (h.own g e).1; omega)
/-- The script's state: the tree in its box, the changes that are in it. -/
def ScSt (b : Nat) (L : List Ch) (vh : Value) (w : World) : Prop := ∃ A c N r, Low (entsC L) ∧ OwnsH w (b + 1) 64 vh L ∧ w.heap[b]? = some (.cells #[.slice A (List.length N) c, .int .i64 r] 24 (0, 0)) ∧ IsNodes w (.slice A (List.length N) c) N ∧ treeB N r = true ∧ (entsT N r).Perm (entsC L)
theorem ScSt.below {b : Nat} {L : List Ch} {vh : Value} {w w' : World} (h : ScSt b L vh w) (hb : Below w.heap.size w w') : ScSt b L vh w' := by
  obtain ⟨A, c, N, r, h1, h2, h3, h4, h5, h6⟩ := h
  exact ⟨A, c, N, r, h1, h2.below hb, (hb.block _ (lt_of_block h3)).trans h3, h4.below hb, h5, h6⟩
set_option maxRecDepth 100000 in
set_option maxHeartbeats 16000000 in
theorem law42Script_c (v : Value) (l : List Ch) (x : Int) (w : World) (hs : IsChs w v l) : Calls Try.prog 10 #[v, .int .i64 x] w (Ret w (.bool true)) := by
  obtain ⟨A, c, rfl, hnc, hc⟩ := hs.form
  have Hs := Lib.hid hs; clear hs
  by_cases hg : 60 < l.length
  · have g1 : decide ((60 : Int) < (l.length : Int)) = true := decide_eq_true (by omega)
    clear hg
    go_enter Try.func10, Try.ntmps10
    go_wp2_with fail
    refine (awake42_c _).mono ?_
    rintro e w2 ⟨rfl, hb2⟩
    go_wp2_with fail
    go_ret
    exact ⟨rfl, hb2⟩
  have g1 : decide ((60 : Int) < (l.length : Int)) = false := decide_eq_false (by omega)
  have B0 := Lib.hid fun W => xBuild_t (.slice none 0 0) [] W IsSpans.nil rfl (by simp)
  have Hg := Lib.hid hg
  clear hg
  go_enter Try.func10, Try.ntmps10
  go_wp2_with fail
  refine (awake42_c _).mono ?_
  rintro e w2 ⟨rfl, hb2⟩
  go_wp2_with fail
  refine (B0.out _).mono ?_
  rintro e w5 ⟨A5, c5, N5, r5, rfl, hn5, ht5, hp5, hb5⟩
  have hB := hb2.trans (hb5.mono hb2.size)
  have HB := Lib.hid hB; have Hn5 := Lib.hid hn5; have Ht5 := Lib.hid ht5; have Hp5 := Lib.hid hp5
  clear hB hn5 ht5 hp5 hb2 hb5 B0
  go_wp2_with fail
  obtain ⟨w6, hw6⟩ : ∃ y, y = w5.alloc (.cells #[.slice A5 N5.length c5, .int .i64 r5] 24) := ⟨_, rfl⟩
  obtain ⟨b5, hb5⟩ : ∃ y, y = w5.heap.size := ⟨_, rfl⟩
  have hx := (Below.refl w5.heap.size w5).alloc (Nat.le_refl _) (.cells #[.slice A5 N5.length c5, .int .i64 r5] 24)
  have hT5 := heap_alloc_new w5 (.cells #[.slice A5 N5.length c5, .int .i64 r5] 24)
  rw [← hw6] at hx hT5 ⊢
  rw [← hb5] at hx hT5 ⊢
  have hn6 := Hn5.out.nodes.below (by rw [hb5] at hx; exact hx)
  have hst : ScSt b5 [] (.slice none 0 0) w6 := ⟨A5, c5, N5, r5, (by intro e he; cases he), OwnsH.nil, hT5, hn6, Ht5.out, Hp5.out⟩
  have FS : Hid (∀ X, Below b5 w5 X → IsChs X (.slice A l.length c) l) := Lib.hid fun X h => Hs.out.below (HB.out.trans (h.mono (by rw [hb5]; exact HB.out.size)))
  have FB : Hid (∀ X, Below b5 w5 X → Below w.heap.size w X) := Lib.hid fun X h => HB.out.trans (h.mono (by rw [hb5]; exact HB.out.size))
  have Hx := Lib.hid hx; have Hst := Lib.hid hst; have Hb5 := Lib.hid hb5
  clear hx hT5 hn6 hst HB Hn5 Ht5 Hp5 hw6 hb5 Hs
  go_wp2_with fail
  go_loopw [7, 29] (fun h i wr => ∃ (k : Nat) (L : List Ch), k ≤ l.length ∧ i = .int .i64 (k : Int) ∧ L.length ≤ k ∧ ScSt b5 L h wr ∧ Below b5 w5 wr) (fun _ i _ => l.length - (intOf i).toNat)
  case atStart => exact ⟨0, [], Nat.zero_le _, rfl, Nat.zero_le _, Hst.out, Hx.out⟩
  case round =>
    obtain ⟨k, L, hk, rfl, hLk, hst, hb⟩ := hrel
    rcases Nat.lt_or_ge k l.length with hlt | hge
    rotate_left
    · obtain rfl : k = l.length := by omega
      clear hst
      have HbF := Lib.hid (FB.out _ hb)
      clear hb
      go_wp2_with fail
      go_ret
      exact ⟨rfl, HbF.out⟩
    have k0 : decide ((k : Int) < (l.length : Int)) = true := decide_eq_true (by omega)
    have k1 : IntKind.i64.wrap ((k : Int) + 1) = (k : Int) + 1 := by rw [IntKind.wrap_i64]; omega
    have k2 : (0 : Int) ≤ (k : Int) := by omega
    have k3 : (k : Int) < (l.length : Int) := by omega
    have hsr := FS.out _ hb
    obtain ⟨g, off, rfl, hbk⟩ := hsr.addr (by omega)
    have c0 := hsr.c0 k hlt
    have c1 := hsr.c1 k hlt
    have c2 := hsr.c2 k hlt
    have c3 := hsr.c3 k hlt
    generalize ch l k = y at c0 c1 c2 c3
    obtain ⟨⟨y0, y1, y2⟩, d⟩ := y
    simp only at c0 c1 c2 c3
    have HLk := Lib.hid hLk; have Hst := Lib.hid hst; have Hb := Lib.hid hb; have Hlt := Lib.hid hlt
    clear hLk hst hb hsr hlt
    go_wp2_with fail
    obtain ⟨p, hp⟩ : ∃ p, p = max (min y0 1000) (-1000) := ⟨_, rfl⟩
    obtain ⟨q, hq⟩ : ∃ q, q = max (min y1 1000) (-1000) := ⟨_, rfl⟩
    rw [← hp, ← hq]
    have hpb : -1000 ≤ p ∧ p ≤ 1000 := by omega
    have hqb : -1000 ≤ q ∧ q ≤ 1000 := by omega
    obtain ⟨W1, hW1⟩ : ∃ y, y = wr.alloc (.cells #[.int .i64 p, .int .i64 q, .int .i64 y2, .bool d] 64) := ⟨_, rfl⟩
    obtain ⟨b9, hb9⟩ : ∃ y, y = wr.heap.size := ⟨_, rfl⟩
    have hbx : BoxC b9 (p, q, y2) d W1 := by rw [hW1, hb9]; exact heap_alloc_new wr _
    have hk1 : Below wr.heap.size wr W1 := by rw [hW1]; exact (Below.refl _ _).alloc (Nat.le_refl _) _
    have hst := Hst.out.below hk1
    have hle5 : b5 ≤ wr.heap.size := by rw [Hb5.out]; exact Hb.out.size
    have hB1 := Hb.out.trans (hk1.mono hle5)
    rw [← hW1, ← hb9]
    obtain ⟨A4, c4, N4, r4, hlow, hown, hT4, hn4, ht4, hp4⟩ := hst
    obtain ⟨Ah, chv, rfl, _, _⟩ := hown.ents.form
    have FB5 : Hid (∀ X, Below W1.heap.size W1 X → Below b5 w5 X) := Lib.hid fun X h => hB1.trans (h.mono (Nat.le_trans hle5 hk1.size))
    have FBx : Hid (∀ X, Below W1.heap.size W1 X → BoxC b9 (p, q, y2) d X) := Lib.hid fun X h => hbx.below h
    have FT4 : Hid (∀ X, Below W1.heap.size W1 X → X.heap[b5]? = some (.cells #[.slice A4 N4.length c4, .int .i64 r4] 24 (0, 0))) := Lib.hid fun X h => (h.block _ (lt_of_block hT4)).trans hT4
    have FN4 : Hid (∀ X, Below W1.heap.size W1 X → IsNodes X (.slice A4 N4.length c4) N4) := Lib.hid fun X h => hn4.below h
    have FO : Hid (∀ X, Below W1.heap.size W1 X → OwnsH X (b5 + 1) 64 (.slice Ah L.length chv) L) := Lib.hid fun X h => hown.below h
    have FSt : Hid (∀ X, Below W1.heap.size W1 X → ScSt b5 L (.slice Ah L.length chv) X) := Lib.hid fun X h => ⟨A4, c4, N4, r4, hlow, hown.below h, (h.block _ (lt_of_block hT4)).trans hT4, hn4.below h, ht4, hp4⟩
    have FOwn : Hid (∀ g, (Value.slice Ah L.length chv).ownBlock = some g → g < W1.heap.size) := Lib.hid fun g h => (hown.own g h).2
    have FC : Hid (∀ X, Below W1.heap.size W1 X → X.cell? ⟨b5, 0, none⟩ = some (.slice A4 N4.length c4) ∧ X.cell? ⟨b5, 1, none⟩ = some (.int .i64 r4) ∧ X.cell? ⟨b9, 0, none⟩ = some (.int .i64 p) ∧ X.cell? ⟨b9, 1, none⟩ = some (.int .i64 q) ∧ X.cell? ⟨b9, 2, none⟩ = some (.int .i64 y2) ∧ X.cell? ⟨b9, 3, none⟩ = some (.bool d)) := Lib.hid fun X h => by
      have v0 := blk_cell (FT4.out X h) 0
      have v1 := blk_cell (FT4.out X h) 1
      have bb := FBx.out X h
      unfold BoxC at bb
      have v2 := blk_cell bb 0
      have v3 := blk_cell bb 1
      have v4 := blk_cell bb 2
      have v5 := blk_cell bb 3
      simp at v0 v1 v2 v3 v4 v5
      exact ⟨v0, v1, v2, v3, v4, v5⟩
    have Hlow := Lib.hid hlow; have Ht4 := Lib.hid ht4; have Hp4 := Lib.hid hp4
    have Hle5 := Lib.hid (show b5 < W1.heap.size from lt_of_block hT4)
    have hN4 : N4.length ≤ k := by have h := hp4.length_eq; rw [tree_len ht4, entsC_len] at h; have := HLk.out; omega
    have Hpq := Lib.hid (And.intro hpb hqb)
    have HN4 := Lib.hid hN4
    clear hp hq hpb hqb hW1 hb9 hbx hk1 hle5 hB1 hlow hown hT4 hn4 ht4 hp4 hN4 c0 c1 c2 c3 Hst Hb
    cases ho : okSpan (p, q)
    · refine (ivValid_c p q _).mono ?_
      rw [ho]
      rintro e W2 ⟨rfl, hb2⟩
      clear ho
      go_wp2_with fail
      go_roundw
      case rel => exact ⟨k + 1, L, by have := Hlt.out; omega, by go_num, by have := HLk.out; omega, FSt.out _ hb2, FB5.out _ hb2⟩
      case measure => have := Hlt.out; simp [intOf]; omega
    have Ho := Lib.hid ho
    refine (ivValid_c p q _).mono ?_
    rw [ho]
    rintro e W2 ⟨rfl, kb⟩
    clear ho
    go_wp2_with fail
    refine (slIndexChange_c b9 (p, q, y2) d _ L _ (FO.out _ kb).ents (FBx.out _ kb)).mono ?_
    rintro e W3 ⟨r, hidx, rfl, hb3⟩
    have kb := kb.trans (hb3.mono kb.size)
    clear hb3
    obtain ⟨t0, t1, s0, s1, s2, s3⟩ := FC.out _ kb
    rcases hidx with ⟨rfl, hno⟩ | ⟨i, hi, rfl, hyes⟩
    · have hnew : (p, q, y2) ∉ entsT N4 r4 := fun h => entsC_new hno (Hp4.out.mem_iff.1 h)
      have KI : Hid (∀ X, Below W1.heap.size W1 X → Calls Try.prog 34 #[.agg #[.slice A4 N4.length c4, .int .i64 r4], .agg #[.int .i64 p, .int .i64 q], .int .i64 y2] X (TreeMade ((p, q, y2) :: entsT N4 r4) X)) := Lib.hid fun X h => xInsert_t _ _ _ _ _ _ _ (FN4.out _ h) Ht4.out Ho.out hnew (by have := HN4.out; have := Hlt.out; have := Hg.out; omega)
      have KD : Hid (∀ X, Below W1.heap.size W1 X → Calls Try.prog 32 #[.agg #[.slice A4 N4.length c4, .int .i64 r4], .agg #[.int .i64 p, .int .i64 q], .int .i64 y2] X (NoT 7 X)) := Lib.hid fun X h => xDelete_none _ _ _ _ _ _ _ (FN4.out _ h) Ht4.out Ho.out hnew
      clear hno hnew
      go_wp2_with fail
      refine (KI.out _ kb).mono ?_
      rintro e Wa ⟨Aa, ca, Na, ra, rfl, oa, ta, pa, hba⟩
      have Kb3 := Lib.hid kb
      have kb := kb.trans (hba.mono kb.size)
      obtain ⟨Wb, hWb⟩ : ∃ y, y = Wa.alloc (.cells #[.slice Aa Na.length ca, .int .i64 ra] 24) := ⟨_, rfl⟩
      obtain ⟨b11, hb11⟩ : ∃ y, y = Wa.heap.size := ⟨_, rfl⟩
      have hT11 : Wb.heap[b11]? = some (.cells #[.slice Aa Na.length ca, .int .i64 ra] 24 (0, 0)) := by rw [hWb, hb11]; exact heap_alloc_new Wa _
      have hkb : Below Wa.heap.size Wa Wb := by rw [hWb]; exact (Below.refl _ _).alloc (Nat.le_refl _) _
      have ob := oa.below hkb
      have kb := kb.trans (hkb.mono kb.size)
      have Hb11 := Lib.hid (show W3.heap.size ≤ b11 by rw [hb11]; exact hba.size)
      obtain ⟨t0', t1', s0', s1', s2', s3'⟩ := FC.out _ kb
      have w0 := blk_cell hT11 0
      have w1 := blk_cell hT11 1
      simp at w0 w1
      rw [hWb] at t0' t1' s0' s1' s2' s3' w0 w1
      rw [hb11] at w0 w1
      have HWb := Lib.hid hWb; have HB11 := Lib.hid hb11; have HT11 := Lib.hid hT11; have Ob := Lib.hid ob; have Ta := Lib.hid ta; have Pa := Lib.hid pa; have Kb := Lib.hid kb
      clear oa hba hkb ob ta pa t0 t1 s0 s1 s2 s3 hWb hb11 hT11 kb
      cases d
      · -- inserted
        have KV : Hid (∀ X, Below Wb.heap.size Wb X → Calls Try.prog 14 #[.agg #[.slice Aa Na.length ca, .int .i64 ra]] X (Ret X (.bool true))) := Lib.hid fun X h => by
          have := xValid_c _ ra Na X (Ob.out.nodes.below h)
          rwa [Ta.out] at this
        go_wp2_with fail
        rw [← HWb.out, ← HB11.out]
        refine (KV.out _ (Below.refl _ _)).mono ?_
        rintro e Wc ⟨rfl, hbc⟩
        have kb := Kb.out.trans (hbc.mono Kb.out.size)
        have hT11 := (hbc.block _ (lt_of_block HT11.out)).trans HT11.out
        have oc := Ob.out.below hbc
        obtain ⟨t0, t1, s0, s1, s2, s3⟩ := FC.out _ kb
        have hoc := FO.out _ kb
        have hown : ∀ g, (Value.slice Ah L.length chv).ownBlock = some g → g < W1.heap.size := FOwn.out
        have h11 : W1.heap.size ≤ b11 := Nat.le_trans Kb3.out.size Hb11.out
        have h5c : b5 + 1 ≤ Wc.heap.size := Nat.le_trans Hle5.out kb.size
        have HLk2 := Lib.hid (show L.length < 900000000 by have := HLk.out; have := Hlt.out; have := Hg.out; omega)
        have Kb2 := Lib.hid kb; have Oc := Lib.hid oc; have HT112 := Lib.hid hT11; have Hoc := Lib.hid hoc; have H11 := Lib.hid h11; have Hown := Lib.hid hown; have H5c := Lib.hid h5c
        clear t0' t1' s0' s1' s2' s3' w0 w1 kb oc hT11 hbc KI KD KV hoc h11 hown h5c
        go_upto_region 29 with (at_builtin; refine append_chG Try.underlying62 tChangeInfo rfl _ _ rfl (b5 + 1) (.slice Ah L.length chv) L ((p, q, y2), false) rfl Hoc.out rfl HLk2.out H5c.out ?_; intro v2 W h1 h2 h3 h4; have H1 := Lib.hid h1; have H2 := Lib.hid h2; have H3 := Lib.hid h3; obtain ⟨Av, n2, cv, rfl, hn2⟩ : ∃ A n c, v2 = .slice A n c ∧ n = (L ++ [(((p, q, y2), false) : Ch)]).length := (by obtain ⟨A, c, e, _, _⟩ := h1.ents.form; exact ⟨A, _, c, e, rfl⟩); have Hn2 := Lib.hid hn2; clear h1 h2 h3 h4 t0 t1 s0 s1 s2 s3 hn2)
        have HT2 : Hid (W.heap[b11]? = some (.cells #[.slice Aa Na.length ca, .int .i64 ra] 24 (0, 0))) := Lib.hid ((H3.out b11 (lt_of_block HT112.out) (fun e => by have := Hown.out _ e; have := H11.out; omega)).trans HT112.out)
        have HN2 : Hid (OwnsN W W3.heap.size (.slice Aa Na.length ca) Na) := Lib.hid (Oc.out.kept fun g n cap e => H3.out g (by have := (World.ownsRow.lt Oc.out g (by rw [e]; rfl)).2; exact this) (fun e2 => by have := Hown.out _ e2; have := (World.ownsRow.lt Oc.out g (by rw [e]; rfl)).1; have := Kb3.out.size; omega))
        have HT52 : Hid (W.heap[b5]? = some (.cells #[.slice A4 N4.length c4, .int .i64 r4] 24 (0, 0))) := Lib.hid ((H2.out.block b5 (Nat.lt_succ_self _)).trans (FT4.out _ Kb2.out))
        have HB2 : Hid (Below b5 w5 W) := Lib.hid ((FB5.out _ Kb2.out).trans (H2.out.mono (Nat.le_succ _)))
        obtain ⟨L2, hL2⟩ : ∃ x, x = L ++ [(((p, q, y2), false) : Ch)] := ⟨_, rfl⟩
        have HL2 : Hid (Low (entsC L2)) := Lib.hid (by
          rw [hL2]
          intro e he
          rcases List.mem_cons.1 ((entsC_app L ((p, q, y2), false)).mem_iff.2 he) with rfl | he
          · have := Hpq.out
            have h := (okSpan_iff _).1 Ho.out
            unfold OkSp at h
            simp only at h ⊢
            omega
          · exact Hlow.out e he)
        have HP2 : Hid ((entsT Na ra).Perm (entsC L2)) := Lib.hid (by rw [hL2]; exact Pa.out.trans ((List.Perm.cons _ Hp4.out).trans (entsC_app L ((p, q, y2), false))))
        have HLl : Hid (L2.length ≤ k + 1) := Lib.hid (by rw [hL2, List.length_append]; have := HLk.out; simp; omega)
        have HO2 : Hid (OwnsH W (b5 + 1) 64 (.slice Av n2 cv) L2) := Lib.hid (by rw [hL2]; exact H1.out)
        have Hn2 : Hid (n2 = L2.length) := Lib.hid (by rw [hL2]; exact Hn2.out)
        clear hL2 H1 H2 H3 Hoc Hown H11 H5c HLk2 HT112 Oc
        have hn2 := Hn2.out
        clear Hn2
        subst hn2
        have w0 := blk_cell HT2.out 0
        have w1 := blk_cell HT2.out 1
        have v0 := blk_cell HT52.out 0
        have v1 := blk_cell HT52.out 1
        simp at w0 w1 v0 v1
        have z0 := blk_frozen HT52.out 0
        have z1 := blk_frozen HT52.out 1
        have hlt3 : b5 < W3.heap.size := Nat.lt_of_lt_of_le Hle5.out Kb3.out.size
        have hTz := res_stored HT52.out (.slice Aa Na.length ca) (.int .i64 ra)
        have hNz := HN2.out.res (.slice Aa Na.length ca) (.int .i64 ra) hlt3
        have hOz := HO2.out.res (.slice Aa Na.length ca) (.int .i64 ra) (Nat.lt_succ_self b5)
        have hBz := (HB2.out.setCell (p := ⟨b5, 0, none⟩) (Nat.le_refl _) (.slice Aa Na.length ca)).setCell (p := ⟨b5, 1, none⟩) (Nat.le_refl _) (.int .i64 ra)
        have hNl : Na.length = L2.length := by have h := HP2.out.length_eq; rwa [tree_len Ta.out, entsC_len] at h
        have h60 : L2.length ≤ 60 := by have := HLl.out; have := Hlt.out; have := Hg.out; omega
        obtain ⟨e1, e2, e3⟩ := tree_root Ta.out (by omega)
        have n1 : ((Na.length : Int) != (L2.length : Int)) = false := by rw [hNl]; simp
        have n3 : decide ((Na.length : Int) ≤ ra) = false := decide_eq_false (by omega)
        have HSz : Hid (ScSt b5 L2 (.slice Av L2.length cv) ((W.setCell ⟨b5, 0, none⟩ (.slice Aa Na.length ca)).setCell ⟨b5, 1, none⟩ (.int .i64 ra))) := Lib.hid ⟨Aa, ca, Na, ra, HL2.out, hOz, hTz, hNz.nodes, Ta.out, HP2.out⟩
        have KS : Hid (∀ X, Below ((W.setCell ⟨b5, 0, none⟩ (.slice Aa Na.length ca)).setCell ⟨b5, 1, none⟩ (.int .i64 ra)).heap.size ((W.setCell ⟨b5, 0, none⟩ (.slice Aa Na.length ca)).setCell ⟨b5, 1, none⟩ (.int .i64 ra)) X → Calls Try.prog 26 #[.agg #[.slice Aa Na.length ca, .int .i64 ra], .int .i64 x] X (IntsRet X (stabL Na ra x))) := Lib.hid fun X h => xStab_c _ ra x Na X (hNz.nodes.below h)
        have FCz : Hid (∀ X, Below ((W.setCell ⟨b5, 0, none⟩ (.slice Aa Na.length ca)).setCell ⟨b5, 1, none⟩ (.int .i64 ra)).heap.size ((W.setCell ⟨b5, 0, none⟩ (.slice Aa Na.length ca)).setCell ⟨b5, 1, none⟩ (.int .i64 ra)) X → X.cell? ⟨b5, 0, none⟩ = some (.slice Aa Na.length ca) ∧ X.cell? ⟨b5, 1, none⟩ = some (.int .i64 ra)) := Lib.hid fun X h => by
          have f := (h.block _ (lt_of_block hTz)).trans hTz
          exact ⟨blk_cell f 0, blk_cell f 1⟩
        have q9 : (((stabL Na ra x).length : Int) != (((fnd x (entsC L2)).length : Nat) : Int)) = false := by rw [stab_count Ta.out HP2.out]; simp
        have Q9 := Lib.hid q9
        have HOz := Lib.hid hOz; have HBz := Lib.hid hBz; have H60 := Lib.hid h60
        have t0 := blk_cell hTz 0
        have t1 := blk_cell hTz 1
        simp only [List.getElem?_toArray, List.getElem?_cons_zero, List.getElem?_cons_succ] at t0 t1
        have hnod := hNz.nodes
        clear hTz hNz hOz hBz h60 hlt3 q9 HT2 HN2 HT52 HB2 HO2 HP2
        rcases (by omega : ra < 0 ∨ 0 ≤ ra) with hr | hr
        all_goals (first
          | (have hr2 : ra < 0 := hr
             have m1 : decide ((0 : Int) ≤ ra) = false := decide_eq_false (by omega)
             clear hr2 hr e3 hnod hNl
             go_upto_region 34 with fail
             generalize (W.setCell ⟨b5, 0, none⟩ (.slice Aa Na.length ca)).setCell ⟨b5, 1, none⟩ (.int .i64 ra) = Z at t0 t1 HSz KS FCz HOz HBz ⊢
             clear t0 t1 w0 w1 v0 v1 z0 z1 m1 n1 n3 e1 e2)
          | (have m1 : decide ((0 : Int) ≤ ra) = true := decide_eq_true hr
             obtain ⟨bn, on, rfl, hbn⟩ := hnod.addr (by omega)
             have c6 := hnod.c6 ra.toNat (by omega)
             have m2 : decide ((8 : Int) < (nd Na ra.toNat).h) = false := decide_eq_false (by have := e3 hr; omega)
             clear e3 hnod hNl hbn
             go_upto_region 34 with fail
             generalize (W.setCell ⟨b5, 0, none⟩ (.slice (some ⟨bn, on, none⟩) Na.length ca)).setCell ⟨b5, 1, none⟩ (.int .i64 ra) = Z at t0 t1 c6 HSz KS FCz HOz HBz ⊢
             clear t0 t1 w0 w1 v0 v1 z0 z1 m1 n1 n3 e1 e2 hr c6 m2))
        all_goals
          go_wp2_with fail
          go_loopw [13, 143] (fun a i wq => ∃ j : Nat, j ≤ L2.length ∧ i = .int .i64 (j : Int) ∧ a = .int .i64 (((fnd x ((entsC L2).take j)).length : Nat) : Int) ∧ Below Z.heap.size Z wq) (fun _ i _ => L2.length - (intOf i).toNat)
          case atStart => exact ⟨0, Nat.zero_le _, rfl, rfl, Below.refl _ _⟩
          case round =>
            obtain ⟨j, hj, rfl, rfl, hbz⟩ := hrel
            rcases Nat.lt_or_ge j L2.length with hjl | hjl
            · have j0 : decide ((j : Int) < (L2.length : Int)) = true := decide_eq_true (by omega)
              have j1 : IntKind.i64.wrap ((j : Int) + 1) = (j : Int) + 1 := by rw [IntKind.wrap_i64]; have := H60.out; omega
              have j2 : (0 : Int) ≤ (j : Int) := by omega
              have j3 : (j : Int) < (L2.length : Int) := by omega
              have hch := (HOz.out.below hbz).ents
              obtain ⟨g2, off2, rfl, _⟩ := hch.addr (by omega)
              have d0 := hch.c0 j hjl
              have d1 := hch.c1 j hjl
              have d2 := hch.c2 j hjl
              have d3 := hch.c3 j hjl
              have hcl : (fnd x ((entsC L2).take j)).length ≤ j := Nat.le_trans (fnd_len _ _) (by rw [List.length_take]; exact Nat.min_le_left _ _)
              have j4 : IntKind.i64.wrap ((((fnd x ((entsC L2).take j)).length : Nat) : Int) + 1) = (((fnd x ((entsC L2).take j)).length : Nat) : Int) + 1 := by rw [IntKind.wrap_i64]; have := H60.out; omega
              have hjE : j < (entsC L2).length := by rw [entsC_len]; exact hjl
              have hen := entsC_get hjl
              have hlo := HL2.out _ (entsC_in hjl)
              have hy1 : (ch L2 j).1.1 ≤ x → x < (ch L2 j).1.2.1 → (fnd x ((entsC L2).take (j + 1))).length = (fnd x ((entsC L2).take j)).length + 1 := fun h1 h2 => by
                rw [fnd_yes hjE (by rw [hen]; exact h1) (by rw [hen]; exact h2)]; simp
              have hy2 : ¬ ((ch L2 j).1.1 ≤ x ∧ x < (ch L2 j).1.2.1) → (fnd x ((entsC L2).take (j + 1))).length = (fnd x ((entsC L2).take j)).length := fun h => by
                rw [fnd_no hjE (by rw [hen]; exact h)]
              have hoy : okSpan ((ch L2 j).1.1, (ch L2 j).1.2.1) = true := (okSpan_iff _).2 (by unfold OkSp; simp only; omega)
              generalize (fnd x ((entsC L2).take j)).length = cn at j4 hy1 hy2 ⊢
              generalize ch L2 j = y3 at d0 d1 d2 d3 hy1 hy2 hoy
              obtain ⟨⟨f0, f1, f2⟩, f3⟩ := y3
              simp only at d0 d1 d2 d3 hy1 hy2 hoy
              have Hoy := Lib.hid hoy; have Hbz := Lib.hid hbz; have Hjl := Lib.hid hjl
              clear hch hcl hjE hen hlo hoy hbz hjl hj
              go_wp2_with fail
              refine (ivHas_c f0 f1 x _ Hoy.out).mono ?_
              rintro e Wi ⟨rfl, hbi⟩
              have hbF := Hbz.out.trans (((Below.refl wr.heap.size wr).alloc (Nat.le_refl _) (.cells #[.int .i64 f0, .int .i64 f1, .int .i64 f2, .bool f3] 64)).mono Hbz.out.size)
              have hbF := hbF.trans (hbi.mono hbF.size)
              have HbF := Lib.hid hbF
              clear hbF hbi d0 d1 d2 d3
              cases hd1 : decide (f0 ≤ x) <;> cases hd2 : decide (x < f1)
              all_goals
                have Hd1 := Lib.hid hd1; have Hd2 := Lib.hid hd2; have Hy1 := Lib.hid hy1; have Hy2 := Lib.hid hy2
                clear hd1 hd2 hy1 hy2
                go_wp2_with fail
                go_roundw
                case rel => exact ⟨j + 1, Hjl.out, by go_num, (by first | (rw [Hy1.out (of_decide_eq_true Hd1.out) (of_decide_eq_true Hd2.out)]; go_num) | (rw [Hy2.out (fun h => by first | exact of_decide_eq_false Hd1.out h.1 | exact of_decide_eq_false Hd2.out h.2)])), HbF.out⟩
                case measure => have := Hjl.out; simp [intOf]; omega
            · obtain rfl : j = L2.length := by omega
              rw [List.take_of_length_le (by rw [entsC_len]; exact Nat.le_refl _)]
              have j0 : decide ((L2.length : Int) < (L2.length : Int)) = false := decide_eq_false (by omega)
              obtain ⟨t0, t1⟩ := FCz.out _ hbz
              have Hbz := Lib.hid hbz
              clear hbz hj hjl
              go_wp2_with fail
              refine (KS.out _ Hbz.out).mono ?_
              rintro e Wt ⟨vt, rfl, ot, hbt⟩
              obtain ⟨At, ct, rfl, _, _⟩ := (ints_of_own ot).form
              have hbF := Hbz.out.trans (hbt.mono Hbz.out.size)
              have q9 := Q9.out
              have hst2 := HSz.out.below hbF
              have hbl := HBz.out.trans (hbF.mono (by
                have h := HBz.out.size
                rw [← Hb5.out] at h
                exact h))
              have Hst2 := Lib.hid hst2; have Hbl := Lib.hid hbl
              clear hbF hbt ot t0 t1 hst2 hbl
              go_wp2_with fail
              go_roundw
              case rel => exact ⟨k + 1, L2, by have := Hlt.out; omega, by go_num, HLl.out, Hst2.out, Hbl.out⟩
              case measure => have := Hlt.out; simp [intOf]; omega
      · -- nothing to delete
        go_wp2_with fail
        rw [← HWb.out, ← HB11.out]
        refine (KD.out _ Kb.out).mono ?_
        rintro e Wc ⟨rfl, hbc⟩
        have kb := Kb.out.trans (hbc.mono Kb.out.size)
        have hT11 := (hbc.block _ (lt_of_block HT11.out)).trans HT11.out
        obtain ⟨t0, t1, s0, s1, s2, s3⟩ := FC.out _ kb
        have z0 := blk_frozen hT11 0
        have z1 := blk_frozen hT11 1
        have z2 := blk_cell hT11 0
        have z3 := blk_cell hT11 1
        simp at z2 z3
        have h11 : W1.heap.size ≤ b11 := Nat.le_trans Kb3.out.size Hb11.out
        have kz := (kb.setCell (p := ⟨b11, 0, none⟩) h11 (.slice none 0 0)).setCell (p := ⟨b11, 1, none⟩) h11 (.int .i64 0)
        have hdz := FBx.out _ kz
        unfold BoxC at hdz
        have s3z := blk_cell hdz 3
        simp at s3z
        have Kz := Lib.hid kz
        clear t0' t1' s0' s1' s2' s3' w0 w1 kb hT11 hbc KI KD h11 kz hdz
        go_wp2_with fail
        go_roundw
        case rel => exact ⟨k + 1, L, by have := Hlt.out; omega, by go_num, by have := HLk.out; omega, FSt.out _ Kz.out, FB5.out _ Kz.out⟩
        case measure => have := Hlt.out; simp [intOf]; omega
    · have hin : (p, q, y2) ∈ entsT N4 r4 := Hp4.out.mem_iff.2 (by rw [← hyes]; exact entsC_in hi)
      have hpd : (entsT N4 r4).Perm ((p, q, y2) :: entsC (L.take i ++ L.drop (i + 1))) := by
        have h := entsC_del hi
        rw [hyes] at h
        exact Hp4.out.trans h
      have KI : Hid (∀ X, Below W1.heap.size W1 X → Calls Try.prog 34 #[.agg #[.slice A4 N4.length c4, .int .i64 r4], .agg #[.int .i64 p, .int .i64 q], .int .i64 y2] X (NoT 8 X)) := Lib.hid fun X h => xInsert_twice _ _ _ _ _ _ _ (FN4.out _ h) Ht4.out Ho.out hin
      have KD : Hid (∀ X, Below W1.heap.size W1 X → Calls Try.prog 32 #[.agg #[.slice A4 N4.length c4, .int .i64 r4], .agg #[.int .i64 p, .int .i64 q], .int .i64 y2] X (TreeMade (entsC (L.take i ++ L.drop (i + 1))) X)) := Lib.hid fun X h => xDelete_t _ _ _ _ _ _ _ (FN4.out _ h) Ht4.out Ho.out _ hpd
      have i0 : decide ((i : Int) < 0) = false := decide_eq_false (by omega)
      have i1 : decide ((0 : Int) ≤ (i : Int)) = true := decide_eq_true (by omega)
      have i2 : IntKind.i64.wrap ((i : Int) + 1) = ((i + 1 : Nat) : Int) := by rw [IntKind.wrap_i64]; have := HLk.out; have := Hlt.out; have := Hg.out; omega
      have Hi := Lib.hid hi
      clear hin hpd hi hyes
      go_wp2_with fail
      refine (KI.out _ kb).mono ?_
      rintro e Wa ⟨rfl, hba⟩
      have Kb3 := Lib.hid kb
      have kb := kb.trans (hba.mono kb.size)
      obtain ⟨Wb, hWb⟩ : ∃ y, y = Wa.alloc (.cells #[.slice none 0 0, .int .i64 0] 24) := ⟨_, rfl⟩
      obtain ⟨b11, hb11⟩ : ∃ y, y = Wa.heap.size := ⟨_, rfl⟩
      have hT11 : Wb.heap[b11]? = some (.cells #[.slice none 0 0, .int .i64 0] 24 (0, 0)) := by rw [hWb, hb11]; exact heap_alloc_new Wa _
      have hkb : Below Wa.heap.size Wa Wb := by rw [hWb]; exact (Below.refl _ _).alloc (Nat.le_refl _) _
      have kb := kb.trans (hkb.mono kb.size)
      have Hb11 := Lib.hid (show W3.heap.size ≤ b11 by rw [hb11]; exact hba.size)
      obtain ⟨t0', t1', s0', s1', s2', s3'⟩ := FC.out _ kb
      have w0 := blk_cell hT11 0
      have w1 := blk_cell hT11 1
      simp at w0 w1
      rw [hWb] at t0' t1' s0' s1' s2' s3' w0 w1
      rw [hb11] at w0 w1
      have HWb := Lib.hid hWb; have HB11 := Lib.hid hb11; have HT11 := Lib.hid hT11; have Kb := Lib.hid kb
      clear hba hkb t0 t1 s0 s1 s2 s3 hWb hb11 hT11 kb
      cases d
      · -- there already
        go_wp2_with fail
        rw [← HWb.out]
        go_roundw
        case rel => exact ⟨k + 1, L, by have := Hlt.out; omega, by go_num, by have := HLk.out; omega, FSt.out _ Kb.out, FB5.out _ Kb.out⟩
        case measure => have := Hlt.out; simp [intOf]; omega
      · -- deleted
        go_wp2_with fail
        rw [← HWb.out, ← HB11.out]
        refine (KD.out _ Kb.out).mono ?_
        rintro e Wd ⟨Aa, ca, Na, ra, rfl, oa, ta, pa, hba⟩
        have kb := Kb.out.trans (hba.mono Kb.out.size)
        have hT11 := (hba.block _ (lt_of_block HT11.out)).trans HT11.out
        have z0 := blk_frozen hT11 0
        have z1 := blk_frozen hT11 1
        have z2 := blk_cell hT11 0
        have z3 := blk_cell hT11 1
        simp at z2 z3
        have h11 : W1.heap.size ≤ b11 := Nat.le_trans Kb3.out.size Hb11.out
        have kz := (kb.setCell (p := ⟨b11, 0, none⟩) h11 (.slice Aa Na.length ca)).setCell (p := ⟨b11, 1, none⟩) h11 (.int .i64 ra)
        have hTz := res_stored hT11 (.slice Aa Na.length ca) (.int .i64 ra)
        have oz := oa.res (R := b11) (.slice Aa Na.length ca) (.int .i64 ra) (lt_of_block HT11.out)
        have hdz := FBx.out _ kz
        unfold BoxC at hdz
        have s3z := blk_cell hdz 3
        have w0z := blk_cell hTz 0
        have w1z := blk_cell hTz 1
        simp only [List.getElem?_toArray, List.getElem?_cons_zero, List.getElem?_cons_succ] at s3z w0z w1z
        have KV : Hid (∀ X, Below ((Wd.setCell ⟨b11, 0, none⟩ (.slice Aa Na.length ca)).setCell ⟨b11, 1, none⟩ (.int .i64 ra)).heap.size ((Wd.setCell ⟨b11, 0, none⟩ (.slice Aa Na.length ca)).setCell ⟨b11, 1, none⟩ (.int .i64 ra)) X → Calls Try.prog 14 #[.agg #[.slice Aa Na.length ca, .int .i64 ra]] X (Ret X (.bool true))) := Lib.hid fun X h => by
          have := xValid_c _ ra Na X (oz.nodes.below h)
          rwa [ta] at this
        have Kz := Lib.hid kz; have HTz := Lib.hid hTz; have Oz := Lib.hid oz; have Ta := Lib.hid ta; have Pa := Lib.hid pa
        obtain ⟨t0, t1, s0, s1, s2, s3⟩ := FC.out _ kb
        clear t0' t1' s0' s1' s2' s3' w0 w1 kb hT11 hba KI KD kz hTz oz hdz ta pa oa
        go_wp2_with fail
        generalize (Wd.setCell ⟨b11, 0, none⟩ (.slice Aa Na.length ca)).setCell ⟨b11, 1, none⟩ (.int .i64 ra) = We at KV Kz HTz Oz s3z w0z w1z ⊢
        clear z0 z1 z2 z3 t0 t1 s0 s1 s2 s3
        refine (KV.out _ (Below.refl _ _)).mono ?_
        rintro e Wc ⟨rfl, hbc⟩
        have kb := Kz.out.trans (hbc.mono Kz.out.size)
        have hT11 := (hbc.block _ (lt_of_block HTz.out)).trans HTz.out
        have oc := Oz.out.below hbc
        obtain ⟨t0, t1, s0, s1, s2, s3⟩ := FC.out _ kb
        have hoc := FO.out _ kb
        have h5c : b5 + 1 ≤ Wc.heap.size := Nat.le_trans Hle5.out kb.size
        have KX : Hid (Calls Try.prog 39 #[.slice Ah L.length chv, .int .i64 (i : Int), .int .i64 ((i + 1 : Nat) : Int)] Wc (DelH (b5 + 1) Wc (.slice Ah L.length chv) L i)) := Lib.hid (slDeleteChange_c _ L Wc (b5 + 1) hoc i Hi.out (by have := HLk.out; have := Hlt.out; have := Hg.out; omega))
        have Kb2 := Lib.hid kb; have Oc := Lib.hid oc; have HT112 := Lib.hid hT11; have H11 := Lib.hid h11
        clear s3z w0z w1z kb oc hT11 hbc KV hoc h11 h5c
        go_wp2_with fail
        refine KX.out.mono ?_
        rintro e W ⟨v2, rfl, h1, h2, h3, h4⟩
        have H1 := Lib.hid h1; have H2 := Lib.hid h2; have H3 := Lib.hid h3
        obtain ⟨L2, hL2⟩ : ∃ x, x = L.take i ++ L.drop (i + 1) := ⟨_, rfl⟩
        obtain ⟨Av, n2, cv, rfl, hn2⟩ : ∃ A n c, v2 = .slice A n c ∧ n = L2.length := by
          rw [hL2]
          obtain ⟨A, c, e, _, _⟩ := h1.ents.form
          exact ⟨A, _, c, e, rfl⟩
        have HT2 : Hid (W.heap[b11]? = some (.cells #[.slice Aa Na.length ca, .int .i64 ra] 24 (0, 0))) := Lib.hid ((H3.out b11 (fun e => by have := FOwn.out _ e; have := H11.out; omega)).trans HT112.out)
        have HN2 : Hid (OwnsN W Wb.heap.size (.slice Aa Na.length ca) Na) := Lib.hid (Oc.out.kept fun g n cap e => H3.out g (fun e2 => by have := FOwn.out _ e2; have := (World.ownsRow.lt Oc.out g (by rw [e]; rfl)).1; have := Kb.out.size; omega))
        have HN2 : Hid (OwnsN W W3.heap.size (.slice Aa Na.length ca) Na) := Lib.hid (HN2.out.mono (Nat.le_of_lt (Nat.lt_of_le_of_lt Hb11.out (lt_of_block HT11.out))))
        have HT52 : Hid (W.heap[b5]? = some (.cells #[.slice A4 N4.length c4, .int .i64 r4] 24 (0, 0))) := Lib.hid ((H2.out.block b5 (Nat.lt_succ_self _)).trans (FT4.out _ Kb2.out))
        have HB2 : Hid (Below b5 w5 W) := Lib.hid ((FB5.out _ Kb2.out).trans (H2.out.mono (Nat.le_succ _)))
        have HL2 : Hid (Low (entsC L2)) := Lib.hid (by
          rw [hL2]
          intro e he
          exact Hlow.out e ((entsC_del Hi.out).mem_iff.2 (List.mem_cons_of_mem _ he)))
        have HP2 : Hid ((entsT Na ra).Perm (entsC L2)) := Lib.hid (by rw [hL2]; exact Pa.out)
        have HLl : Hid (L2.length ≤ k + 1) := Lib.hid (by rw [hL2, List.length_append, List.length_take, List.length_drop]; have := HLk.out; have := Hi.out; omega)
        have HO2 : Hid (OwnsH W (b5 + 1) 64 (.slice Av n2 cv) L2) := Lib.hid (by rw [hL2]; exact H1.out)
        have Hn2 := Lib.hid hn2
        clear hL2 hn2 H1 H2 H3 H11 HT112 Oc h1 h2 h3 h4 t0 t1 s0 s1 s2 s3 KX
        go_upto_region 29 with fail
        have hn2 := Hn2.out
        clear Hn2
        subst hn2
        have w0 := blk_cell HT2.out 0
        have w1 := blk_cell HT2.out 1
        have v0 := blk_cell HT52.out 0
        have v1 := blk_cell HT52.out 1
        simp at w0 w1 v0 v1
        have z0 := blk_frozen HT52.out 0
        have z1 := blk_frozen HT52.out 1
        have hlt3 : b5 < W3.heap.size := Nat.lt_of_lt_of_le Hle5.out Kb3.out.size
        have hTz := res_stored HT52.out (.slice Aa Na.length ca) (.int .i64 ra)
        have hNz := HN2.out.res (.slice Aa Na.length ca) (.int .i64 ra) hlt3
        have hOz := HO2.out.res (.slice Aa Na.length ca) (.int .i64 ra) (Nat.lt_succ_self b5)
        have hBz := (HB2.out.setCell (p := ⟨b5, 0, none⟩) (Nat.le_refl _) (.slice Aa Na.length ca)).setCell (p := ⟨b5, 1, none⟩) (Nat.le_refl _) (.int .i64 ra)
        have hNl : Na.length = L2.length := by have h := HP2.out.length_eq; rwa [tree_len Ta.out, entsC_len] at h
        have h60 : L2.length ≤ 60 := by have := HLl.out; have := Hlt.out; have := Hg.out; omega
        obtain ⟨e1, e2, e3⟩ := tree_root Ta.out (by omega)
        have n1 : ((Na.length : Int) != (L2.length : Int)) = false := by rw [hNl]; simp
        have n3 : decide ((Na.length : Int) ≤ ra) = false := decide_eq_false (by omega)
        have HSz : Hid (ScSt b5 L2 (.slice Av L2.length cv) ((W.setCell ⟨b5, 0, none⟩ (.slice Aa Na.length ca)).setCell ⟨b5, 1, none⟩ (.int .i64 ra))) := Lib.hid ⟨Aa, ca, Na, ra, HL2.out, hOz, hTz, hNz.nodes, Ta.out, HP2.out⟩
        have KS : Hid (∀ X, Below ((W.setCell ⟨b5, 0, none⟩ (.slice Aa Na.length ca)).setCell ⟨b5, 1, none⟩ (.int .i64 ra)).heap.size ((W.setCell ⟨b5, 0, none⟩ (.slice Aa Na.length ca)).setCell ⟨b5, 1, none⟩ (.int .i64 ra)) X → Calls Try.prog 26 #[.agg #[.slice Aa Na.length ca, .int .i64 ra], .int .i64 x] X (IntsRet X (stabL Na ra x))) := Lib.hid fun X h => xStab_c _ ra x Na X (hNz.nodes.below h)
        have FCz : Hid (∀ X, Below ((W.setCell ⟨b5, 0, none⟩ (.slice Aa Na.length ca)).setCell ⟨b5, 1, none⟩ (.int .i64 ra)).heap.size ((W.setCell ⟨b5, 0, none⟩ (.slice Aa Na.length ca)).setCell ⟨b5, 1, none⟩ (.int .i64 ra)) X → X.cell? ⟨b5, 0, none⟩ = some (.slice Aa Na.length ca) ∧ X.cell? ⟨b5, 1, none⟩ = some (.int .i64 ra)) := Lib.hid fun X h => by
          have f := (h.block _ (lt_of_block hTz)).trans hTz
          exact ⟨blk_cell f 0, blk_cell f 1⟩
        have q9 : (((stabL Na ra x).length : Int) != (((fnd x (entsC L2)).length : Nat) : Int)) = false := by rw [stab_count Ta.out HP2.out]; simp
        have Q9 := Lib.hid q9
        have HOz := Lib.hid hOz; have HBz := Lib.hid hBz; have H60 := Lib.hid h60
        have t0 := blk_cell hTz 0
        have t1 := blk_cell hTz 1
        simp only [List.getElem?_toArray, List.getElem?_cons_zero, List.getElem?_cons_succ] at t0 t1
        have hnod := hNz.nodes
        clear hTz hNz hOz hBz h60 hlt3 q9 HT2 HN2 HT52 HB2 HO2 HP2
        rcases (by omega : ra < 0 ∨ 0 ≤ ra) with hr | hr
        all_goals (first
          | (have hr2 : ra < 0 := hr
             have m1 : decide ((0 : Int) ≤ ra) = false := decide_eq_false (by omega)
             clear hr2 hr e3 hnod hNl
             go_upto_region 34 with fail
             generalize (W.setCell ⟨b5, 0, none⟩ (.slice Aa Na.length ca)).setCell ⟨b5, 1, none⟩ (.int .i64 ra) = Z at t0 t1 HSz KS FCz HOz HBz ⊢
             clear t0 t1 w0 w1 v0 v1 z0 z1 m1 n1 n3 e1 e2)
          | (have m1 : decide ((0 : Int) ≤ ra) = true := decide_eq_true hr
             obtain ⟨bn, on, rfl, hbn⟩ := hnod.addr (by omega)
             have c6 := hnod.c6 ra.toNat (by omega)
             have m2 : decide ((8 : Int) < (nd Na ra.toNat).h) = false := decide_eq_false (by have := e3 hr; omega)
             clear e3 hnod hNl hbn
             go_upto_region 34 with fail
             generalize (W.setCell ⟨b5, 0, none⟩ (.slice (some ⟨bn, on, none⟩) Na.length ca)).setCell ⟨b5, 1, none⟩ (.int .i64 ra) = Z at t0 t1 c6 HSz KS FCz HOz HBz ⊢
             clear t0 t1 w0 w1 v0 v1 z0 z1 m1 n1 n3 e1 e2 hr c6 m2))
        all_goals
          go_wp2_with fail
          go_loopw [13, 143] (fun a i wq => ∃ j : Nat, j ≤ L2.length ∧ i = .int .i64 (j : Int) ∧ a = .int .i64 (((fnd x ((entsC L2).take j)).length : Nat) : Int) ∧ Below Z.heap.size Z wq) (fun _ i _ => L2.length - (intOf i).toNat)
          case atStart => exact ⟨0, Nat.zero_le _, rfl, rfl, Below.refl _ _⟩
          case round =>
            obtain ⟨j, hj, rfl, rfl, hbz⟩ := hrel
            rcases Nat.lt_or_ge j L2.length with hjl | hjl
            · have j0 : decide ((j : Int) < (L2.length : Int)) = true := decide_eq_true (by omega)
              have j1 : IntKind.i64.wrap ((j : Int) + 1) = (j : Int) + 1 := by rw [IntKind.wrap_i64]; have := H60.out; omega
              have j2 : (0 : Int) ≤ (j : Int) := by omega
              have j3 : (j : Int) < (L2.length : Int) := by omega
              have hch := (HOz.out.below hbz).ents
              obtain ⟨g2, off2, rfl, _⟩ := hch.addr (by omega)
              have d0 := hch.c0 j hjl
              have d1 := hch.c1 j hjl
              have d2 := hch.c2 j hjl
              have d3 := hch.c3 j hjl
              have hcl : (fnd x ((entsC L2).take j)).length ≤ j := Nat.le_trans (fnd_len _ _) (by rw [List.length_take]; exact Nat.min_le_left _ _)
              have j4 : IntKind.i64.wrap ((((fnd x ((entsC L2).take j)).length : Nat) : Int) + 1) = (((fnd x ((entsC L2).take j)).length : Nat) : Int) + 1 := by rw [IntKind.wrap_i64]; have := H60.out; omega
              have hjE : j < (entsC L2).length := by rw [entsC_len]; exact hjl
              have hen := entsC_get hjl
              have hlo := HL2.out _ (entsC_in hjl)
              have hy1 : (ch L2 j).1.1 ≤ x → x < (ch L2 j).1.2.1 → (fnd x ((entsC L2).take (j + 1))).length = (fnd x ((entsC L2).take j)).length + 1 := fun h1 h2 => by
                rw [fnd_yes hjE (by rw [hen]; exact h1) (by rw [hen]; exact h2)]; simp
              have hy2 : ¬ ((ch L2 j).1.1 ≤ x ∧ x < (ch L2 j).1.2.1) → (fnd x ((entsC L2).take (j + 1))).length = (fnd x ((entsC L2).take j)).length := fun h => by
                rw [fnd_no hjE (by rw [hen]; exact h)]
              have hoy : okSpan ((ch L2 j).1.1, (ch L2 j).1.2.1) = true := (okSpan_iff _).2 (by unfold OkSp; simp only; omega)
              generalize (fnd x ((entsC L2).take j)).length = cn at j4 hy1 hy2 ⊢
              generalize ch L2 j = y3 at d0 d1 d2 d3 hy1 hy2 hoy
              obtain ⟨⟨f0, f1, f2⟩, f3⟩ := y3
              simp only at d0 d1 d2 d3 hy1 hy2 hoy
              have Hoy := Lib.hid hoy; have Hbz := Lib.hid hbz; have Hjl := Lib.hid hjl
              clear hch hcl hjE hen hlo hoy hbz hjl hj
              go_wp2_with fail
              refine (ivHas_c f0 f1 x _ Hoy.out).mono ?_
              rintro e Wi ⟨rfl, hbi⟩
              have hbF := Hbz.out.trans (((Below.refl wr.heap.size wr).alloc (Nat.le_refl _) (.cells #[.int .i64 f0, .int .i64 f1, .int .i64 f2, .bool f3] 64)).mono Hbz.out.size)
              have hbF := hbF.trans (hbi.mono hbF.size)
              have HbF := Lib.hid hbF
              clear hbF hbi d0 d1 d2 d3
              cases hd1 : decide (f0 ≤ x) <;> cases hd2 : decide (x < f1)
              all_goals
                have Hd1 := Lib.hid hd1; have Hd2 := Lib.hid hd2; have Hy1 := Lib.hid hy1; have Hy2 := Lib.hid hy2
                clear hd1 hd2 hy1 hy2
                go_wp2_with fail
                go_roundw
                case rel => exact ⟨j + 1, Hjl.out, by go_num, (by first | (rw [Hy1.out (of_decide_eq_true Hd1.out) (of_decide_eq_true Hd2.out)]; go_num) | (rw [Hy2.out (fun h => by first | exact of_decide_eq_false Hd1.out h.1 | exact of_decide_eq_false Hd2.out h.2)])), HbF.out⟩
                case measure => have := Hjl.out; simp [intOf]; omega
            · obtain rfl : j = L2.length := by omega
              rw [List.take_of_length_le (by rw [entsC_len]; exact Nat.le_refl _)]
              have j0 : decide ((L2.length : Int) < (L2.length : Int)) = false := decide_eq_false (by omega)
              obtain ⟨t0, t1⟩ := FCz.out _ hbz
              have Hbz := Lib.hid hbz
              clear hbz hj hjl
              go_wp2_with fail
              refine (KS.out _ Hbz.out).mono ?_
              rintro e Wt ⟨vt, rfl, ot, hbt⟩
              obtain ⟨At, ct, rfl, _, _⟩ := (ints_of_own ot).form
              have hbF := Hbz.out.trans (hbt.mono Hbz.out.size)
              have q9 := Q9.out
              have hst2 := HSz.out.below hbF
              have hbl := HBz.out.trans (hbF.mono (by
                have h := HBz.out.size
                rw [← Hb5.out] at h
                exact h))
              have Hst2 := Lib.hid hst2; have Hbl := Lib.hid hbl
              clear hbF hbt ot t0 t1 hst2 hbl
              go_wp2_with fail
              go_roundw
              case rel => exact ⟨k + 1, L2, by have := Hlt.out; omega, by go_num, HLl.out, Hst2.out, Hbl.out⟩
              case measure => have := Hlt.out; simp [intOf]; omega

set_option maxRecDepth 100000 in
theorem law42Script_lifted (os : Os) (started : os.Started) (H : Type) (enc : TypeId × Value → H) :
    ReturnsInHanded {} Try.checked os 10 .any (Rows.indexScriptSpec.pre6 enc Try.prog Try.f10 Rows.indexScriptRow.domain false) (Rows.indexScriptSpec.post enc Try.prog Try.f10 false true false false) := by
  refine returnsInHanded_of_change (C := Try.checked) Try.own started (by kernel_rfl) Try.func10
    (ChangeSpec.witness6 (enc := enc) (C := Try.checked) false ⟨#[], #[.slice none 0 0, .int .i64 0], []⟩ 8 (by kernel_rfl) (by kernel_rfl) (by kernel_rfl) (by kernel_rfl)) ?_
  intro W base args ds gs before hval0 hW hcnd _
  have hval : ∀ (j : Nat) t v, Try.f10.params[j]? = some t → args[j]? = some v → Value.okWide Try.prog W .any base t v := hval0
  have hW' := hW
  obtain ⟨p, q, hA0, hV, rfl, hfz, hnd⟩ := hW
  have hA : DataW.TrodAll enc Try.prog W 0 (fun _ => true) true Try.f10.params.toList args.toList ds p := hA0
  have hA1 := hA0
  rw [Try.params10] at hA hval
  obtain ⟨v0, v1, d0, d1, p0, p1, rfl, rfl, hp, h0, h1⟩ := trodAll_two hA
  obtain ⟨rfl, rfl⟩ := trodVars_none hV
  obtain ⟨l, g0⟩ := open_chs (hval 0 62 v0 rfl rfl) h0
  obtain ⟨x, rfl, rfl, rfl, g1⟩ := open_int Try.underlying3 (hval 1 3 v1 rfl rfl) h1
  clear hA0 hval0
  have hlt : ∀ x ∈ p, x.block < W.heap.size := fun x hx => hW'.lt x (by simp [hx])
  refine (law42Script_c v0 l x W g0).mono fun e W' ⟨he, hg⟩ => ?_
  subst he
  exact ⟨_, rfl, post_of_below (pa := p) (pv := []) hW' (fun _ _ _ => trodAll_mk1 (shut_bool Try.underlying4 _))
    (fun sp hsp => trodAll_keep Try.laidOut hg (by kernel_rfl) hA1 hlt (fun x hx => hsp x (by simp [hx])))
    (fun _ _ => rfl) rfl hg (ok_one (by kernel_rfl) rfl (okWide_bool_mk Try.underlying4 _))⟩

theorem law42Script_holds : Rows.IndexScriptSaid :=
  OpenClaim.holds_of_wide 10 Try.f10 rfl rfl rfl rfl rfl rfl rfl ⟨rfl, rfl, rfl, rfl, rfl⟩ rfl rfl rfl rfl rfl (by kernel_rfl) Try.func10 (by kernel_rfl)
    (of_decide_eq_true (by kernel_rfl)) (by unfold Func.isWrapper; first | (rw [if_pos (by decide +kernel)]; kernel_rfl) | (rw [if_neg (by decide +kernel)]; exact ⟨rfl, rfl⟩))
    (fun os started H enc _ => law42Script_lifted os started H enc)
#print axioms law42Script_holds
end Go.Proofs.Ytgdcgdjlhljbiaa
