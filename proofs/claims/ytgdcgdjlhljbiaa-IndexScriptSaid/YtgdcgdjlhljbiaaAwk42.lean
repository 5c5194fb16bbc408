/- The examples of chapter 42: awake answers true. -/
import Derived.Test.YtgdcgdjlhljbiaaIdxZ
import Derived.Test.YtgdcgdjlhljbiaaPre
import Derived.Deep.RegionHeld3
namespace Go.Proofs.Ytgdcgdjlhljbiaa
open Go.RowKit

def sameI (a b : List Int) : Bool := decide (a = b)
theorem sameI_of {a b : List Int} (hl : a.length = b.length) (h : ∀ i, i < a.length → iv a i = iv b i) : sameI a b = true := by
  refine decide_eq_true (List.ext_getElem hl fun i h1 h2 => ?_)
  rw [iv_at h1, iv_at h2, h i h1]
theorem sameI_ne {a b : List Int} {k : Nat} (h : iv a k ≠ iv b k) : sameI a b = false := decide_eq_false fun e => h (by rw [e])
theorem slEqualInt_c (v1 v2 : Value) (a b : List Int) (w : World) (h1 : IsInts w v1 a) (h2 : IsInts w v2 b) : Calls Try.prog 30 #[v1, v2] w (Ret w (.bool (sameI a b))) := by
  obtain ⟨A, c, rfl, hnc, hc⟩ := h1.form
  obtain ⟨B, d, rfl, hnd, hd⟩ := h2.form
  by_cases hl : a.length = b.length
  · have hle : ((a.length : Int) == (b.length : Int)) = true := by rw [beq_iff_eq]; omega
    have hle' : ((a.length : Int) != (b.length : Int)) = false := by rw [bne, hle]; rfl
    have HL := Lib.hid hl
    have hl1 : a.length ≤ b.length := by omega
    have hl2 : b.length ≤ a.length := by omega
    clear hl
    go_enter Try.func30, Try.ntmps30
    go_wp2
    go_loopw [13] (fun i wr => ∃ k : Nat, k ≤ a.length ∧ i = .int .i64 k ∧ Hid (∀ j, j < k → iv a j = iv b j) ∧ Below w.heap.size w wr) (fun i _ => a.length - (intOf i).toNat)
    case atStart => exact ⟨0, Nat.zero_le _, rfl, fun j hj => absurd hj (by omega), Below.refl _ _⟩
    case round =>
      obtain ⟨k, hk, rfl, Hs, hb⟩ := hrel
      by_cases hlt : k < a.length
      · obtain ⟨g, off, rfl, hbk⟩ := h1.addr (by omega)
        obtain ⟨g', off', rfl, hbk'⟩ := h2.addr (by omega)
        go_wp2
        have e0 := fun x : BW wr => ((h1.below hb).bw x).c0 k hlt
        have e2 := fun x : BW wr => ((h2.below hb).bw x).c0 k (by omega)
        cases hq : iv a k == iv b k
        all_goals
          have hq' : (iv a k != iv b k) = !(iv a k == iv b k) := rfl
          rw [hq] at hq'
          refine wp_region_below (by kernel_rfl) (by kernel_rfl) ?_
          repeat (go_big_quiet_step (fail))
          refine wpQuiet_nil ?_
          rintro w2 ⟨⟨_, hb2⟩, rfl⟩
          have hb3 := hb.trans (hb2.mono hb.size)
          clear e0 e2
        · have Hr := Lib.hid (sameI_ne (beq_eq_false_iff_ne.1 hq))
          go_wp2
          go_ret
          exact ⟨ret_bool Hr.out.symm, hb3⟩
        · have hn : ∀ j, j < k + 1 → iv a j = iv b j := fun j hj => by
            rcases Nat.eq_or_lt_of_le (show j ≤ k by omega) with h | h
            · rw [h]; exact beq_iff_eq.1 hq
            · exact Hs.out j h
          have Hn := Lib.hid hn; clear hn
          go_wp2
          go_roundw
          case rel => exact ⟨k + 1, by omega, by go_num, Hn.out, hb3⟩
          case measure => simp [intOf]; omega
      · obtain rfl : k = a.length := by omega
        have Hr := Lib.hid (sameI_of HL.out Hs.out)
        go_wp2
        go_ret
        exact ⟨ret_bool Hr.out.symm, hb⟩
  · have hres : sameI a b = false := decide_eq_false fun e => hl (by rw [e])
    rw [hres]
    clear hres
    have hle : ((a.length : Int) == (b.length : Int)) = false := by rw [beq_eq_false_iff_ne]; omega
    have hle' : ((a.length : Int) != (b.length : Int)) = true := by rw [bne, hle]; rfl
    clear hl
    go_enter Try.func30, Try.ntmps30
    go_wp2
    go_ret
    exact ⟨rfl, Below.refl _ _⟩

theorem span42_c (p q : Int) (w : World) : Calls Try.prog 43 #[.int .i64 p, .int .i64 q] w (Ret w (.agg #[.int .i64 p, .int .i64 q])) := by
  go_enter Try.func43, Try.ntmps43
  go_wp2_with fail
  refine bodyPost_ret (v := .agg #[.int .i64 p, .int .i64 q]) (by simp [results, Try.results43, go_sem]) rfl ⟨rfl, ?_⟩
  exact (Below.refl _ _).alloc (Nat.le_refl _) _
theorem ents_one {L M : List En} (hp : L.Perm M) (h1 : L.Pairwise enLt) (h2 : M.Pairwise enLt) : L = M :=
  pairwise_one (fun a _ h k => enLt_irrefl a (enLt_trans h k)) hp h1 h2
/-- What is known of a tree that was made of some entries. -/
theorem made_tree {M : List En} {N : List Nd} {r : Int} (h : GrowOk M [] N r) (ho : M.Pairwise enLt) (hl : M.length ≤ 1000) : treeB N r = true ∧ entsT N r = M ∧ N.length = M.length := by
  have hv := grow_valid h ho
  have hn : N.length = M.length := by have := h.len; simpa using this
  obtain ⟨L, m, hs, he, _, _⟩ := h.sub
  exact ⟨treeB_true (by omega) hv, by rw [entsT_of hv hs, he], hn⟩
def exL42 : List Sp := [(0, 10), (5, 6), (8, 20)]
theorem ex42_made {M : List En} (hp : M.Perm (ixE exL42 exL42.length)) (ho : M.Pairwise enLt) : M = [(0, 10, 0), (5, 6, 1), (8, 20, 2)] := by
  refine ents_one (hp.trans ?_) ho (by simp [enLt])
  exact List.Perm.refl _
theorem build42_c (v : Value) (w : World) (hs : IsSpans w v exL42) : Calls Try.prog 16 #[v] w fun e w' => ∃ A cap N r, e = .returned (.tuple #[.agg #[.slice A N.length cap, .int .i64 r], .int .i64 0]) ∧
    IsNodes w' (.slice A N.length cap) N ∧ treeB N r = true ∧ entsT N r = [(0, 10, 0), (5, 6, 1), (8, 20, 2)] ∧ Below w.heap.size w w' := by
  refine (xBuild_c v exL42 w hs).mono ?_
  intro e w' h
  unfold BuildRet at h
  rw [if_neg (by rw [show exL42.all okSpan = true from by rfl]; simp), if_neg (by simp [exL42])] at h
  obtain ⟨M, hp, ho, A, cap, N, r, he, hg, hown, hb⟩ := h
  obtain rfl := ex42_made hp ho
  obtain ⟨h1, h2, h3⟩ := made_tree hg ho (by simp)
  exact ⟨A, cap, N, r, he, hown.nodes, h1, h2, hb⟩
set_option maxRecDepth 100000 in
set_option maxHeartbeats 4000000 in
theorem awake42_c (w : World) : Calls Try.prog 12 #[] w (Ret w (.bool true)) := by
  go_enter Try.func12, Try.ntmps12
  go_wp2_with fail
  refine (span42_c _ _ _).mono ?_
  rintro e w1 ⟨rfl, hb1⟩
  go_wp2_with fail
  refine (span42_c _ _ _).mono ?_
  rintro e w2 ⟨rfl, hb2⟩
  go_wp2_with fail
  refine (span42_c _ _ _).mono ?_
  rintro e w3 ⟨rfl, hb3⟩
  go_wp2_with fail
  refine (build42_c _ _ (spans_lit w3.heap.size exL42 3 rfl rfl rfl (by omega))).mono ?_
  rintro e w4 ⟨A, cap, N, r, rfl, hN, ht, he, hb4⟩
  have hB := (((hb1.trans (hb2.mono hb1.size)).trans (hb3.mono (hb1.trans (hb2.mono hb1.size)).size)).alloc ((hb1.trans (hb2.mono hb1.size)).trans (hb3.mono (hb1.trans (hb2.mono hb1.size)).size)).size _).trans (hb4.mono (by have := (hb1.trans (hb2.mono hb1.size)).trans (hb3.mono (hb1.trans (hb2.mono hb1.size)).size) |>.size; simp; omega))
  obtain ⟨w5, hw5⟩ : ∃ x, x = w4.alloc (.cells #[.slice A N.length cap, .int .i64 r] 24) := ⟨_, rfl⟩
  have hT : w5.heap[w4.heap.size]? = some (.cells #[.slice A N.length cap, .int .i64 r] 24 (0, 0)) := by rw [hw5]; exact new_blk _ _ rfl
  have hB5 : Below w.heap.size w w5 := by rw [hw5]; exact hB.alloc hB.size _
  have hN5 : IsNodes w5 (.slice A N.length cap) N := by rw [hw5]; exact hN.below ((Below.refl _ _).alloc (Nat.le_refl _) _)
  have HS : Hid (∀ W, Below w5.heap.size w5 W → W.cell? ⟨w4.heap.size, 0, none⟩ = some (.slice A N.length cap) ∧ W.cell? ⟨w4.heap.size, 1, none⟩ = some (.int .i64 r)) := Lib.hid fun W hb =>
    have h := (hb.block _ (lt_of_block hT)).trans hT
    ⟨blk_cell h 0, blk_cell h 1⟩
  have HVld : Hid (∀ W, Below w5.heap.size w5 W → Calls Try.prog 14 #[.agg #[.slice A N.length cap, .int .i64 r]] W (Ret W (.bool true))) := Lib.hid fun W hb => by
    have := xValid_c (.slice A N.length cap) r N W (hN5.below hb)
    rwa [ht] at this
  have HStab : Hid (∀ W, Below w5.heap.size w5 W → Calls Try.prog 26 #[.agg #[.slice A N.length cap, .int .i64 r], .int .i64 5] W (IntsRet W [0, 1])) := Lib.hid fun W hb => by
    have := xStab_c (.slice A N.length cap) r 5 N W (hN5.below hb)
    rwa [show stabL N r 5 = [0, 1] from by rw [stabL, if_pos ⟨ht, by omega, by omega⟩, he]; rfl] at this
  have HOv : Hid (∀ W, Below w5.heap.size w5 W → Calls Try.prog 27 #[.agg #[.slice A N.length cap, .int .i64 r], .agg #[.int .i64 9, .int .i64 12]] W (IntsRet W [0, 2])) := Lib.hid fun W hb => by
    have := xOverlap_c (.slice A N.length cap) r 9 12 N W (hN5.below hb)
    rwa [show overL N r 9 12 = [0, 2] from by rw [overL, if_pos ⟨ht, by rfl⟩, he]; rfl] at this
  have HRel : Hid (∀ W, Below w5.heap.size w5 W → Calls Try.prog 28 #[.agg #[.slice A N.length cap, .int .i64 r], .agg #[.int .i64 0, .int .i64 10], .int .i64 16] W (IntsRet W [1])) := Lib.hid fun W hb => by
    have := xRelated_c (.slice A N.length cap) r 16 0 10 N W (hN5.below hb)
    rwa [show relL N r 16 0 10 = [1] from by rw [relL, if_pos ⟨ht, by rfl⟩, he]; rfl] at this
  have HSpA : Hid (∀ W, Below w5.heap.size w5 W → Calls Try.prog 43 #[.int .i64 9, .int .i64 12] W (Ret W (.agg #[.int .i64 9, .int .i64 12]))) := Lib.hid fun W _ => span42_c 9 12 W
  have HSpB : Hid (∀ W, Below w5.heap.size w5 W → Calls Try.prog 43 #[.int .i64 0, .int .i64 10] W (Ret W (.agg #[.int .i64 0, .int .i64 10]))) := Lib.hid fun W _ => span42_c 0 10 W
  have EQ1 : Hid (∀ W v u, IsInts W v [0, 1] → IsInts W u [0, 1] → Calls Try.prog 30 #[v, u] W (Ret W (.bool true))) := Lib.hid fun W v u h k => slEqualInt_c v u [0, 1] [0, 1] W h k
  have EQ2 : Hid (∀ W v u, IsInts W v [0, 2] → IsInts W u [0, 2] → Calls Try.prog 30 #[v, u] W (Ret W (.bool true))) := Lib.hid fun W v u h k => slEqualInt_c v u [0, 2] [0, 2] W h k
  have EQ3 : Hid (∀ W v u, IsInts W v [1] → IsInts W u [1] → Calls Try.prog 30 #[v, u] W (Ret W (.bool true))) := Lib.hid fun W v u h k => slEqualInt_c v u [1] [1] W h k
  have LIT1 : Hid (∀ W : World, IsInts (W.alloc (.cells #[.int .i64 0, .int .i64 1] 3)) (.slice (some ⟨W.heap.size, 0, none⟩) 2 2) [0, 1]) := Lib.hid fun W => ints_lit _ [0, 1] 2 rfl rfl rfl (by omega)
  have LIT2 : Hid (∀ W : World, IsInts (W.alloc (.cells #[.int .i64 0, .int .i64 2] 3)) (.slice (some ⟨W.heap.size, 0, none⟩) 2 2) [0, 2]) := Lib.hid fun W => ints_lit _ [0, 2] 2 rfl rfl rfl (by omega)
  have LIT3 : Hid (∀ W : World, IsInts (W.alloc (.cells #[.int .i64 1] 3)) (.slice (some ⟨W.heap.size, 0, none⟩) 1 1) [1]) := Lib.hid fun W => ints_lit _ [1] 1 rfl rfl rfl (by omega)
  have HB5 := Lib.hid hB5
  have Hw5 := Lib.hid hw5
  clear hb1 hb2 hb3 hb4 hB hT hN hN5 hB5 ht he hw5
  go_wp2_with fail
  rw [← Hw5.out]
  clear Hw5
  obtain ⟨tb, htb⟩ : ∃ x, x = w4.heap.size := ⟨_, rfl⟩
  rw [← htb] at HS ⊢
  clear htb
  have kb : Below w5.heap.size w5 w5.drew := (Below.refl _ _).drew
  go_region_held3 (fun W => W.cell? ⟨tb, 0, none⟩ = some (.slice A N.length cap) ∧ W.cell? ⟨tb, 1, none⟩ = some (.int .i64 r)) ((first | exact HS.out _ kb | exact HS.out _ (kb.alloc kb.size _))) (first
    | (go_at_call 14; (with_reducible refine (HVld.out _ kb).mono ?_); rintro e W ⟨rfl, hb⟩; have kb := kb.trans (hb.mono kb.size); clear hb)
    | (go_at_call 14; (with_reducible refine (HVld.out _ (kb.alloc kb.size _)).mono ?_); rintro e W ⟨rfl, hb⟩; have kb := (kb.alloc kb.size _).trans (hb.mono (kb.alloc kb.size _).size); clear hb)
    | (go_at_call 26; (with_reducible refine (HStab.out _ kb).mono ?_); rintro e W ⟨v, rfl, o, hb⟩; have kb := kb.trans (hb.mono kb.size); (try (have hl1 := hl1.below hb)); have h1 := ints_of_own o; clear o; clear hb)
    | (go_at_call 26; (with_reducible refine (HStab.out _ (kb.alloc kb.size _)).mono ?_); rintro e W ⟨v, rfl, o, hb⟩; have kb := (kb.alloc kb.size _).trans (hb.mono (kb.alloc kb.size _).size); have hl1 := (LIT1.out _).below hb; have h1 := ints_of_own o; clear o; clear hb)
    | (go_at_call 30; (with_reducible refine (EQ1.out _ _ _ h1 hl1).mono ?_); rintro e W ⟨rfl, hb⟩; have kb := kb.trans (hb.mono kb.size); clear hb)
    | (go_at_call 30; (with_reducible refine (EQ1.out _ _ _ (IsInts.alloc h1 _) (LIT1.out _)).mono ?_); rintro e W ⟨rfl, hb⟩; have kb := (kb.alloc kb.size _).trans (hb.mono (kb.alloc kb.size _).size); clear hb)
    | (go_at_call 43; (with_reducible refine (HSpA.out _ kb).mono ?_); rintro e W ⟨rfl, hb⟩; have kb := kb.trans (hb.mono kb.size); (try (have hl2 := hl2.below hb)); clear hb)
    | (go_at_call 43; (with_reducible refine (HSpA.out _ (kb.alloc kb.size _)).mono ?_); rintro e W ⟨rfl, hb⟩; have kb := (kb.alloc kb.size _).trans (hb.mono (kb.alloc kb.size _).size); have hl2 := (LIT2.out _).below hb; clear hb)
    | (go_at_call 27; (with_reducible refine (HOv.out _ kb).mono ?_); rintro e W ⟨v, rfl, o, hb⟩; have kb := kb.trans (hb.mono kb.size); (try (have hl2 := hl2.below hb)); have h2 := ints_of_own o; clear o; clear hb)
    | (go_at_call 27; (with_reducible refine (HOv.out _ (kb.alloc kb.size _)).mono ?_); rintro e W ⟨v, rfl, o, hb⟩; have kb := (kb.alloc kb.size _).trans (hb.mono (kb.alloc kb.size _).size); have hl2 := (LIT2.out _).below hb; have h2 := ints_of_own o; clear o; clear hb)
    | (go_at_call 30; (with_reducible refine (EQ2.out _ _ _ h2 hl2).mono ?_); rintro e W ⟨rfl, hb⟩; have kb := kb.trans (hb.mono kb.size); clear hb)
    | (go_at_call 30; (with_reducible refine (EQ2.out _ _ _ (IsInts.alloc h2 _) (LIT2.out _)).mono ?_); rintro e W ⟨rfl, hb⟩; have kb := (kb.alloc kb.size _).trans (hb.mono (kb.alloc kb.size _).size); clear hb)
    | (go_at_call 43; (with_reducible refine (HSpB.out _ kb).mono ?_); rintro e W ⟨rfl, hb⟩; have kb := kb.trans (hb.mono kb.size); (try (have hl3 := hl3.below hb)); clear hb)
    | (go_at_call 43; (with_reducible refine (HSpB.out _ (kb.alloc kb.size _)).mono ?_); rintro e W ⟨rfl, hb⟩; have kb := (kb.alloc kb.size _).trans (hb.mono (kb.alloc kb.size _).size); have hl3 := (LIT3.out _).below hb; clear hb)
    | (go_at_call 28; (with_reducible refine (HRel.out _ kb).mono ?_); rintro e W ⟨v, rfl, o, hb⟩; have kb := kb.trans (hb.mono kb.size); (try (have hl3 := hl3.below hb)); have h3 := ints_of_own o; clear o; clear hb)
    | (go_at_call 28; (with_reducible refine (HRel.out _ (kb.alloc kb.size _)).mono ?_); rintro e W ⟨v, rfl, o, hb⟩; have kb := (kb.alloc kb.size _).trans (hb.mono (kb.alloc kb.size _).size); have hl3 := (LIT3.out _).below hb; have h3 := ints_of_own o; clear o; clear hb)
    | (go_at_call 30; (with_reducible refine (EQ3.out _ _ _ h3 hl3).mono ?_); rintro e W ⟨rfl, hb⟩; have kb := kb.trans (hb.mono kb.size); clear hb)
    | (go_at_call 30; (with_reducible refine (EQ3.out _ _ _ (IsInts.alloc h3 _) (LIT3.out _)).mono ?_); rintro e W ⟨rfl, hb⟩; have kb := (kb.alloc kb.size _).trans (hb.mono (kb.alloc kb.size _).size); clear hb)
    | fail)
  all_goals
    go_wp2_with fail
    go_ret
    exact ⟨rfl, HB5.out.trans (kb.mono HB5.out.size)⟩
end Go.Proofs.Ytgdcgdjlhljbiaa
