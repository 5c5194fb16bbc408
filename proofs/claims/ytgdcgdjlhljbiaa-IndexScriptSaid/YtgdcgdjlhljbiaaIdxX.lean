/- Law 42: index.Build. -/
import Derived.Test.YtgdcgdjlhljbiaaIdxU
import Derived.Test.YtgdcgdjlhljbiaaIdxW
namespace Go.Proofs.Ytgdcgdjlhljbiaa
open Go.RowKit Go.Shelf

def ixE (l : List Sp) (k : Nat) : List En := (List.range k).map fun i => (fr l i, tt l i, (i : Int))
theorem ixE_len (l : List Sp) (k : Nat) : (ixE l k).length = k := by simp [ixE]
theorem ixE_succ (l : List Sp) (k : Nat) : ixE l (k + 1) = ixE l k ++ [(fr l k, tt l k, (k : Int))] := by simp [ixE, List.range_succ]
theorem ixE_nodup (l : List Sp) (k : Nat) : (ixE l k).Nodup := by
  unfold ixE
  refine (List.pairwise_map.2 ((List.nodup_range (n := k)).imp fun {a b} h => ?_))
  intro e
  injection e with _ e
  injection e with _ e
  omega
theorem ixE_ok {l : List Sp} (h : l.all okSpan = true) : ∀ e ∈ ixE l l.length, okSpan (e.1, e.2.1) = true := by
  intro e he
  obtain ⟨i, hi, rfl⟩ := List.mem_map.1 he
  have hi := List.mem_range.1 hi
  exact List.all_eq_true.1 h _ (idx_mem hi)
theorem strict_of {M : List En} (h : M.Pairwise (fun x y => ¬ enLt y x)) (hn : M.Nodup) : M.Pairwise enLt := by
  refine (h.and hn).imp fun {x y} h => ?_
  have h1 := h.1
  have h2 := h.2
  obtain ⟨a, b, c⟩ := x
  obtain ⟨d, e, f⟩ := y
  have h3 : ¬ (a = d ∧ b = e ∧ c = f) := fun ⟨q1, q2, q3⟩ => h2 (by rw [q1, q2, q3])
  unfold enLt at *
  simp only at *
  omega
theorem xBuild1_c (p q : Int) (w : World) : Calls Try.prog 50 #[.agg #[.int .i64 p, .int .i64 q]] w (Ret w (.bool (!okSpan (p, q)))) := by
  cases ho : okSpan (p, q)
  all_goals
    go_enter Try.func50, Try.ntmps50
    go_wp2_with fail
    refine (ivValid_c _ _ _).mono ?_
    rw [ho]
    rintro e w1 ⟨rfl, hb⟩
    go_wp2
    go_ret
    exact ⟨rfl, ((Below.refl _ _).alloc (Nat.le_refl _) _).trans (hb.mono (by simp))⟩
theorem ent_xBuild1 : ∀ (args : Array Value) (w : World), Sem.run Try.prog (callFunc 50 args) w = .ok (.enter 50 args) w := fun _ _ => by kernel_rfl
theorem pred_xBuild1 (w : World) : PredBelow Try.prog 50 #[] (fun x => .agg (encSp x).toArray) (fun s => !okSpan s) w := fun W x hb =>
  (xBuild1_c x.1 x.2 W).mono fun _ _ ⟨he, hb'⟩ => ⟨he, hb.trans (hb'.mono hb.size)⟩
/-- A tree made of these entries, of the call's own; behind it an error's number. -/
def MadeT (M : List En) (w : World) (e : Ending) (w' : World) : Prop :=
  ∃ A cap N r, e = .returned (.tuple #[.agg #[.slice A N.length cap, .int .i64 r], .int .i64 0]) ∧ GrowOk M [] N r ∧ OwnsN w' w.heap.size (.slice A N.length cap) N ∧ Below w.heap.size w w'
/-- No tree; an error's number. -/
def NoT (n : Int) (w : World) (e : Ending) (w' : World) : Prop := e = .returned (.tuple #[.agg #[.slice none 0 0, .int .i64 0], .int .i64 n]) ∧ Below w.heap.size w w'
def BuildRet (l : List Sp) (w : World) (e : Ending) (w' : World) : Prop :=
  if l.all okSpan = false then NoT 1 w e w' else if 1000 < l.length then NoT 5 w e w' else ∃ M, M.Perm (ixE l l.length) ∧ M.Pairwise enLt ∧ MadeT M w e w'
set_option maxRecDepth 100000 in
set_option maxHeartbeats 2000000 in
theorem xBuild_c (v : Value) (l : List Sp) (w : World) (hs : IsSpans w v l) : Calls Try.prog 16 #[v] w (BuildRet l w) := by
  obtain ⟨A, c, rfl, hnc, hc⟩ := hs.form
  have hb1 := (Below.refl w.heap.size w).alloc (Nat.le_refl _) (.cells #[.slice none 0 0, .int .i64 0] 24)
  have hz1 : (w.alloc (.cells #[.slice none 0 0, .int .i64 0] 24)).heap.size = w.heap.size + 1 := by simp
  have hR := heap_alloc_new w (.cells #[.slice none 0 0, .int .i64 0] 24)
  have hs1 := hs.below hb1
  have hcon := slContainsSpan_c (fun s => !okSpan s) 50 #[] ent_xBuild1 _ l _ hs1 (pred_xBuild1 _)
  rw [show l.any (fun s => !okSpan s) = !l.all okSpan from by rw [List.not_all_eq_any_not]] at hcon
  unfold BuildRet
  cases ho : l.all okSpan
  · rw [ho] at hcon
    simp only [if_true]
    have Hcon := Lib.hid hcon; have Hb1 := Lib.hid hb1; have HR := Lib.hid hR; have Hz1 := Lib.hid hz1
    clear hcon hb1 hR hs1 hs hz1
    go_enter Try.func16, Try.ntmps16
    go_wp2_with fail
    refine Hcon.out.mono ?_
    rintro e w2 ⟨rfl, hb2⟩
    have hz1 := Hz1.out
    have hR2 : w2.heap[w.heap.size]? = some (.cells #[.slice none 0 0, .int .i64 0] 24 (0, 0)) := (hb2.block _ (by omega)).trans HR.out
    have r0 : w2.cell? ⟨w.heap.size, 0, none⟩ = some (.slice none 0 0) := by simp [World.cell?, hR2]
    have r1 : w2.cell? ⟨w.heap.size, 1, none⟩ = some (.int .i64 0) := by simp [World.cell?, hR2]
    have r2 : w2.frozen? ⟨w.heap.size, 0, none⟩ = false := by simp [World.frozen?, hR2]
    have r3 : w2.frozen? ⟨w.heap.size, 1, none⟩ = false := by simp [World.frozen?, hR2]
    have hb12 := Hb1.out.trans (hb2.mono Hb1.out.size)
    have HR2 := Lib.hid hR2; have Hb12 := Lib.hid hb12
    clear hz1 hR2 hb12 hb2
    go_wp2_with fail
    have hF : ((w2.setCell ⟨w.heap.size, 0, none⟩ (.slice none 0 0)).setCell ⟨w.heap.size, 1, none⟩ (.int .i64 0)).heap[w.heap.size]? = some (.cells #[.slice none 0 0, .int .i64 0] 24 (0, 0)) := by
      have := HR2.out
      simp [World.setCell, Array.getElem?_modify, this]
    have F0 : ((w2.setCell ⟨w.heap.size, 0, none⟩ (.slice none 0 0)).setCell ⟨w.heap.size, 1, none⟩ (.int .i64 0)).cell? ⟨w.heap.size, 0, none⟩ = some (.slice none 0 0) := by simp [World.cell?, hF]
    have F1 : ((w2.setCell ⟨w.heap.size, 0, none⟩ (.slice none 0 0)).setCell ⟨w.heap.size, 1, none⟩ (.int .i64 0)).cell? ⟨w.heap.size, 1, none⟩ = some (.int .i64 0) := by simp [World.cell?, hF]
    have hbF := (Hb12.out.setCell (p := ⟨w.heap.size, 0, none⟩) (Nat.le_refl _) (.slice none 0 0)).setCell (p := ⟨w.heap.size, 1, none⟩) (Nat.le_refl _) (.int .i64 0)
    clear r0 r1 r2 r3 hF
    generalize ((w2.setCell ⟨w.heap.size, 0, none⟩ (.slice none 0 0)).setCell ⟨w.heap.size, 1, none⟩ (.int .i64 0)) = wF at *
    refine bodyPost_ret (by simp [results, Try.results16, go_sem, F0, F1]; try rfl) rfl ?_
    exact ⟨rfl, hbF⟩
  · rw [ho] at hcon
    simp only [Bool.true_eq_false, if_false]
    have Hcon := Lib.hid hcon; have Hb1 := Lib.hid hb1; have HR := Lib.hid hR; have Hz1 := Lib.hid hz1; have Hs1 := Lib.hid hs1; have Ho := Lib.hid ho
    clear hcon hb1 hR hs1 hs hz1 ho
    by_cases hbig : 1000 < l.length
    · simp only [if_pos hbig]
      have cb : decide ((1000 : Int) < (l.length : Int)) = true := decide_eq_true (by omega)
      go_enter Try.func16, Try.ntmps16
      go_wp2_with fail
      refine Hcon.out.mono ?_
      rintro e w2 ⟨rfl, hb2⟩
      have hz1 := Hz1.out
      have hR2 : w2.heap[w.heap.size]? = some (.cells #[.slice none 0 0, .int .i64 0] 24 (0, 0)) := (hb2.block _ (by omega)).trans HR.out
      have r0 : w2.cell? ⟨w.heap.size, 0, none⟩ = some (.slice none 0 0) := by simp [World.cell?, hR2]
      have r1 : w2.cell? ⟨w.heap.size, 1, none⟩ = some (.int .i64 0) := by simp [World.cell?, hR2]
      have r2 : w2.frozen? ⟨w.heap.size, 0, none⟩ = false := by simp [World.frozen?, hR2]
      have r3 : w2.frozen? ⟨w.heap.size, 1, none⟩ = false := by simp [World.frozen?, hR2]
      have hb12 := Hb1.out.trans (hb2.mono Hb1.out.size)
      have HR2 := Lib.hid hR2; have Hb12 := Lib.hid hb12
      clear hz1 hR2 hb12 hb2
      go_wp2_with fail
      have hF : ((w2.setCell ⟨w.heap.size, 0, none⟩ (.slice none 0 0)).setCell ⟨w.heap.size, 1, none⟩ (.int .i64 0)).heap[w.heap.size]? = some (.cells #[.slice none 0 0, .int .i64 0] 24 (0, 0)) := by
        have := HR2.out
        simp [World.setCell, Array.getElem?_modify, this]
      have F0 : ((w2.setCell ⟨w.heap.size, 0, none⟩ (.slice none 0 0)).setCell ⟨w.heap.size, 1, none⟩ (.int .i64 0)).cell? ⟨w.heap.size, 0, none⟩ = some (.slice none 0 0) := by simp [World.cell?, hF]
      have F1 : ((w2.setCell ⟨w.heap.size, 0, none⟩ (.slice none 0 0)).setCell ⟨w.heap.size, 1, none⟩ (.int .i64 0)).cell? ⟨w.heap.size, 1, none⟩ = some (.int .i64 0) := by simp [World.cell?, hF]
      have hbF := (Hb12.out.setCell (p := ⟨w.heap.size, 0, none⟩) (Nat.le_refl _) (.slice none 0 0)).setCell (p := ⟨w.heap.size, 1, none⟩) (Nat.le_refl _) (.int .i64 0)
      clear r0 r1 r2 r3 hF
      generalize ((w2.setCell ⟨w.heap.size, 0, none⟩ (.slice none 0 0)).setCell ⟨w.heap.size, 1, none⟩ (.int .i64 0)) = wF at *
      refine bodyPost_ret (by simp [results, Try.results16, go_sem, F0, F1]; try rfl) rfl ?_
      exact ⟨rfl, hbF⟩
    · simp only [if_neg hbig]
      have cb : decide ((1000 : Int) < (l.length : Int)) = false := decide_eq_false (by omega)
      go_enter Try.func16, Try.ntmps16
      go_wp2_with fail
      refine Hcon.out.mono ?_
      rintro e w2 ⟨rfl, hb2⟩
      have hb12 := Hb1.out.trans (hb2.mono Hb1.out.size)
      have hs2 := Hs1.out.below hb2
      have hR2 : w2.heap[w.heap.size]? = some (.cells #[.slice none 0 0, .int .i64 0] 24 (0, 0)) := (hb2.block _ (by have := Hz1.out; omega)).trans HR.out
      have HR2 := Lib.hid hR2; have Hb12 := Lib.hid hb12; have Hs2 := Lib.hid hs2
      clear hR2 hb12 hs2 hb2 HR Hb1 Hs1 Hcon Hz1
      go_wp2_with fail
      go_loopw [4, 16] (fun o i wr => ∃ (k : Nat) (Ao : Option Addr) (co : Nat), o = .slice Ao k co ∧ i = .int .i64 k ∧ k ≤ l.length ∧ OwnsE wr w2.heap.size 75 (.slice Ao k co) (ixE l k) ∧ Below w2.heap.size w2 wr) (fun _ i _ => l.length - (intOf i).toNat)
      case atStart => exact ⟨0, none, 0, rfl, rfl, by omega, OwnsE.nil, Below.refl _ _⟩
      case round =>
        obtain ⟨k, Ao, co, rfl, rfl, hk, hown, hbw⟩ := hrel
        by_cases hlt : k < l.length
        · have hs2 := Hs2.out.below hbw
          obtain ⟨b0, off, hA, hb0⟩ := hs2.addr (by omega)
          subst hA
          have x0 := hs2.c0 k hlt
          have x1 := hs2.c1 k hlt
          have i1 : (k : Int) < (l.length : Int) := by omega
          have i2 : 0 ≤ (k : Int) := by omega
          have hbA := (Below.refl wr.heap.size wr).alloc (Nat.le_refl _) (.cells #[.int .i64 (fr l k), .int .i64 (tt l k)] 33)
          have hz : (wr.alloc (.cells #[.int .i64 (fr l k), .int .i64 (tt l k)] 33)).heap.size = wr.heap.size + 1 := by simp
          have y0 : (wr.alloc (.cells #[.int .i64 (fr l k), .int .i64 (tt l k)] 33)).cell? ⟨wr.heap.size, 0, none⟩ = some (.int .i64 (fr l k)) := by simp
          have y1 : (wr.alloc (.cells #[.int .i64 (fr l k), .int .i64 (tt l k)] 33)).cell? ⟨wr.heap.size, 1, none⟩ = some (.int .i64 (tt l k)) := by simp
          have Hown := Lib.hid (hown.below hbA); have Hbw := Lib.hid hbw
          have hbwz := hbw.size
          clear hown hs2 hbA hbw
          go_wp2_with (at_builtin; refine append_entG Try.underlying84 tXEntryInfo rfl _ _ rfl w2.heap.size (.slice Ao k co) (ixE l k) (fr l k, tt l k, (k : Int)) rfl Hown.out (by rw [hz]; rfl) (by rw [ixE_len]; omega) (by rw [hz]; omega) ?_; intro v' w' h1 h2 _ _; obtain ⟨Av, cv, rfl⟩ : ∃ A c, v' = .slice A (k + 1) c := (by obtain ⟨A, cp, e, _⟩ := h1.ents.form; exact ⟨A, cp, by rw [e]; simp [ixE_len]⟩))
          go_roundw
          case rel => exact ⟨k + 1, Av, cv, rfl, by go_num, hlt, by rw [ixE_succ]; exact h1, Hbw.out.trans (((Below.refl w2.heap.size wr).alloc hbwz _).trans h2)⟩
          case measure => simp [intOf]; omega
        · obtain rfl : k = l.length := by omega
          go_wp2_with fail
          refine (slSortEntry_c _ (ixE l l.length) wr w2.heap.size hown (by rw [ixE_len]; omega)).mono ?_
          rintro e w3 ⟨rfl, M, hp, hpw, ho3, hb3⟩
          have hok3 : ∀ e ∈ M, okSpan (e.1, e.2.1) = true := fun e he => ixE_ok Ho.out e (hp.mem_iff.1 he)
          have hM : M.length ≤ 100000 := by rw [hp.length_eq, ixE_len]; omega
          have hst := strict_of hpw (hp.nodup_iff.2 (ixE_nodup l l.length))
          have hb23 := hbw.trans hb3
          have Hp := Lib.hid hp; have Hst := Lib.hid hst; have Ho3 := Lib.hid ho3; have Hb23 := Lib.hid hb23; have Hok3 := Lib.hid hok3; have HM := Lib.hid hM
          clear hp hst ho3 hb23 hok3 hM hpw hb3 hown hbw
          go_wp2_with fail
          refine (xbuilt_c _ M w3 Ho3.out.ents Hok3.out HM.out).mono ?_
          rintro e w4 ⟨A4, c4, N4, r4, rfl, g4, o4, b4⟩
          have hb24 := Hb23.out.trans (b4.mono Hb23.out.size)
          have hRs := lt_of_block HR2.out
          have hR4 : w4.heap[w.heap.size]? = some (.cells #[.slice none 0 0, .int .i64 0] 24 (0, 0)) := (hb24.block _ hRs).trans HR2.out
          have r0 : w4.cell? ⟨w.heap.size, 0, none⟩ = some (.slice none 0 0) := by simp [World.cell?, hR4]
          have r1 : w4.cell? ⟨w.heap.size, 1, none⟩ = some (.int .i64 0) := by simp [World.cell?, hR4]
          have r2 : w4.frozen? ⟨w.heap.size, 0, none⟩ = false := by simp [World.frozen?, hR4]
          have r3 : w4.frozen? ⟨w.heap.size, 1, none⟩ = false := by simp [World.frozen?, hR4]
          have hb4 : Below w.heap.size w w4 := Hb12.out.trans (hb24.mono Hb12.out.size)
          have hz3 : w.heap.size < w3.heap.size := Nat.lt_of_lt_of_le hRs Hb23.out.size
          have HR4 := Lib.hid hR4; have Hb4 := Lib.hid hb4; have Ho4 := Lib.hid o4; have Hg4 := Lib.hid g4
          clear hR4 hb4 hb24 o4 g4 b4
          go_wp2_with fail
          have hF : ((w4.setCell ⟨w.heap.size, 0, none⟩ (.slice A4 N4.length c4)).setCell ⟨w.heap.size, 1, none⟩ (.int .i64 r4)).heap[w.heap.size]? = some (.cells #[.slice A4 N4.length c4, .int .i64 r4] 24 (0, 0)) := by
            have := HR4.out
            simp [World.setCell, Array.getElem?_modify, this]
          have F0 : ((w4.setCell ⟨w.heap.size, 0, none⟩ (.slice A4 N4.length c4)).setCell ⟨w.heap.size, 1, none⟩ (.int .i64 r4)).cell? ⟨w.heap.size, 0, none⟩ = some (.slice A4 N4.length c4) := by simp [World.cell?, hF]
          have F1 : ((w4.setCell ⟨w.heap.size, 0, none⟩ (.slice A4 N4.length c4)).setCell ⟨w.heap.size, 1, none⟩ (.int .i64 r4)).cell? ⟨w.heap.size, 1, none⟩ = some (.int .i64 r4) := by simp [World.cell?, hF]
          have hbF := (Hb4.out.setCell (p := ⟨w.heap.size, 0, none⟩) (Nat.le_refl _) (.slice A4 N4.length c4)).setCell (p := ⟨w.heap.size, 1, none⟩) (Nat.le_refl _) (.int .i64 r4)
          have hoF : OwnsN ((w4.setCell ⟨w.heap.size, 0, none⟩ (.slice A4 N4.length c4)).setCell ⟨w.heap.size, 1, none⟩ (.int .i64 r4)) w.heap.size (.slice A4 N4.length c4) N4 := (Ho4.out.mono (Nat.le_of_lt hz3)).kept fun g n cap e => by
            have hg : w3.heap.size ≤ g := by
              rcases Ho4.out.2 with ⟨e2, h0⟩ | ⟨g', cap', cur, e2, hg', _⟩
              · rw [e] at e2; cases e2
              · rw [e] at e2
                injection e2 with e3
                injection e3 with e3
                injection e3 with e3
                omega
            exact (Below.heap_setCell _ _ _ _ (show g ≠ w.heap.size by omega)).trans (Below.heap_setCell _ _ _ _ (show g ≠ w.heap.size by omega))
          clear r0 r1 r2 r3 hF
          generalize ((w4.setCell ⟨w.heap.size, 0, none⟩ (.slice A4 N4.length c4)).setCell ⟨w.heap.size, 1, none⟩ (.int .i64 r4)) = wF at *
          refine bodyPost_ret (by simp [results, Try.results16, go_sem, F0, F1]; try rfl) rfl ?_
          exact ⟨M, Hp.out, Hst.out, A4, c4, N4, r4, rfl, Hg4.out, hoF, hbF⟩
end Go.Proofs.Ytgdcgdjlhljbiaa
