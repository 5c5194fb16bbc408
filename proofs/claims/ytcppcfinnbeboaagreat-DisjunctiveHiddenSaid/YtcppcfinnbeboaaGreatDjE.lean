/- Law 47: the chapter's example: what narrowing makes of it. No program in sight. -/
import Derived.Test.YtcppcfinnbeboaaGreatDjN
namespace Go.Proofs.YtcppcfinnbeboaaGreat

theorem cutC_eq {M : Mat} {c : Cho} {r : List Sp} (lo hi : Int) (h1 : loD M c = lo) (h2 : hiD M c = hi) (ho : okSpan (lo, hi) = true) (hr : Canon r) (hm : ∀ y, mem r y = (mem c.2.2 y && inB lo hi y)) : cutC M c = r := by
  unfold cutC
  rw [h1, h2, if_pos ho]
  exact cutD_eq hr hm
def ex47 : List Cho := [(0, 1, [(2, 5), (10, 13)]), (1, 2, [(3, 4)]), (0, 2, [(-9, 7)])]
def ex47' : List Cho := [(0, 1, [(2, 4)]), (1, 2, [(3, 4)]), (0, 2, [(5, 7)])]
def six (M : Mat) : List Int := [M 0 1, M 1 0, M 1 2, M 2 1, M 0 2, M 2 0]
theorem tight_ex : (tightF 3 (hullsF ex47 3)).map six = some [3, -2, 3, -3, 6, -5] := by decide +kernel
theorem tight_ex' : (tightF 3 (hullsF ex47' 3)).map six = some [3, -2, 3, -3, 6, -5] := by decide +kernel
theorem canon_one {p q : Int} (h : -4398046511104 ≤ p ∧ p < q ∧ q ≤ 4398046511104) : Canon [(p, q)] := by
  refine ⟨fun s hs => ?_, List.pairwise_singleton _ _⟩
  rw [List.mem_singleton.1 hs]
  unfold OkSp
  exact h
theorem st_ex : StOk 3 ex47 := by
  refine ⟨by decide, fun i hi => ?_⟩
  have h3 : i < 3 := hi
  rcases (by omega : i = 0 ∨ i = 1 ∨ i = 2) with rfl | rfl | rfl <;> (refine ⟨?_, ?_, ?_, ?_, ?_, ?_, ?_⟩ <;> decide)
theorem st_ex' : StOk 3 ex47' := by
  refine ⟨by decide, fun i hi => ?_⟩
  have h3 : i < 3 := hi
  rcases (by omega : i = 0 ∨ i = 1 ∨ i = 2) with rfl | rfl | rfl <;> (refine ⟨?_, ?_, ?_, ?_, ?_, ?_, ?_⟩ <;> decide)
theorem cut_ex {M : Mat} (h : six M = [3, -2, 3, -3, 6, -5]) {x0 x1 x2 : List Sp} (m0 : ∀ y, mem [(2, 4)] y = (mem x0 y && inB 2 4 y)) (m1 : ∀ y, mem [(3, 4)] y = (mem x1 y && inB 3 4 y)) (m2 : ∀ y, mem [(5, 7)] y = (mem x2 y && inB 5 7 y)) :
    cutC M (0, 1, x0) = [(2, 4)] ∧ cutC M (1, 2, x1) = [(3, 4)] ∧ cutC M (0, 2, x2) = [(5, 7)] := by
  unfold six at h
  simp only [List.cons.injEq, and_true] at h
  obtain ⟨h1, h2, h3, h4, h5, h6⟩ := h
  refine ⟨cutC_eq 2 4 ?_ ?_ (by decide) (canon_one (by omega)) m0, cutC_eq 3 4 ?_ ?_ (by decide) (canon_one (by omega)) m1, cutC_eq 5 7 ?_ ?_ (by decide) (canon_one (by omega)) m2⟩
  · show (if M 1 0 < noneD then -(M 1 0) else -noneD) = 2
    rw [h2]; decide
  · show (if M 0 1 < noneD then M 0 1 + 1 else noneD) = 4
    rw [h1]; decide
  · show (if M 2 1 < noneD then -(M 2 1) else -noneD) = 3
    rw [h4]; decide
  · show (if M 1 2 < noneD then M 1 2 + 1 else noneD) = 4
    rw [h3]; decide
  · show (if M 2 0 < noneD then -(M 2 0) else -noneD) = 5
    rw [h6]; decide
  · show (if M 0 2 < noneD then M 0 2 + 1 else noneD) = 7
    rw [h5]; decide
theorem mem1 (p q y : Int) : mem [(p, q)] y = (decide (p ≤ y) && decide (y < q)) := by unfold mem; simp
theorem mem2 (p q r s y : Int) : mem [(p, q), (r, s)] y = ((decide (p ≤ y) && decide (y < q)) || (decide (r ≤ y) && decide (y < s))) := by unfold mem; simp
theorem next_ex : nextD 3 ex47 = some (ex47', true) := by
  obtain ⟨M, hM, h6⟩ := Option.map_eq_some_iff.1 tight_ex
  obtain ⟨c0, c1, c2⟩ := cut_ex h6 (x0 := [(2, 5), (10, 13)]) (x1 := [(3, 4)]) (x2 := [(-9, 7)])
    (fun y => by rw [mem1, mem2]; unfold inB; rw [Bool.eq_iff_iff]; simp; omega) (fun y => by rw [mem1]; unfold inB; rw [Bool.eq_iff_iff]; simp) (fun y => by rw [mem1, mem1]; unfold inB; rw [Bool.eq_iff_iff]; simp; omega)
  have e0 : cho ex47 0 = (0, 1, [(2, 5), (10, 13)]) := rfl
  have e1 : cho ex47 1 = (1, 2, [(3, 4)]) := rfl
  have e2 : cho ex47 2 = (0, 2, [(-9, 7)]) := rfl
  have hok : okTo M ex47 3 = true := by
    unfold okTo
    simp [List.range_succ, e0, e1, e2, c0, c1, c2]
  have hch : chTo M ex47 3 = true := by
    unfold chTo
    simp [List.range_succ, e0, e1, e2, c0, c1, c2]
  have hro : roundTo M ex47 3 = ex47' := by
    simp only [roundTo, e0, e1, e2, c0, c1, c2]
    rfl
  unfold nextD
  rw [show ex47.length = 3 from rfl, hM]
  simp only [hok, hch, hro, if_true]
theorem next_ex' : nextD 3 ex47' = some (ex47', false) := by
  obtain ⟨M, hM, h6⟩ := Option.map_eq_some_iff.1 tight_ex'
  obtain ⟨c0, c1, c2⟩ := cut_ex h6 (x0 := [(2, 4)]) (x1 := [(3, 4)]) (x2 := [(5, 7)])
    (fun y => by rw [mem1]; unfold inB; rw [Bool.eq_iff_iff]; simp) (fun y => by rw [mem1]; unfold inB; rw [Bool.eq_iff_iff]; simp) (fun y => by rw [mem1]; unfold inB; rw [Bool.eq_iff_iff]; simp)
  have e0 : cho ex47' 0 = (0, 1, [(2, 4)]) := rfl
  have e1 : cho ex47' 1 = (1, 2, [(3, 4)]) := rfl
  have e2 : cho ex47' 2 = (0, 2, [(5, 7)]) := rfl
  have hok : okTo M ex47' 3 = true := by
    unfold okTo
    simp [List.range_succ, e0, e1, e2, c0, c1, c2]
  have hch : chTo M ex47' 3 = false := by
    unfold chTo
    simp [List.range_succ, e0, e1, e2, c0, c1, c2]
  have hro : roundTo M ex47' 3 = ex47' := by
    simp only [roundTo, e0, e1, e2, c0, c1, c2]
    rfl
  unfold nextD
  rw [show ex47'.length = 3 from rfl, hM]
  simp only [hok, hch, hro, if_true]
theorem nar_ex : Nar 3 1 ex47 (some ex47') := .step st_ex next_ex (.fix st_ex' next_ex')
theorem net_ex : netB 3 ex47 = true := by decide
end Go.Proofs.YtcppcfinnbeboaaGreat
