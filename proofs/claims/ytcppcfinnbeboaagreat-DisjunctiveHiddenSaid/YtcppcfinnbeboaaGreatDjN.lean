/- Law 47: what narrowing computes. No program in sight. -/
import Derived.Test.YtcppcfinnbeboaaGreatDjX
namespace Go.Proofs.YtcppcfinnbeboaaGreat
open Go.RowKit

def inB (lo hi y : Int) : Bool := decide (lo ≤ y) && decide (y < hi)
open Classical in
/-- The canonical list of the numbers of some spans from lo on, below hi. -/
noncomputable def cutD (x : List Sp) (lo hi : Int) : List Sp := if h : ∃ r, Canon r ∧ ∀ y, mem r y = (mem x y && inB lo hi y) then h.choose else []
theorem cutD_eq {x r : List Sp} {lo hi : Int} (h : Canon r) (hm : ∀ y, mem r y = (mem x y && inB lo hi y)) : cutD x lo hi = r := by
  have he : ∃ r, Canon r ∧ ∀ y, mem r y = (mem x y && inB lo hi y) := ⟨r, h, hm⟩
  unfold cutD
  rw [dif_pos he]
  exact canon_ext he.choose_spec.1 h fun y => (he.choose_spec.2 y).trans (hm y).symm
def loD (M : Mat) (c : Cho) : Int := if M c.2.1.toNat c.1.toNat < noneD then -(M c.2.1.toNat c.1.toNat) else -noneD
def hiD (M : Mat) (c : Cho) : Int := if M c.1.toNat c.2.1.toNat < noneD then M c.1.toNat c.2.1.toNat + 1 else noneD
noncomputable def cutC (M : Mat) (c : Cho) : List Sp := if okSpan (loD M c, hiD M c) = true then cutD c.2.2 (loD M c) (hiD M c) else []
noncomputable def roundTo (M : Mat) (cs : List Cho) : Nat → List Cho
  | 0 => cs
  | k + 1 => setC (roundTo M cs k) k (cutC M (cho cs k))
theorem roundTo_len (M : Mat) (cs : List Cho) : ∀ k, (roundTo M cs k).length = cs.length
  | 0 => rfl
  | k + 1 => by rw [roundTo, setC_len, roundTo_len M cs k]
theorem roundTo_get (M : Mat) (cs : List Cho) : ∀ k, k ≤ cs.length → ∀ j, cho (roundTo M cs k) j = if j < k then ((cho cs j).1, (cho cs j).2.1, cutC M (cho cs j)) else cho cs j
  | 0, _, j => by rw [if_neg (by omega)]; rfl
  | k + 1, hk, j => by
    rw [roundTo, setC_get _ j (by rw [roundTo_len]; omega), roundTo_get M cs k (by omega) j, roundTo_get M cs k (by omega) k, if_neg (show ¬ k < k by omega)]
    by_cases e : j = k
    · subst e; rw [if_pos rfl, if_pos (by omega)]
    · rw [if_neg e]
      by_cases h : j < k
      · rw [if_pos h, if_pos (by omega)]
      · rw [if_neg h, if_neg (by omega)]
theorem setC_same {L : List Cho} {i : Nat} (hi : i < L.length) : setC L i (cho L i).2.2 = L := by
  unfold setC
  rw [← cho_at hi]
  exact List.set_getElem_self hi
/-- Do the first choices change? -/
noncomputable def chTo (M : Mat) (cs : List Cho) (k : Nat) : Bool := (List.range k).any fun i => !decide (cutC M (cho cs i) = (cho cs i).2.2)
noncomputable def okTo (M : Mat) (cs : List Cho) (k : Nat) : Bool := (List.range k).all fun i => !decide (cutC M (cho cs i) = [])
noncomputable def nextD (n : Nat) (cs : List Cho) : Option (List Cho × Bool) :=
  match tightF n (hullsF cs cs.length) with
  | none => none
  | some M => if okTo M cs cs.length = true then some (roundTo M cs cs.length, chTo M cs cs.length) else none
def StOk (n : Nat) (cs : List Cho) : Prop := cs.length ≤ 60 ∧ ∀ i, i < cs.length → ChoN (n : Int) (cho cs i)
/-- A run of the narrowing: how many rounds change something, from where, to what. -/
inductive Nar (n : Nat) : Nat → List Cho → Option (List Cho) → Prop
  | fail {cs : List Cho} : StOk n cs → nextD n cs = none → Nar n 0 cs none
  | fix {cs cs' : List Cho} : StOk n cs → nextD n cs = some (cs', false) → Nar n 0 cs (some cs')
  | step {k : Nat} {cs cs' : List Cho} {r : Option (List Cho)} : StOk n cs → nextD n cs = some (cs', true) → Nar n k cs' r → Nar n (k + 1) cs r
theorem Nar.st {n k : Nat} {cs : List Cho} {r : Option (List Cho)} (h : Nar n k cs r) : StOk n cs := by cases h <;> assumption
/-- A closed matrix holds no number that is too low. -/
theorem tightF_low {n : Nat} {l : List Bnd} {M : Mat} (h : tightF (n + 1) l = some M) : ∀ i j, i < n + 1 → j < n + 1 → -68719476736 ≤ M i j := by
  unfold tightF at h
  split at h
  · cases h
  · rename_i P hP
    split at h
    · cases h
    · injection h with h
      subst h
      have h2 : (match fwTo (startF l l.length) (n + 1) n with | none => none | some N => if lowF (stageF N n (n + 1) (n + 1)) (n + 1) (n + 1) then none else some (stageF N n (n + 1) (n + 1))) = some P := hP
      split at h2
      · cases h2
      · split at h2
        · cases h2
        · rename_i hlow
          injection h2 with h2
          rw [h2] at hlow
          intro i j hi hj
          rcases Int.lt_or_le (P i j) (-68719476736) with h3 | h3
          · exfalso
            apply hlow
            unfold lowF
            rw [List.any_eq_true]
            refine ⟨i, by simpa using hi, ?_⟩
            rw [List.any_eq_true]
            exact ⟨j, by simpa using hj, decide_eq_true h3⟩
          · exact h3
/-- What runs.Of and runs.Meet make of a choice's spans. -/
theorem cut_of {x : List Sp} (hx : x.all spB = true) (hl : x.length ≤ 8) {r : List Sp × Int} (h : OfSpec x r) : ∃ m, r = (m, 0) ∧ validB m = true ∧ m.length ≤ 16 ∧ ∀ y, mem m y = mem x y := by
  have ho : x.all okSpan = true := by
    rw [List.all_eq_true] at hx ⊢
    intro s hs
    have := spB_near (hx s hs)
    rw [okSpan_iff]
    unfold OkSp
    omega
  unfold OfSpec at h
  rw [if_pos ho] at h
  obtain ⟨m, h1, h2, h3, h4⟩ := h
  have h5 : m.length ≤ 16 := by omega
  refine ⟨m, ?_, (validB_iff m).2 ⟨by omega, h1⟩, h5, h2⟩
  rw [h4]
  unfold opR
  rw [if_pos (by omega)]
theorem cut_meet {x m : List Sp} {lo hi : Int} (hm : ∀ y, mem m y = mem x y) (hv : validB m = true) (hl : m.length ≤ 16) (ho : okSpan (lo, hi) = true) {r : List Sp × Int} (h : OpSpec gMeet m [(lo, hi)] r) : r = (cutD x lo hi, 0) := by
  have hv2 : validB [(lo, hi)] = true := by
    rw [validB_iff]
    exact ⟨by simp, fun s hs => by rw [List.mem_singleton.1 hs]; exact (okSpan_iff _).1 ho, List.pairwise_singleton _ _⟩
  unfold OpSpec at h
  rw [if_pos (by rw [hv, hv2]; rfl)] at h
  obtain ⟨l, ⟨h1, h2⟩, h3, h4⟩ := h
  rw [h4]
  unfold opR
  simp only [List.length_singleton] at h3
  rw [if_pos (by omega), cutD_eq h1 fun y => ?_]
  rw [h2 y, hm y]
  unfold gMeet mem inB
  simp
end Go.Proofs.YtcppcfinnbeboaaGreat
