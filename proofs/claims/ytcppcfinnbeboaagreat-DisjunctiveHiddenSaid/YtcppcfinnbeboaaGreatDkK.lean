
/- Law 47: the law's closure that asks whether a number is in a span; what holds and what is narrowed. -/
import Derived.Test.YtcppcfinnbeboaaGreatDkG
import Derived.Test.YtcppcfinnbeboaaGreatDjJ
namespace Go.Proofs.YtcppcfinnbeboaaGreat
open Go.RowKit Go.Shelf

/-! ### plain -/
theorem satB_mem (ts : List Int) (c : Cho) : satB ts c = mem c.2.2 (iv ts c.2.1.toNat - iv ts c.1.toNat) := rfl
theorem all_sat {l : List Cho} {ts : List Int} : l.all (satB ts) = true ↔ SatN l (iv ts) := by
  constructor
  · intro h i hi
    have := List.all_eq_true.1 h _ (cho_mem hi)
    rwa [satB_mem] at this
  · intro h
    exact all_of (p := satB ts) (fun i hi => cho_at hi) fun i hi => by rw [satB_mem]; exact h i hi
theorem stOk_net {n : Nat} {l : List Cho} (h : StOk n l) (h1 : 1 ≤ n) (h2 : n ≤ 24) : netB (n : Int) l = true := by
  unfold netB
  simp only [Bool.and_eq_true, decide_eq_true_eq]
  refine ⟨⟨⟨by omega, by omega⟩, h.1⟩, all_of (p := choB (n : Int)) (fun i hi => cho_at hi) fun i hi => ?_⟩
  obtain ⟨c1, c2, c3, c4, c5, c6, c7⟩ := h.2 i hi
  unfold choB
  simp only [Bool.and_eq_true, decide_eq_true_eq]
  exact ⟨⟨⟨⟨⟨⟨c1, c2⟩, c3⟩, c4⟩, c5⟩, c6⟩, c7⟩
theorem holds_net {l : List Cho} {ts : List Int} (h : netB (ts.length : Int) l = true) : holdsB l ts = (decide (1 ≤ ts.length) && (iv ts 0 == 0) && !ts.any farB && l.all (satB ts)) := by
  unfold holdsB
  rw [h]
  simp
end Go.Proofs.YtcppcfinnbeboaaGreat
