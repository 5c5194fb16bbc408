
/- The examples of chapter 12: awake answers true. -/
import Derived.Test.YtahpcepnagpbdaaRunsD
import Derived.Test.YtahpcepnagpbdaaRunsE
import Derived.Test.YtahpcepnagpbdaaRunsF
namespace Go.Proofs.Ytahpcepnagpbdaa
open Go.RowKit

theorem spans_lit {w : World} {cs : Array Value} {t : TypeId} (b : Nat) (l : List Sp) (n : Nat) (hb : w.heap.size = b) (hn : n = l.length) (hc : cs.toList = flat l) (hl : n ≤ 1000000) : IsSpans (w.alloc (.cells cs t)) (.slice (some ⟨b, 0, none⟩) n n) l := by
  subst hn hb
  refine ⟨_, l.length, rfl, Nat.le_refl _, by omega, fun _ => ⟨w.heap.size, 0, rfl, by simp, fun i j hi hj => ?_⟩⟩
  have e : cs = (flat l).toArray := by rw [← hc]
  subst e
  have := flat_get l i j hi hj
  simp [this]

theorem op_ok {g : Bool → Bool → Bool} {a b l : List Sp} {r : List Sp × Int} (h : OpSpec g a b r) (ha : validB a = true) (hb : validB b = true) (hl : IsOp g a b l) (h2 : l.length ≤ 2000) : r = (l, 0) := by
  rw [OpSpec, if_pos (by rw [ha, hb]; rfl)] at h
  obtain ⟨l', h1, _, rfl⟩ := h
  rw [isOp_unique h1 hl, opR, if_pos h2]

theorem awake12_union : IsOp gUnion [(0, 3)] [(3, 5)] [(0, 5)] := by
  refine ⟨⟨by simp [OkSp], by simp⟩, fun x => ?_⟩
  rw [Bool.eq_iff_iff]
  simp [mem, gUnion]
  omega

end Go.Proofs.Ytahpcepnagpbdaa
