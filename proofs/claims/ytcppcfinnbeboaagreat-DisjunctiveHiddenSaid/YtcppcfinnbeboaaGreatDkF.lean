
/- Law 47: the reference's Same. -/
import Derived.Test.YtcppcfinnbeboaaGreatDkN
import Derived.Test.YtcppcfinnbeboaaGreatDjL
namespace Go.Proofs.YtcppcfinnbeboaaGreat
open Go.RowKit Go.Shelf

theorem sp_ext {a b : List Sp} (hl : a.length = b.length) (h : ∀ i, i < a.length → fr a i = fr b i ∧ tt a i = tt b i) : a = b := by
  refine List.ext_getElem hl fun i h1 h2 => ?_
  rw [sp_at a i h1, sp_at b i h2, (h i h1).1, (h i h1).2]
def sameC (a b : List Cho) : Bool := decide (a = b)
end Go.Proofs.YtcppcfinnbeboaaGreat
