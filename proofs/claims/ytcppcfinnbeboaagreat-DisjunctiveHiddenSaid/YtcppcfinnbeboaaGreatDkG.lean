
/- Law 47: the reference's Narrow. -/
import Derived.Test.YtcppcfinnbeboaaGreatDkI
import Derived.Test.YtcppcfinnbeboaaGreatDjY
namespace Go.Proofs.YtcppcfinnbeboaaGreat
open Go.RowKit Go.Shelf

def RNarRet (r : Option (List Cho)) (w : World) (e : Ending) (w' : World) : Prop :=
  match r with
  | none => e = .returned (.tuple #[.slice none 0 0, .int .i64 17]) ∧ Below w.heap.size w w'
  | some cs => ∃ v, e = .returned (.tuple #[v, .int .i64 0]) ∧ IsChos w' v cs ∧ Below w.heap.size w w'
def RNarSt (n : Nat) (r : Option (List Cho)) (w : World) (k : Nat) (o : Value) (W : World) : Prop := ∃ cs, Nar n k cs r ∧ IsChos W o cs ∧ Below w.heap.size w W
theorem djNarrow_bad (n : Int) (v : Value) (l : List Cho) (w : World) (hs : IsChos w v l) (hv : netB n l = false) : Calls Tryz.prog 23 #[.int .i64 n, v] w (fun e w' => e = .returned (.tuple #[.slice none 0 0, .int .i64 1]) ∧ Below w.heap.size w w') := by
  have KV := Lib.hid (djValid_c n v l w hs)
  rw [hv] at KV
  clear hs hv
  go_enter Tryz.func23, Tryz.ntmps23
  go_wp2_with fail
  refine KV.out.mono ?_
  rintro e w1 ⟨rfl, hb⟩
  go_wp2_with fail
  go_ret2
  exact ⟨rfl, hb⟩
end Go.Proofs.YtcppcfinnbeboaaGreat
