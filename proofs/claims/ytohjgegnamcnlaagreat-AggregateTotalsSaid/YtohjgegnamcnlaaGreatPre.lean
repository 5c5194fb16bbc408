/- Texts joined: LayA, Base, SortK, RunsS, RunsP, RunsQ, RunsA, RunsB, RunsC, RunsD, OfP, RunsT, RunsE, RunsF, RunsG, RunsH, Ints, RunsW, RunsX, RunsY, RunsZ, Move, RunsM, RunsO, Tail, Grow, Ord, SwA, SwB, Slice, SwC, RunsR, SwL, Awake. -/
import Derived.Shelf.SlSortCmp.WholeK
import Derived.Shelf.SlSortCmp.Whole1
import Derived.Shelf.SlicesQ.IndexFunc
import Derived.Ground.SlsfProg
import Derived.Ground.SlgfProg
import Derived.Test.YtohjgegnamcnlaaGreatProg
import Derived.WalkKit
import Derived.WalkSpells
import Derived.WalkLawsBesides
import Derived.Handy
import Derived.BigQuiet
import Derived.Lib.Hide
import Derived.Maps.AppendAt
import Derived.Deep.AppendLies
import Derived.StillTailTactics
import Derived.Deep.RegionHeld3
import Derived.Shelf.SlSortCmp.NoneTotal
import Derived.StillTail
import Derived.Deep.Quiet

/- Contracts of the shelf laid at this seat's numbers, in plain words (written by the kit's lay-plain.mjs). -/
namespace Go.Proofs.YtohjgegnamcnlaaGreat
open Go.Shelf
def lay_sortEventA_ren : Go.Shelf.Ren := ⟨fun | 6 => 71 | 15 => 102 | 14 => 101 | 28 => 127 | 29 => 128 | 20 => 119 | 21 => 120 | 22 => 121 | 23 => 122 | 24 => 123 | 25 => 124 | 26 => 125 | 27 => 126 | 46 => 151 | 47 => 152 | 48 => 153 | 49 => 154 | 50 => 155 | 57 => 162 | n => n, fun | 22 => 104 | 24 => 106 | 25 => 108 | 3 => 3 | 39 => 138 | 0 => 0 | 53 => 160 | 55 => 83 | 4 => 4 | 46 => 154 | 45 => 153 | 50 => 111 | 5 => 5 | 9 => 9 | 66 => 174 | 70 => 178 | 76 => 184 | 77 => 37 | n => n, fun | n => n⟩
theorem lay_sortEventA : Go.Proofs.SlLaysF0.n6 Tryz.prog lay_sortEventA_ren := {
  mixed := by kernel_rfl
  f6 := ⟨Tryz.f71.name, by decide, Tryz.func71.trans (congrArg some (by kernel_rfl))⟩
  f14 := ⟨Tryz.f101.name, by decide, Tryz.func101.trans (congrArg some (by kernel_rfl))⟩
  f15 := Tryz.func102.trans (congrArg some (by kernel_rfl))
  f20 := ⟨Tryz.f119.name, by decide, Tryz.func119.trans (congrArg some (by kernel_rfl))⟩
  f21 := ⟨Tryz.f120.name, by decide, Tryz.func120.trans (congrArg some (by kernel_rfl))⟩
  f22 := ⟨Tryz.f121.name, by decide, Tryz.func121.trans (congrArg some (by kernel_rfl))⟩
  f23 := ⟨Tryz.f122.name, by decide, Tryz.func122.trans (congrArg some (by kernel_rfl))⟩
  f24 := ⟨Tryz.f123.name, by decide, Tryz.func123.trans (congrArg some (by kernel_rfl))⟩
  f25 := ⟨Tryz.f124.name, by decide, Tryz.func124.trans (congrArg some (by kernel_rfl))⟩
  f26 := ⟨Tryz.f125.name, by decide, Tryz.func125.trans (congrArg some (by kernel_rfl))⟩
  f27 := ⟨Tryz.f126.name, by decide, Tryz.func126.trans (congrArg some (by kernel_rfl))⟩
  f28 := Tryz.func127.trans (congrArg some (by kernel_rfl))
  f29 := Tryz.func128.trans (congrArg some (by kernel_rfl))
  f46 := ⟨Tryz.f151.name, by decide, Tryz.func151.trans (congrArg some (by kernel_rfl))⟩
  f47 := Tryz.func152.trans (congrArg some (by kernel_rfl))
  f48 := Tryz.func153.trans (congrArg some (by kernel_rfl))
  f49 := ⟨Tryz.f154.name, by decide, Tryz.func154.trans (congrArg some (by kernel_rfl))⟩
  f50 := ⟨Tryz.f155.name, by decide, Tryz.func155.trans (congrArg some (by kernel_rfl))⟩
  f57 := ⟨Tryz.f162.name, by decide, Tryz.func162.trans (congrArg some (by kernel_rfl))⟩
  t0 := Tryz.underlying0
  a0 := Tryz.isAgg0
  z0 := Tryz.sizeOf0
  v0 := Tryz.zeroValue0
  t3 := Tryz.underlying3
  a3 := Tryz.isAgg3
  z3 := Tryz.sizeOf3
  v3 := Tryz.zeroValue3
  t4 := Tryz.underlying4
  a4 := Tryz.isAgg4
  z4 := Tryz.sizeOf4
  v4 := Tryz.zeroValue4
  t5 := Tryz.underlying5
  a5 := Tryz.isAgg5
  z5 := Tryz.sizeOf5
  v5 := Tryz.zeroValue5
  t9 := Tryz.underlying9
  a9 := Tryz.isAgg9
  z9 := Tryz.sizeOf9
  v9 := Tryz.zeroValue9
  t22 := Tryz.underlying104
  a22 := Tryz.isAgg104
  z22 := Tryz.sizeOf104
  v22 := Tryz.zeroValue104
  t25 := Tryz.underlying108
  a25 := Tryz.isAgg108
  z25 := Tryz.sizeOf108
  v25 := Tryz.zeroValue108
  t39 := Tryz.underlying138
  a39 := Tryz.isAgg138
  z39 := Tryz.sizeOf138
  v39 := Tryz.zeroValue138
  t45 := Tryz.underlying153
  a45 := Tryz.isAgg153
  z45 := Tryz.sizeOf153
  v45 := Tryz.zeroValue153
  t46 := Tryz.underlying154
  a46 := Tryz.isAgg154
  z46 := Tryz.sizeOf154
  v46 := Tryz.zeroValue154
  t50 := Tryz.underlying111
  a50 := Tryz.isAgg111
  z50 := Tryz.sizeOf111
  v50 := Tryz.zeroValue111
  t53 := Tryz.underlying160
  a53 := Tryz.isAgg160
  z53 := Tryz.sizeOf160
  v53 := Tryz.zeroValue160
  t55 := Tryz.underlying83
  a55 := Tryz.isAgg83
  z55 := Tryz.sizeOf83
  v55 := Tryz.zeroValue83
  t66 := Tryz.underlying174
  a66 := Tryz.isAgg174
  z66 := Tryz.sizeOf174
  v66 := Tryz.zeroValue174
  t70 := Tryz.underlying178
  a70 := Tryz.isAgg178
  z70 := Tryz.sizeOf178
  v70 := Tryz.zeroValue178
  t76 := Tryz.underlying184
  a76 := Tryz.isAgg184
  z76 := Tryz.sizeOf184
  v76 := Tryz.zeroValue184
  t77 := Tryz.underlying37
  a77 := Tryz.isAgg37
  z77 := Tryz.sizeOf37
  v77 := Tryz.zeroValue37 }
def lay_sortFact_ren : Go.Shelf.Ren := ⟨fun | 6 => 75 | 15 => 102 | 14 => 104 | 28 => 127 | 29 => 128 | 20 => 130 | 21 => 131 | 22 => 132 | 23 => 133 | 24 => 134 | 25 => 135 | 26 => 136 | 27 => 137 | 46 => 156 | 47 => 152 | 48 => 153 | 49 => 157 | 50 => 158 | 57 => 163 | n => n, fun | 22 => 22 | 24 => 49 | 25 => 118 | 3 => 3 | 39 => 138 | 0 => 0 | 53 => 160 | 55 => 83 | 4 => 4 | 46 => 154 | 45 => 153 | 50 => 111 | 5 => 5 | 9 => 9 | 66 => 174 | 70 => 178 | 76 => 184 | 77 => 37 | n => n, fun | n => n⟩
theorem lay_sortFact : Go.Proofs.SlLaysF0.n6 Tryz.prog lay_sortFact_ren := {
  mixed := by kernel_rfl
  f6 := ⟨Tryz.f75.name, by decide, Tryz.func75.trans (congrArg some (by kernel_rfl))⟩
  f14 := ⟨Tryz.f104.name, by decide, Tryz.func104.trans (congrArg some (by kernel_rfl))⟩
  f15 := Tryz.func102.trans (congrArg some (by kernel_rfl))
  f20 := ⟨Tryz.f130.name, by decide, Tryz.func130.trans (congrArg some (by kernel_rfl))⟩
  f21 := ⟨Tryz.f131.name, by decide, Tryz.func131.trans (congrArg some (by kernel_rfl))⟩
  f22 := ⟨Tryz.f132.name, by decide, Tryz.func132.trans (congrArg some (by kernel_rfl))⟩
  f23 := ⟨Tryz.f133.name, by decide, Tryz.func133.trans (congrArg some (by kernel_rfl))⟩
  f24 := ⟨Tryz.f134.name, by decide, Tryz.func134.trans (congrArg some (by kernel_rfl))⟩
  f25 := ⟨Tryz.f135.name, by decide, Tryz.func135.trans (congrArg some (by kernel_rfl))⟩
  f26 := ⟨Tryz.f136.name, by decide, Tryz.func136.trans (congrArg some (by kernel_rfl))⟩
  f27 := ⟨Tryz.f137.name, by decide, Tryz.func137.trans (congrArg some (by kernel_rfl))⟩
  f28 := Tryz.func127.trans (congrArg some (by kernel_rfl))
  f29 := Tryz.func128.trans (congrArg some (by kernel_rfl))
  f46 := ⟨Tryz.f156.name, by decide, Tryz.func156.trans (congrArg some (by kernel_rfl))⟩
  f47 := Tryz.func152.trans (congrArg some (by kernel_rfl))
  f48 := Tryz.func153.trans (congrArg some (by kernel_rfl))
  f49 := ⟨Tryz.f157.name, by decide, Tryz.func157.trans (congrArg some (by kernel_rfl))⟩
  f50 := ⟨Tryz.f158.name, by decide, Tryz.func158.trans (congrArg some (by kernel_rfl))⟩
  f57 := ⟨Tryz.f163.name, by decide, Tryz.func163.trans (congrArg some (by kernel_rfl))⟩
  t0 := Tryz.underlying0
  a0 := Tryz.isAgg0
  z0 := Tryz.sizeOf0
  v0 := Tryz.zeroValue0
  t3 := Tryz.underlying3
  a3 := Tryz.isAgg3
  z3 := Tryz.sizeOf3
  v3 := Tryz.zeroValue3
  t4 := Tryz.underlying4
  a4 := Tryz.isAgg4
  z4 := Tryz.sizeOf4
  v4 := Tryz.zeroValue4
  t5 := Tryz.underlying5
  a5 := Tryz.isAgg5
  z5 := Tryz.sizeOf5
  v5 := Tryz.zeroValue5
  t9 := Tryz.underlying9
  a9 := Tryz.isAgg9
  z9 := Tryz.sizeOf9
  v9 := Tryz.zeroValue9
  t22 := Tryz.underlying22
  a22 := Tryz.isAgg22
  z22 := Tryz.sizeOf22
  v22 := Tryz.zeroValue22
  t25 := Tryz.underlying118
  a25 := Tryz.isAgg118
  z25 := Tryz.sizeOf118
  v25 := Tryz.zeroValue118
  t39 := Tryz.underlying138
  a39 := Tryz.isAgg138
  z39 := Tryz.sizeOf138
  v39 := Tryz.zeroValue138
  t45 := Tryz.underlying153
  a45 := Tryz.isAgg153
  z45 := Tryz.sizeOf153
  v45 := Tryz.zeroValue153
  t46 := Tryz.underlying154
  a46 := Tryz.isAgg154
  z46 := Tryz.sizeOf154
  v46 := Tryz.zeroValue154
  t50 := Tryz.underlying111
  a50 := Tryz.isAgg111
  z50 := Tryz.sizeOf111
  v50 := Tryz.zeroValue111
  t53 := Tryz.underlying160
  a53 := Tryz.isAgg160
  z53 := Tryz.sizeOf160
  v53 := Tryz.zeroValue160
  t55 := Tryz.underlying83
  a55 := Tryz.isAgg83
  z55 := Tryz.sizeOf83
  v55 := Tryz.zeroValue83
  t66 := Tryz.underlying174
  a66 := Tryz.isAgg174
  z66 := Tryz.sizeOf174
  v66 := Tryz.zeroValue174
  t70 := Tryz.underlying178
  a70 := Tryz.isAgg178
  z70 := Tryz.sizeOf178
  v70 := Tryz.zeroValue178
  t76 := Tryz.underlying184
  a76 := Tryz.isAgg184
  z76 := Tryz.sizeOf184
  v76 := Tryz.zeroValue184
  t77 := Tryz.underlying37
  a77 := Tryz.isAgg37
  z77 := Tryz.sizeOf37
  v77 := Tryz.zeroValue37 }
def lay_sortSpan_ren : Go.Shelf.Ren := ⟨fun | 6 => 90 | 15 => 102 | 14 => 109 | 28 => 127 | 29 => 128 | 20 => 138 | 21 => 139 | 22 => 140 | 23 => 141 | 24 => 142 | 25 => 143 | 26 => 144 | 27 => 145 | 46 => 159 | 47 => 152 | 48 => 153 | 49 => 160 | 50 => 161 | 57 => 164 | n => n, fun | 22 => 44 | 24 => 34 | 25 => 130 | 3 => 3 | 39 => 138 | 0 => 0 | 53 => 160 | 55 => 83 | 4 => 4 | 46 => 154 | 45 => 153 | 50 => 111 | 5 => 5 | 9 => 9 | 66 => 174 | 70 => 178 | 76 => 184 | 77 => 37 | n => n, fun | n => n⟩
theorem lay_sortSpan : Go.Proofs.SlLaysF0.n6 Tryz.prog lay_sortSpan_ren := {
  mixed := by kernel_rfl
  f6 := ⟨Tryz.f90.name, by decide, Tryz.func90.trans (congrArg some (by kernel_rfl))⟩
  f14 := ⟨Tryz.f109.name, by decide, Tryz.func109.trans (congrArg some (by kernel_rfl))⟩
  f15 := Tryz.func102.trans (congrArg some (by kernel_rfl))
  f20 := ⟨Tryz.f138.name, by decide, Tryz.func138.trans (congrArg some (by kernel_rfl))⟩
  f21 := ⟨Tryz.f139.name, by decide, Tryz.func139.trans (congrArg some (by kernel_rfl))⟩
  f22 := ⟨Tryz.f140.name, by decide, Tryz.func140.trans (congrArg some (by kernel_rfl))⟩
  f23 := ⟨Tryz.f141.name, by decide, Tryz.func141.trans (congrArg some (by kernel_rfl))⟩
  f24 := ⟨Tryz.f142.name, by decide, Tryz.func142.trans (congrArg some (by kernel_rfl))⟩
  f25 := ⟨Tryz.f143.name, by decide, Tryz.func143.trans (congrArg some (by kernel_rfl))⟩
  f26 := ⟨Tryz.f144.name, by decide, Tryz.func144.trans (congrArg some (by kernel_rfl))⟩
  f27 := ⟨Tryz.f145.name, by decide, Tryz.func145.trans (congrArg some (by kernel_rfl))⟩
  f28 := Tryz.func127.trans (congrArg some (by kernel_rfl))
  f29 := Tryz.func128.trans (congrArg some (by kernel_rfl))
  f46 := ⟨Tryz.f159.name, by decide, Tryz.func159.trans (congrArg some (by kernel_rfl))⟩
  f47 := Tryz.func152.trans (congrArg some (by kernel_rfl))
  f48 := Tryz.func153.trans (congrArg some (by kernel_rfl))
  f49 := ⟨Tryz.f160.name, by decide, Tryz.func160.trans (congrArg some (by kernel_rfl))⟩
  f50 := ⟨Tryz.f161.name, by decide, Tryz.func161.trans (congrArg some (by kernel_rfl))⟩
  f57 := ⟨Tryz.f164.name, by decide, Tryz.func164.trans (congrArg some (by kernel_rfl))⟩
  t0 := Tryz.underlying0
  a0 := Tryz.isAgg0
  z0 := Tryz.sizeOf0
  v0 := Tryz.zeroValue0
  t3 := Tryz.underlying3
  a3 := Tryz.isAgg3
  z3 := Tryz.sizeOf3
  v3 := Tryz.zeroValue3
  t4 := Tryz.underlying4
  a4 := Tryz.isAgg4
  z4 := Tryz.sizeOf4
  v4 := Tryz.zeroValue4
  t5 := Tryz.underlying5
  a5 := Tryz.isAgg5
  z5 := Tryz.sizeOf5
  v5 := Tryz.zeroValue5
  t9 := Tryz.underlying9
  a9 := Tryz.isAgg9
  z9 := Tryz.sizeOf9
  v9 := Tryz.zeroValue9
  t22 := Tryz.underlying44
  a22 := Tryz.isAgg44
  z22 := Tryz.sizeOf44
  v22 := Tryz.zeroValue44
  t25 := Tryz.underlying130
  a25 := Tryz.isAgg130
  z25 := Tryz.sizeOf130
  v25 := Tryz.zeroValue130
  t39 := Tryz.underlying138
  a39 := Tryz.isAgg138
  z39 := Tryz.sizeOf138
  v39 := Tryz.zeroValue138
  t45 := Tryz.underlying153
  a45 := Tryz.isAgg153
  z45 := Tryz.sizeOf153
  v45 := Tryz.zeroValue153
  t46 := Tryz.underlying154
  a46 := Tryz.isAgg154
  z46 := Tryz.sizeOf154
  v46 := Tryz.zeroValue154
  t50 := Tryz.underlying111
  a50 := Tryz.isAgg111
  z50 := Tryz.sizeOf111
  v50 := Tryz.zeroValue111
  t53 := Tryz.underlying160
  a53 := Tryz.isAgg160
  z53 := Tryz.sizeOf160
  v53 := Tryz.zeroValue160
  t55 := Tryz.underlying83
  a55 := Tryz.isAgg83
  z55 := Tryz.sizeOf83
  v55 := Tryz.zeroValue83
  t66 := Tryz.underlying174
  a66 := Tryz.isAgg174
  z66 := Tryz.sizeOf174
  v66 := Tryz.zeroValue174
  t70 := Tryz.underlying178
  a70 := Tryz.isAgg178
  z70 := Tryz.sizeOf178
  v70 := Tryz.zeroValue178
  t76 := Tryz.underlying184
  a76 := Tryz.isAgg184
  z76 := Tryz.sizeOf184
  v76 := Tryz.zeroValue184
  t77 := Tryz.underlying37
  a77 := Tryz.isAgg37
  z77 := Tryz.sizeOf37
  v77 := Tryz.zeroValue37 }
def lay_containsSpan_ren : Go.Shelf.Ren := ⟨fun | 8 => 86 | 6 => 107 | n => n, fun | 22 => 44 | 23 => 34 | 25 => 82 | 4 => 4 | 3 => 3 | 0 => 0 | n => n, fun | n => n⟩
theorem lay_containsSpan : Go.Proofs.SlLaysH0.n8 Tryz.prog lay_containsSpan_ren := {
  mixed := by kernel_rfl
  f6 := ⟨Tryz.f107.name, by decide, Tryz.func107.trans (congrArg some (by kernel_rfl))⟩
  f8 := ⟨Tryz.f86.name, by decide, Tryz.func86.trans (congrArg some (by kernel_rfl))⟩
  t0 := Tryz.underlying0
  a0 := Tryz.isAgg0
  z0 := Tryz.sizeOf0
  v0 := Tryz.zeroValue0
  t3 := Tryz.underlying3
  a3 := Tryz.isAgg3
  z3 := Tryz.sizeOf3
  v3 := Tryz.zeroValue3
  t4 := Tryz.underlying4
  a4 := Tryz.isAgg4
  z4 := Tryz.sizeOf4
  v4 := Tryz.zeroValue4
  t22 := Tryz.underlying44
  a22 := Tryz.isAgg44
  z22 := Tryz.sizeOf44
  v22 := Tryz.zeroValue44
  t25 := Tryz.underlying82
  a25 := Tryz.isAgg82
  z25 := Tryz.sizeOf82
  v25 := Tryz.zeroValue82 }
def lay_indexSpan_ren : Go.Shelf.Ren := ⟨fun | 6 => 107 | n => n, fun | 22 => 44 | 23 => 34 | 25 => 82 | 3 => 3 | 0 => 0 | 4 => 4 | n => n, fun | n => n⟩
theorem lay_indexSpan : Go.Proofs.SlLaysH0.n6 Tryz.prog lay_indexSpan_ren := {
  mixed := by kernel_rfl
  f6 := ⟨Tryz.f107.name, by decide, Tryz.func107.trans (congrArg some (by kernel_rfl))⟩
  t0 := Tryz.underlying0
  a0 := Tryz.isAgg0
  z0 := Tryz.sizeOf0
  v0 := Tryz.zeroValue0
  t3 := Tryz.underlying3
  a3 := Tryz.isAgg3
  z3 := Tryz.sizeOf3
  v3 := Tryz.zeroValue3
  t4 := Tryz.underlying4
  a4 := Tryz.isAgg4
  z4 := Tryz.sizeOf4
  v4 := Tryz.zeroValue4
  t22 := Tryz.underlying44
  a22 := Tryz.isAgg44
  z22 := Tryz.sizeOf44
  v22 := Tryz.zeroValue44
  t25 := Tryz.underlying82
  a25 := Tryz.isAgg82
  z25 := Tryz.sizeOf82
  v25 := Tryz.zeroValue82 }
end Go.Proofs.YtohjgegnamcnlaaGreat

/- Small words for the walks of this seat: a region that draws its order and whose calls only make memory; slices of records that read as lists. No program in sight. -/
namespace Go.Proofs.YtohjgegnamcnlaaGreat
open Go.RowKit

/-! ### a region that draws its order, its calls making memory only -/
def BW (w : World) := {w' : World // Below w.heap.size w w'}
instance bwNonempty (w : World) : Nonempty (BW w) := ⟨⟨w, Below.refl _ _⟩⟩
theorem wp_region_below {P : Program} {id : Nat} {Q : Exit → Act → World → Prop} {a : Act} {w : World} {l : List Oper} (hm : P.follows .mixedOrders = true) (hB : Region.lexB .any l.toArray = true)
    (h : wpQuiet P l.toArray (fun w' => ∃ x : BW w, w' = x.1) (fun a' => ∀ w', (∃ x : BW w, w' = x.1) → Q .normal a' w') l a) : (Code.region id l.toArray true).wp P Q a w :=
  wp_region_quiet (C := fun w' => ∃ x : BW w, w' = x.1) hm hB ⟨⟨{ w with drawn := w.drawn + 1 }, (Below.refl _ _).drew⟩, rfl⟩ (by simpa using h)
theorem calls_bw {P : Program} {f : FuncId} {args : Array Value} {w : World} {v : Value} (x : BW w)
    (h : Calls P f args x.1 fun e w' => e = .returned v ∧ Below x.1.heap.size x.1 w') : Calls P f args x.1 fun e w'' => e = .returned v ∧ ∃ y : BW w, w'' = y.1 :=
  h.mono fun _ _ ⟨he, hb⟩ => ⟨he, ⟨⟨_, x.2.trans (hb.mono x.2.size)⟩, rfl⟩⟩
theorem bw_cell {w : World} (x : BW w) {p : Addr} {v : Value} (h : w.cell? p = some v) (hp : p.block < w.heap.size) : x.1.cell? p = some v := (x.2.cell hp).trans h

theorem ret_int {k : IntKind} {a b : Int} (h : a = b) : Ending.returned (.int k a) = .returned (.int k b) := by rw [h]
theorem ret_bool {a b : Bool} (h : a = b) : Ending.returned (.bool a) = .returned (.bool b) := by rw [h]

/-- What a call that only makes memory hands back: one plain value. -/
def Ret (w : World) (v : Value) (e : Ending) (w' : World) : Prop := e = .returned v ∧ Below w.heap.size w w'

/-! ### a call through a function value that lies in a slot -/
theorem wpList_call_fn {P : Program} {ops : Array Oper} {rest : List Oper} {a : Act} {w : World} {Q : Exit → Act → World → Prop} {dst : Option Tmp} {ty : TypeId} {pos : String} {after : Array Edge} {xs : Array Operand} {ats : Array TypeId}
    {vs : Array Value} {v : Value} {S : World → Prop} (t : Tmp) (f : FuncId) (hv : a.eval (.tmp t) = .func (.func f) #[] #[]) (hx : xs.toList.map a.eval = vs.toList)
    (hent : ∀ (args : Array Value) (w : World), Sem.run P (callFunc f args) w = .ok (.enter f args) w) (hc : Calls P f vs w fun e w' => e = .returned v ∧ S w')
    (hk : ∀ w', S w' → wpList P ops Q rest (a.put dst v) w') :
    wpList P ops Q ({ dst := dst, op := .call { callee := .value (.tmp t), args := xs, argTypes := ats }, type := ty, pos := pos, after := after, guard := none } :: rest) a w := by
  refine wpList_plain rfl fun K hK => ?_
  unfold Oper.wp
  have he : execOp a.eval { dst := dst, op := .call { callee := .value (.tmp t), args := xs, argTypes := ats }, type := ty, pos := pos, after := after, guard := none } = callFunc f (#[] ++ xs.map a.eval ++ #[]) := by
    simp only [execOp, resolve, hv]
    rfl
  have hx' : xs.map a.eval = vs := by rw [← Array.toList_inj, Array.toList_map, hx]
  rw [he, hent, hx']
  simp only [Array.empty_append, Array.append_empty]
  rw [Oper.upon_enter]
  refine hc.mono ?_
  rintro e w' ⟨rfl, hS⟩
  exact hK _ _ (hk w' hS)

/-- The same, guarded or not, of a closure: what it captured stands behind the arguments. -/
theorem wpList_call_cl {P : Program} {ops : Array Oper} {rest : List Oper} {a : Act} {w : World} {Q : Exit → Act → World → Prop} {dst : Option Tmp} {ty : TypeId} {pos : String} {after : Array Edge} {xs : Array Operand} {ats : Array TypeId} {gd : Option (Nat × Bool)}
    {vs cap : Array Value} {v : Value} {S : World → Prop} (t : Tmp) (f : FuncId) (hv : a.eval (.tmp t) = .func (.func f) #[] cap) (hx : xs.toList.map a.eval ++ cap.toList = vs.toList)
    (hw : Region.wanted { dst := dst, op := .call { callee := .value (.tmp t), args := xs, argTypes := ats }, type := ty, pos := pos, after := after, guard := gd } (yielded ops a.tmps) = true)
    (hent : ∀ (args : Array Value) (w : World), Sem.run P (callFunc f args) w = .ok (.enter f args) w) (hc : Calls P f vs w fun e w' => e = .returned v ∧ S w')
    (hk : ∀ w', S w' → wpList P ops Q rest (a.put dst v) w') :
    wpList P ops Q ({ dst := dst, op := .call { callee := .value (.tmp t), args := xs, argTypes := ats }, type := ty, pos := pos, after := after, guard := gd } :: rest) a w := by
  refine wpList_step fun K hK => ?_
  rw [if_pos hw]
  unfold Oper.wp
  have he : execOp a.eval { dst := dst, op := .call { callee := .value (.tmp t), args := xs, argTypes := ats }, type := ty, pos := pos, after := after, guard := gd } = callFunc f (#[] ++ xs.map a.eval ++ cap) := by
    simp only [execOp, resolve, hv]
    rfl
  have hx' : xs.map a.eval ++ cap = vs := by rw [← Array.toList_inj, Array.toList_append, Array.toList_map, hx]
  rw [he, hent, Array.empty_append, hx', Oper.upon_enter]
  refine hc.mono ?_
  rintro e w' ⟨rfl, hS⟩
  exact hK _ _ (hk w' hS)

/-! ### slices of records -/
def RowsIn (w : World) (v : Value) (n k : Nat) (f : Nat → Nat → Value) : Prop :=
  ∃ A c, v = .slice A n c ∧ n ≤ c ∧ c ≤ 9223372036854775807 ∧
    (0 < n → ∃ b off, A = some ⟨b, off, none⟩ ∧ b < w.heap.size ∧ ∀ i j, i < n → j < k → w.cell? ⟨b, off + i * k + j, none⟩ = some (f i j))
section
variable {w w' : World} {v : Value} {n k c b off : Nat} {A : Option Addr} {f : Nat → Nat → Value}
theorem RowsIn.below (h : RowsIn w v n k f) (hb : Below w.heap.size w w') : RowsIn w' v n k f := by
  obtain ⟨A, c, rfl, h1, h2, h3⟩ := h
  refine ⟨A, c, rfl, h1, h2, fun hn => ?_⟩
  obtain ⟨b, off, rfl, h4, h5⟩ := h3 hn
  exact ⟨b, off, rfl, Nat.lt_of_lt_of_le h4 hb.size, fun i j hi hj => (hb.cell (p := ⟨b, off + i * k + j, none⟩) h4).trans (h5 i j hi hj)⟩
theorem RowsIn.addr (h : RowsIn w (.slice A n c) n k f) (hn : 0 < n) : ∃ b off, A = some ⟨b, off, none⟩ ∧ b < w.heap.size := by
  obtain ⟨A', c', he, _, _, h3⟩ := h
  injection he with e1 e2 e3
  obtain ⟨b, off, hA, hb, _⟩ := h3 hn
  exact ⟨b, off, e1.trans hA, hb⟩
theorem RowsIn.cells (h : RowsIn w (.slice (some ⟨b, off, none⟩) n c) n k f) (i j : Nat) (hi : i < n) (hj : j < k) : w.cell? ⟨b, off + i * k + j, none⟩ = some (f i j) := by
  obtain ⟨A', c', he, _, _, h3⟩ := h
  injection he with e1 e2 e3
  obtain ⟨b', off', hA, hb, h5⟩ := h3 (by omega)
  rw [← e1] at hA
  injection hA with hA
  injection hA with hA1 hA2
  rw [hA1, hA2]
  exact h5 i j hi hj
theorem RowsIn.form (h : RowsIn w v n k f) : ∃ A c, v = .slice A n c ∧ n ≤ c ∧ c ≤ 9223372036854775807 := by
  obtain ⟨A, c, h0, h1, h2, _⟩ := h
  exact ⟨A, c, h0, h1, h2⟩
theorem RowsIn.congr {g : Nat → Nat → Value} (h : RowsIn w v n k f) (hg : ∀ i j, i < n → j < k → f i j = g i j) : RowsIn w v n k g := by
  obtain ⟨A, c, h0, h1, h2, h3⟩ := h
  refine ⟨A, c, h0, h1, h2, fun hn => ?_⟩
  obtain ⟨b, off, hA, hb, h5⟩ := h3 hn
  exact ⟨b, off, hA, hb, fun i j hi hj => (h5 i j hi hj).trans (by rw [hg i j hi hj])⟩
theorem RowsIn.nil : RowsIn w (.slice none 0 0) 0 k f := ⟨none, 0, rfl, Nat.le_refl _, by omega, fun h => absurd h (by omega)⟩
end

/-! ### lists of spans -/
abbrev Sp := Int × Int
def fr (l : List Sp) (i : Nat) : Int := (l.getD i (0, 0)).1
def tt (l : List Sp) (i : Nat) : Int := (l.getD i (0, 0)).2
def spanCell (l : List Sp) (i j : Nat) : Value := .int .i64 (if j = 0 then fr l i else tt l i)
def IsSpans (w : World) (v : Value) (l : List Sp) : Prop := RowsIn w v l.length 2 (spanCell l)
section
variable {w w' : World} {v : Value} {n c b off : Nat} {A : Option Addr} {l : List Sp}
theorem IsSpans.below (h : IsSpans w v l) (hb : Below w.heap.size w w') : IsSpans w' v l := RowsIn.below h hb
theorem IsSpans.alloc (h : IsSpans w v l) (o : Obj) : IsSpans (w.alloc o) v l := h.below ((Below.refl _ _).alloc (Nat.le_refl _) o)
theorem IsSpans.bw (h : IsSpans w v l) (x : BW w) : IsSpans x.1 v l := RowsIn.below h x.2
theorem IsSpans.form (h : IsSpans w v l) : ∃ A c, v = .slice A l.length c ∧ l.length ≤ c ∧ c ≤ 9223372036854775807 := RowsIn.form h
theorem IsSpans.addr (h : IsSpans w (.slice A l.length c) l) (hn : 0 < l.length) : ∃ b off, A = some ⟨b, off, none⟩ ∧ b < w.heap.size := RowsIn.addr h hn
theorem IsSpans.c0 (h : IsSpans w (.slice (some ⟨b, off, none⟩) l.length c) l) (i : Nat) (hi : i < l.length) : w.cell? ⟨b, off + i * 2, none⟩ = some (.int .i64 (fr l i)) := RowsIn.cells h i 0 hi (by omega)
theorem IsSpans.c1 (h : IsSpans w (.slice (some ⟨b, off, none⟩) l.length c) l) (i : Nat) (hi : i < l.length) : w.cell? ⟨b, off + i * 2 + 1, none⟩ = some (.int .i64 (tt l i)) := RowsIn.cells h i 1 hi (by omega)
theorem IsSpans.nil : IsSpans w (.slice none 0 0) [] := RowsIn.nil
end

/-- A list and an error number. -/
def RetLE (w : World) (r : List Sp × Int) (e : Ending) (w' : World) : Prop := ∃ v, e = .returned (.tuple #[v, .int .i64 r.2]) ∧ IsSpans w' v r.1 ∧ Below w.heap.size w w'
/-- A list. -/
def RetL (w : World) (r : List Sp) (e : Ending) (w' : World) : Prop := ∃ v, e = .returned v ∧ IsSpans w' v r ∧ Below w.heap.size w w'

/-! ### a list that the call itself makes -/
def flat (l : List Sp) : List Value := l.flatMap fun s => [.int .i64 s.1, .int .i64 s.2]
theorem flat_length (l : List Sp) : (flat l).length = l.length * 2 := by
  unfold flat
  induction l with
  | nil => rfl
  | cons s l ih => simp only [List.flatMap_cons, List.length_append, ih, List.length_cons, List.length_nil]; omega
theorem flat_snoc (l : List Sp) (s : Sp) : flat (l ++ [s]) = flat l ++ [.int .i64 s.1, .int .i64 s.2] := by simp [flat]
theorem flat_get (l : List Sp) : ∀ i j, i < l.length → j < 2 → (flat l)[i * 2 + j]? = some (spanCell l i j) := by
  induction l with
  | nil => intro i j hi; simp at hi
  | cons s l ih =>
    intro i j hi hj
    have e : flat (s :: l) = .int .i64 s.1 :: .int .i64 s.2 :: flat l := by simp [flat]
    rw [e]
    cases i with
    | zero =>
      rcases (by omega : j = 0 ∨ j = 1) with rfl | rfl <;> simp [spanCell, fr, tt]
    | succ i =>
      have := ih i j (by simpa using hi) hj
      rw [show (i + 1) * 2 + j = (i * 2 + j) + 1 + 1 from by omega]
      simp only [List.getElem?_cons_succ]
      rw [this]
      simp [spanCell, fr, tt]
theorem spans_of_own {w : World} {base : Nat} {e : TypeId} {v : Value} {l : List Sp} (h : w.ownsRow base e 2 v l.length (flat l)) : IsSpans w v l := by
  rcases h.2 with ⟨rfl, h0⟩ | ⟨g, cap, cur, rfl, hg, hh, h1, h2, h3, h4⟩
  · have : l = [] := List.eq_nil_of_length_eq_zero h0
    subst this
    exact IsSpans.nil
  · refine ⟨_, _, rfl, h1, by unfold maxLen at h2; exact h2, fun hn => ⟨g, 0, rfl, ?_, fun i j hi hj => ?_⟩⟩
    · rcases Nat.lt_or_ge g w.heap.size with hlt | hge
      · exact hlt
      · rw [Array.getElem?_eq_none hge] at hh; cases hh
    · have hc := h.cellAt (i * 2 + j) (by omega)
      rw [flat_get l i j hi hj] at hc
      simpa [Nat.add_assoc] using hc
theorem own_nil (w : World) (base : Nat) (e : TypeId) (size : Nat) : w.ownsRow base e size (.slice none 0 0) 0 [] := ⟨by simp, .inl ⟨rfl, rfl⟩⟩
/-- An own list stands while the world below some point, its own block there, stands. -/
theorem own_below {w w' : World} {base size n B : Nat} {e : TypeId} {v : Value} {xs : List Value} (h : w.ownsRow base e size v n xs) (hb : Below B w w') (hB : w.heap.size ≤ B) : w'.ownsRow base e size v n xs := by
  obtain ⟨h1, h2⟩ := h
  refine ⟨h1, h2.imp id ?_⟩
  rintro ⟨g, cap, cur, hv, hg, hh, r⟩
  refine ⟨g, cap, cur, hv, hg, ?_, r⟩
  rw [hb.block g ?_]
  · exact hh
  · rcases Nat.lt_or_ge g w.heap.size with hlt | hge
    · omega
    · rw [Array.getElem?_eq_none hge] at hh; cases hh
theorem append_span {P : Program} {tS tE : TypeId} (hS : P.underlying tS = some (.slice tE)) (hE : (P.info? tE).map (fun i => (i.zero, i.size, i.bytes)) = some (some (.agg #[.int .i64 0, .int .i64 0]), 2, 16))
    {ops : Array Oper} {rest : List Oper} {o : Oper} {a : Act} {Q : Exit → Act → World → Prop} (hgd : o.guard = none) (s x : Operand)
    (ho : o.op = .call { callee := .builtin .append, args := #[s, x], argTypes := #[tS, tS] })
    {w : World} (base : Nat) (v : Value) (l : List Sp) (p q : Int) (hs : a.eval s = v) (hown : w.ownsRow base tE 2 v l.length (flat l))
    (hx : a.eval x = .slice (some ⟨w.heap.size, 0, none⟩) 1 1) (hlen : l.length < 1000000000) (hbase : base ≤ w.heap.size)
    (h : ∀ v' w', w'.ownsRow base tE 2 v' (l ++ [(p, q)]).length (flat (l ++ [(p, q)])) → Below base w w' → wpList P ops Q rest (a.put o.dst v') w') :
    wpList P ops Q (o :: rest) a (w.alloc (.cells #[.int .i64 p, .int .i64 q] tE)) := by
  obtain ⟨i, hi, hz, hsz, hby⟩ := info_parts hE
  refine wpList_append_own_at (w.alloc (.cells #[.int .i64 p, .int .i64 q] tE)) hgd s x tS ho base tE i _ 2 16 hS hi hz hsz hby rfl (by omega) v l.length (flat l) hs (hown.alloc _) ⟨w.heap.size, 0, none⟩ 1 1
    [.int .i64 p, .int .i64 q] hx rfl ?_ (by simp [Value.oneCell']) (by unfold maxLen; omega) (by omega) (by simp; omega) ?_
  · intro j u hu
    rcases j with _ | _ | j <;> simp at hu
    · subst hu; simp [Addr.add]
    · subst hu; simp [Addr.add]
  · intro v' w' hown' hg _ _
    refine h v' w' ?_ ?_
    · rw [flat_snoc]; simpa using hown'
    · refine ((Below.refl base w).alloc hbase _).grown hg (by simp; omega) ?_
      intro k hk
      exact (hown.lt k hk).1
end Go.Proofs.YtohjgegnamcnlaaGreat

/- slices.SortFunc over a slice of the call's own, elements of k cells: between 'ownsRow' and the sort's own words. No program in sight. -/
namespace Go.Proofs.YtohjgegnamcnlaaGreat
open Go.RowKit Go.Sort

theorem flatMap_len {α : Type} {enc : α → List Value} {k : Nat} (hk : ∀ x, (enc x).length = k) (l : List α) : (l.flatMap enc).length = l.length * k := by
  induction l with
  | nil => simp
  | cons x l ih => rw [List.flatMap_cons, List.length_append, ih, hk, List.length_cons, Nat.add_mul]; omega
theorem flatMap_get {α : Type} {enc : α → List Value} {k : Nat} (hk : ∀ x, (enc x).length = k) (l : List α) : ∀ i j, (hi : i < l.length) → j < k → (l.flatMap enc)[i * k + j]? = (enc l[i])[j]? := by
  induction l with
  | nil => intro i j hi; simp at hi
  | cons x l ih =>
    intro i j hi hj
    rw [List.flatMap_cons]
    cases i with
    | zero => rw [Nat.zero_mul, Nat.zero_add, List.getElem?_append_left (by rw [hk]; exact hj)]; rfl
    | succ i =>
      rw [List.getElem?_append_right (by rw [hk, Nat.add_mul]; omega), hk, show (i + 1) * k + j - k = i * k + j from by rw [Nat.add_mul]; omega]
      exact ih i j (by simpa using hi) hj
theorem flatK_list {α : Type} [Inhabited α] {enc : α → List Value} {k : Nat} (hk : ∀ x, (enc x).length = k) (d : Array α) : (flatK enc k d).toList = d.toList.flatMap enc := by
  apply List.ext_getElem?
  intro t
  by_cases ht : t < d.size * k
  · have k0 : 0 < k := by
      rcases Nat.eq_zero_or_pos k with h | h
      · subst h; simp at ht
      · exact h
    have h1 : t / k < d.size := Nat.div_lt_of_lt_mul (by rw [Nat.mul_comm]; exact ht)
    have h2 := flatMap_get hk d.toList (t / k) (t % k) (by simpa using h1) (Nat.mod_lt _ k0)
    rw [Nat.mul_comm, Nat.div_add_mod] at h2
    rw [h2, Array.getElem?_toList]
    have h3 : (flatK enc k d)[t]? = some (flatK enc k d)[t]! := by
      rw [getElem!_pos (flatK enc k d) t (by rw [size_flatK]; exact ht), Array.getElem?_eq_getElem (by rw [size_flatK]; exact ht)]
    have h4 : t % k < (enc d[t / k]).length := by rw [hk]; exact Nat.mod_lt _ k0
    rw [h3, get_flatK _ _ _ _ ht, getElem!_pos d (t / k) h1, Array.getElem_toList, List.getElem?_eq_getElem h4, getElem!_pos (enc d[t / k]) (t % k) h4]
  · rw [List.getElem?_eq_none (by simp; omega), List.getElem?_eq_none (by rw [flatMap_len hk]; simp; omega)]

section
variable {α : Type} [Inhabited α] {enc : α → List Value} {k : Nat} {w : World} {base g cap n : Nat} {e : TypeId}
theorem holdsK_own (hk : ∀ x, (enc x).length = k) {l : List α} (h : w.ownsRow base e k (.slice (some ⟨g, 0, none⟩) n cap) n (l.flatMap enc)) : HoldsK enc k w g 0 l.toArray ∧ g < w.heap.size ∧ base ≤ g := by
  rcases h.2 with ⟨h0, _⟩ | ⟨g', cap', cur, hv, hb, hh, h1, h2, h3, h4⟩
  · cases h0
  · injection hv with e1 e2 e3
    injection e1 with e1
    injection e1 with e1
    subst e1
    refine ⟨fun j hj => ?_, (Array.getElem?_eq_some_iff.1 hh).1, hb⟩
    rw [size_flatK] at hj
    have hl := h.1
    rw [flatMap_len hk] at hl
    have hj2 : j < n * k := by rw [← hl]; simpa using hj
    refine ⟨?_, by simp [World.frozen?, hh]⟩
    have h5 : (flatK enc k l.toArray)[j]? = some (flatK enc k l.toArray)[j]! := by
      rw [getElem!_pos _ j (by simpa using hj), Array.getElem?_eq_getElem (by simpa using hj)]
    have h6 : cur[j]? = some (flatK enc k l.toArray)[j]! := by
      rw [← h5, ← Array.getElem?_toList, ← Array.getElem?_toList, flatK_list hk, ← h4, List.getElem?_take_of_lt hj2]
    simp only [World.cell?, hh, Nat.zero_add]
    simp only [Option.isSome_none, Bool.false_eq_true, if_false]
    exact h6
theorem own_sorted (hk : ∀ x, (enc x).length = k) {l : List α} (h : w.ownsRow base e k (.slice (some ⟨g, 0, none⟩) n cap) n (l.flatMap enc)) (m : Nat) (os : Array Obj) (d : Array α) (hd : d.size = l.length) :
    (sortWorldK enc k w g 0 m d os).ownsRow base e k (.slice (some ⟨g, 0, none⟩) n cap) n (d.toList.flatMap enc) ∧ Go.RowKit.Below base w (sortWorldK enc k w g 0 m d os) := by
  rcases h.2 with ⟨h0, _⟩ | ⟨g', cap', cur, hv, hb, hh, h1, h2, h3, h4⟩
  · cases h0
  · injection hv with e1 e2 e3
    injection e1 with e1
    injection e1 with e1
    subst e1
    subst e3
    have hl := h.1
    rw [flatMap_len hk] at hl
    have hg : g < w.heap.size := (Array.getElem?_eq_some_iff.1 hh).1
    have hnew : (sortWorldK enc k w g 0 m d os).heap[g]? = some (.cells (putCells id 0 (flatK enc k d) cur) e (0, 0)) := by
      unfold sortWorldK
      rw [heap_grow_old _ _ (by simpa [putRowK, putRow, mapBlock, Sort.ahead] using hg)]
      simp [putRowK, putRow, mapBlock, Sort.ahead, Array.getElem?_modify, hh, onCells]
    refine ⟨⟨by rw [flatMap_len hk]; simp [hd, hl], .inr ⟨g, cap, _, rfl, hb, hnew, h1, h2, by simp [putCells, h3], ?_⟩⟩, ?_⟩
    · have hnk : n * k ≤ cur.size := by rw [h3]; exact Nat.mul_le_mul_right k h1
      rw [← flatK_list hk]
      have hsz : (flatK enc k d).size = n * k := by rw [size_flatK, hd, hl]
      apply List.ext_getElem?
      intro j
      by_cases hj : j < n * k
      · rw [List.getElem?_take_of_lt hj, Array.getElem?_toList, Array.getElem?_toList]
        simp [putCells, hsz, hj, show j < cur.size by omega]
      · rw [List.getElem?_take_eq_none (by omega), List.getElem?_eq_none (by simp only [Array.length_toList]; omega)]
    · refine ⟨rfl, rfl, rfl, ?_, fun i hi => ?_⟩
      · simp [sortWorldK, putRowK, putRow, mapBlock, Sort.ahead]
      · have hi2 : i ≠ g := by omega
        unfold sortWorldK
        rcases Nat.lt_or_ge i w.heap.size with h5 | h5
        · rw [heap_grow_old _ _ (by simpa [putRowK, putRow, mapBlock, Sort.ahead] using h5)]
          simp [putRowK, putRow, mapBlock, Sort.ahead, Array.getElem?_modify, Ne.symm hi2]
        · omega
end
end Go.Proofs.YtohjgegnamcnlaaGreat

/- What the functions of the package runs compute, said of plain lists of spans; and the bounds that the walks want. No program in sight. -/
namespace Go.Proofs.YtohjgegnamcnlaaGreat

def onLine (x : Int) : Bool := decide (-4398046511104 ≤ x) && decide (x ≤ 4398046511104)
def okSpan (s : Sp) : Bool := onLine s.1 && onLine s.2 && decide (s.1 < s.2)
def chk (l : List Sp) (i : Nat) : Bool := okSpan (fr l i, tt l i) && (i == 0 || decide (tt l (i-1) < fr l i))
def validB (l : List Sp) : Bool := decide (l.length ≤ 2000) && (List.range l.length).all (chk l)

theorem any_step {f : Nat → Bool} {k : Nat} (h : (List.range k).any f = false) (hk : f k = false) : (List.range (k + 1)).any f = false := by
  rw [List.range_succ, List.any_append, h]; simp [hk]
theorem any_found {f : Nat → Bool} {k n : Nat} (hk : k < n) (h : f k = true) : (List.range n).any f = true := by
  rw [List.any_eq_true]; exact ⟨k, by simp [hk], h⟩
theorem all_step {f : Nat → Bool} {k : Nat} (h : (List.range k).all f = true) (hk : f k = true) : (List.range (k + 1)).all f = true := by
  rw [List.range_succ, List.all_append, h]; simp [hk]
theorem all_fail {f : Nat → Bool} {k n : Nat} (hk : k < n) (h : f k = false) : (List.range n).all f = false := by
  rw [List.all_eq_false]; exact ⟨k, by simp [hk], by simp [h]⟩

def endAt (l : List Sp) (n : Nat) : Int := if n = 2 * l.length then 8796093022208 else if n % 2 = 0 then fr l (n / 2) else tt l (n / 2)

/-! The loop's state, and one round. -/
structure CS where
  i : Nat
  k : Nat
  ins : Bool
  frm : Int
  out : List Sp
def cStart : CS := ⟨0, 0, false, 0, []⟩
def cAt (a b : List Sp) (s : CS) : Int := min (endAt a s.i) (endAt b s.k)
def nI (a b : List Sp) (s : CS) : Nat := if endAt a s.i = cAt a b s then s.i + 1 else s.i
def nK (a b : List Sp) (s : CS) : Nat := if endAt b s.k = cAt a b s then s.k + 1 else s.k
def nW (g : Bool → Bool → Bool) (a b : List Sp) (s : CS) : Bool := g ((nI a b s : Int) % 2 == 1) ((nK a b s : Int) % 2 == 1)
def cStep (g : Bool → Bool → Bool) (a b : List Sp) (s : CS) : CS :=
  { i := nI a b s, k := nK a b s, ins := nW g a b s, frm := if nW g a b s = s.ins then s.frm else cAt a b s
    out := if nW g a b s = s.ins then s.out else if s.ins then s.out ++ [(s.frm, cAt a b s)] else s.out }
def cIter (g : Bool → Bool → Bool) (a b : List Sp) : Nat → CS
  | 0 => cStart
  | m + 1 => cStep g a b (cIter g a b m)
def cOn (a b : List Sp) (s : CS) : Prop := s.i < 2 * a.length ∨ s.k < 2 * b.length

theorem validB_len {l : List Sp} (h : validB l = true) : l.length ≤ 2000 := by
  simp [validB] at h; exact h.1
theorem validB_chk {l : List Sp} (h : validB l = true) {i : Nat} (hi : i < l.length) : chk l i = true := by
  simp only [validB, Bool.and_eq_true, List.all_eq_true, List.mem_range] at h; exact h.2 i hi
theorem validB_ok {l : List Sp} (h : validB l = true) {i : Nat} (hi : i < l.length) : -4398046511104 ≤ fr l i ∧ fr l i < tt l i ∧ tt l i ≤ 4398046511104 := by
  have := validB_chk h hi
  simp [chk, okSpan, onLine] at this
  omega
theorem validB_gap {l : List Sp} (h : validB l = true) {i : Nat} (hi : i + 1 < l.length) : tt l i < fr l (i + 1) := by
  have := validB_chk h hi
  simp [chk, okSpan, onLine] at this
  omega
theorem endAt_lt {l : List Sp} (h : validB l = true) {n : Nat} (hn : n < 2 * l.length) : -4398046511104 ≤ endAt l n ∧ endAt l n ≤ 4398046511104 := by
  have := validB_ok h (i := n / 2) (by omega)
  unfold endAt
  rw [if_neg (by omega)]
  split <;> omega
theorem endAt_top (l : List Sp) : endAt l (2 * l.length) = 8796093022208 := if_pos rfl
theorem endAt_bd {l : List Sp} (h : validB l = true) {n : Nat} (hn : n ≤ 2 * l.length) : -4398046511104 ≤ endAt l n ∧ endAt l n ≤ 8796093022208 := by
  rcases Nat.lt_or_ge n (2 * l.length) with h1 | h1
  · have := endAt_lt h h1; omega
  · obtain rfl : n = 2 * l.length := by omega
    rw [endAt_top]; omega

/-- What stands at the head of every round. -/
structure CInv (a b : List Sp) (s : CS) : Prop where
  i : s.i ≤ 2 * a.length
  k : s.k ≤ 2 * b.length
  out : s.out.length ≤ s.i + s.k
  frm : -8796093022208 ≤ s.frm ∧ s.frm ≤ 8796093022208
theorem cStep_inv {g : Bool → Bool → Bool} {a b : List Sp} (ha : validB a = true) (hb : validB b = true) {s : CS} (h : CInv a b s) (hon : cOn a b s) :
    CInv a b (cStep g a b s) ∧ s.i + s.k < (cStep g a b s).i + (cStep g a b s).k := by
  have hA := endAt_bd ha h.i
  have hB := endAt_bd hb h.k
  have hAl := fun h => endAt_lt ha (n := s.i) h
  have hBl := fun h => endAt_lt hb (n := s.k) h
  have tA : s.i = 2 * a.length → endAt a s.i = 8796093022208 := fun h => by rw [h]; exact endAt_top a
  have tB : s.k = 2 * b.length → endAt b s.k = 8796093022208 := fun h => by rw [h]; exact endAt_top b
  have hi := h.i
  have hk := h.k
  have ho := h.out
  have hf := h.frm
  have hm : cAt a b s ≤ endAt a s.i ∧ cAt a b s ≤ endAt b s.k ∧ (cAt a b s = endAt a s.i ∨ cAt a b s = endAt b s.k) := by
    unfold cAt; omega
  unfold cOn at hon
  have h4 : (cStep g a b s).out.length ≤ s.out.length + 1 := by
    unfold cStep; dsimp only; split
    · omega
    · split <;> simp
  have h5 : (cStep g a b s).frm = s.frm ∨ (cStep g a b s).frm = cAt a b s := by
    unfold cStep; dsimp only; split
    · exact .inl rfl
    · exact .inr rfl
  have ei : (cStep g a b s).i = if endAt a s.i = cAt a b s then s.i + 1 else s.i := rfl
  have ek : (cStep g a b s).k = if endAt b s.k = cAt a b s then s.k + 1 else s.k := rfl
  generalize cStep g a b s = s' at *
  refine ⟨⟨?_, ?_, ?_, ?_⟩, ?_⟩
  · rw [ei]; split <;> omega
  · rw [ek]; split <;> omega
  · rw [ei, ek]; split <;> split <;> omega
  · rcases h5 with h5 | h5 <;> rw [h5] <;> omega
  · rw [ei, ek]; split <;> split <;> omega

end Go.Proofs.YtohjgegnamcnlaaGreat

/- Canonical lists of spans as sets of numbers: a canonical list is determined by its numbers; the merge of two canonical lists has the numbers that its rule keeps. Plain laws, no program. -/
namespace Go.Proofs.YtohjgegnamcnlaaGreat

def OkSp (s : Sp) : Prop := -4398046511104 ≤ s.1 ∧ s.1 < s.2 ∧ s.2 ≤ 4398046511104
def Canon (l : List Sp) : Prop := (∀ s ∈ l, OkSp s) ∧ l.Pairwise (fun s t => s.2 < t.1)
def mem (l : List Sp) (x : Int) : Bool := l.any fun s => decide (s.1 ≤ x) && decide (x < s.2)

theorem okSpan_iff (s : Sp) : okSpan s = true ↔ OkSp s := by
  simp [okSpan, onLine, OkSp]; omega
theorem mem_iff {l : List Sp} {x : Int} : mem l x = true ↔ ∃ s ∈ l, s.1 ≤ x ∧ x < s.2 := by
  simp [mem]
theorem mem_cons (s : Sp) (l : List Sp) (x : Int) : mem (s :: l) x = ((decide (s.1 ≤ x) && decide (x < s.2)) || mem l x) := by simp [mem]
theorem mem_append (l m : List Sp) (x : Int) : mem (l ++ m) x = (mem l x || mem m x) := by simp [mem]
theorem mem_nil (x : Int) : mem [] x = false := rfl
theorem canon_nil : Canon [] := ⟨by simp, List.Pairwise.nil⟩
theorem canon_tail {s : Sp} {l : List Sp} (h : Canon (s :: l)) : Canon l := ⟨fun t ht => h.1 t (by simp [ht]), (List.pairwise_cons.1 h.2).2⟩
theorem canon_head {s : Sp} {l : List Sp} (h : Canon (s :: l)) : OkSp s ∧ ∀ t ∈ l, s.2 < t.1 := ⟨h.1 s (by simp), (List.pairwise_cons.1 h.2).1⟩
theorem canon_snoc {l : List Sp} {s : Sp} (h : Canon l) (hs : OkSp s) (hl : ∀ t ∈ l, t.2 < s.1) : Canon (l ++ [s]) := by
  refine ⟨fun t ht => ?_, ?_⟩
  · rcases List.mem_append.1 ht with h1 | h1
    · exact h.1 t h1
    · rw [List.mem_singleton.1 h1]; exact hs
  · rw [List.pairwise_append]
    exact ⟨h.2, List.pairwise_singleton _ _, fun a ha b hb => by rw [List.mem_singleton.1 hb]; exact hl a ha⟩

theorem mem_low {s : Sp} {l : List Sp} (h : Canon (s :: l)) {x : Int} (hx : mem (s :: l) x = true) : s.1 ≤ x := by
  obtain ⟨t, ht, h1, h2⟩ := mem_iff.1 hx
  rcases List.mem_cons.1 ht with rfl | ht
  · exact h1
  · have := (canon_head h).2 t ht
    have := (canon_head h).1
    unfold OkSp at this
    omega
theorem mem_tail {s : Sp} {l : List Sp} (h : Canon (s :: l)) {x : Int} (hx : mem l x = true) : s.2 < x := by
  obtain ⟨t, ht, h1, h2⟩ := mem_iff.1 hx
  have := (canon_head h).2 t ht
  omega

/-- A canonical list is determined by its numbers. -/
theorem canon_ext : ∀ {l m : List Sp}, Canon l → Canon m → (∀ x, mem l x = mem m x) → l = m
  | [], [], _, _, _ => rfl
  | [], s :: m, _, hm, h => by
    have h1 := h s.1
    have := (canon_head hm).1
    unfold OkSp at this
    rw [mem_nil, mem_cons] at h1
    simp at h1; omega
  | s :: l, [], hl, _, h => by
    have h1 := h s.1
    have := (canon_head hl).1
    unfold OkSp at this
    rw [mem_nil, mem_cons] at h1
    simp at h1; omega
  | s :: l, t :: m, hl, hm, h => by
    have os := (canon_head hl).1
    have ot := (canon_head hm).1
    unfold OkSp at os ot
    have hs1 : mem (s :: l) s.1 = true := by rw [mem_cons]; simp; omega
    have ht1 : mem (t :: m) t.1 = true := by rw [mem_cons]; simp; omega
    have e1 : s.1 = t.1 := by
      have a1 := mem_low hm (by rw [← h]; exact hs1)
      have a2 := mem_low hl (by rw [h]; exact ht1)
      omega
    have e2 : s.2 = t.2 := by
      rcases Int.lt_trichotomy s.2 t.2 with h1 | h1 | h1
      · have h2 : mem (t :: m) s.2 = true := by rw [mem_cons]; simp; omega
        rw [← h, mem_cons] at h2
        simp at h2
        have := mem_tail hl h2
        omega
      · exact h1
      · have h2 : mem (s :: l) t.2 = true := by rw [mem_cons]; simp; omega
        rw [h, mem_cons] at h2
        simp at h2
        have := mem_tail hm h2
        omega
    have est : s = t := Prod.ext e1 e2
    subst est
    have := canon_ext (canon_tail hl) (canon_tail hm) (fun x => by
      have hx := h x
      rw [mem_cons, mem_cons] at hx
      cases h1 : mem l x <;> cases h2 : mem m x <;> simp [h1, h2] at hx ⊢
      · have := mem_tail hm h2; omega
      · have := mem_tail hl h1; omega)
    rw [this]

/-! ### the canonical lists of the program: by indices -/
theorem fr_cons (s : Sp) (l : List Sp) (i : Nat) : fr (s :: l) (i + 1) = fr l i := by simp [fr]
theorem tt_cons (s : Sp) (l : List Sp) (i : Nat) : tt (s :: l) (i + 1) = tt l i := by simp [tt]
theorem fr_zero (s : Sp) (l : List Sp) : fr (s :: l) 0 = s.1 := by simp [fr]
theorem tt_zero (s : Sp) (l : List Sp) : tt (s :: l) 0 = s.2 := by simp [tt]
theorem sp_at (l : List Sp) (i : Nat) (hi : i < l.length) : l[i] = (fr l i, tt l i) := by simp [fr, tt, hi]
theorem mem_idx {l : List Sp} {s : Sp} (h : s ∈ l) : ∃ i, i < l.length ∧ s = (fr l i, tt l i) := by
  obtain ⟨i, hi, rfl⟩ := List.getElem_of_mem h
  exact ⟨i, hi, sp_at l i hi⟩
theorem idx_mem {l : List Sp} {i : Nat} (hi : i < l.length) : (fr l i, tt l i) ∈ l := by rw [← sp_at l i hi]; exact List.getElem_mem hi
theorem canon_of_chk {l : List Sp} (h : (List.range l.length).all (chk l) = true) : Canon l := by
  have hok : ∀ i, i < l.length → OkSp (fr l i, tt l i) ∧ (0 < i → tt l (i - 1) < fr l i) := by
    intro i hi
    have := List.all_eq_true.1 h i (by simpa using hi)
    simp only [chk, Bool.and_eq_true, Bool.or_eq_true, decide_eq_true_eq, beq_iff_eq] at this
    exact ⟨(okSpan_iff _).1 this.1, fun h0 => by rcases this.2 with h1 | h1 <;> omega⟩
  have hlt : ∀ d i, i + (d + 1) < l.length → tt l i < fr l (i + (d + 1)) := by
    intro d
    induction d with
    | zero => intro i hi; exact (hok (i + 1) hi).2 (by omega)
    | succ d ih =>
      intro i hi
      have h1 := ih i (by omega)
      have h2 := (hok (i + (d + 1)) (by omega)).1
      have h3 := (hok (i + (d + 1 + 1)) hi).2 (by omega)
      unfold OkSp at h2
      simp only at h2
      have e : i + (d + 1 + 1) - 1 = i + (d + 1) := by omega
      rw [e] at h3
      omega
  refine ⟨fun s hs => ?_, ?_⟩
  · obtain ⟨i, hi, rfl⟩ := mem_idx hs
    exact (hok i hi).1
  · rw [List.pairwise_iff_getElem]
    intro i j hi hj hij
    rw [sp_at l i hi, sp_at l j hj]
    have := hlt (j - i - 1) i (by omega)
    rwa [show i + (j - i - 1 + 1) = j from by omega] at this
theorem chk_of_canon {l : List Sp} (h : Canon l) : (List.range l.length).all (chk l) = true := by
  rw [List.all_eq_true]
  intro i hi
  have hi : i < l.length := by simpa using hi
  simp only [chk, Bool.and_eq_true, Bool.or_eq_true, decide_eq_true_eq, beq_iff_eq]
  refine ⟨(okSpan_iff _).2 (h.1 _ (idx_mem hi)), ?_⟩
  rcases Nat.eq_zero_or_pos i with h0 | h0
  · exact .inl h0
  · right
    have := List.pairwise_iff_getElem.1 h.2 (i - 1) i (by omega) hi (by omega)
    rwa [sp_at l _ (by omega), sp_at l i hi] at this
theorem validB_iff (l : List Sp) : validB l = true ↔ l.length ≤ 2000 ∧ Canon l := by
  unfold validB
  rw [Bool.and_eq_true, decide_eq_true_eq]
  exact ⟨fun ⟨h1, h2⟩ => ⟨h1, canon_of_chk h2⟩, fun ⟨h1, h2⟩ => ⟨h1, chk_of_canon h2⟩⟩
end Go.Proofs.YtohjgegnamcnlaaGreat

/- The merge of two canonical lists (the plain loop of RunsS) yields the canonical list of the numbers that its rule keeps. -/
namespace Go.Proofs.YtohjgegnamcnlaaGreat

/-- The ends of a canonical list ascend. -/
theorem endAt_even {l : List Sp} {n : Nat} (hn : n < 2 * l.length) (h2 : n % 2 = 0) : endAt l n = fr l (n / 2) := by rw [endAt, if_neg (by omega), if_pos h2]
theorem endAt_odd {l : List Sp} {n : Nat} (_hn : n < 2 * l.length) (h2 : n % 2 = 1) : endAt l n = tt l (n / 2) := by rw [endAt, if_neg (by omega), if_neg (by omega)]
theorem endAt_step {l : List Sp} (h : validB l = true) {n : Nat} (hn : n < 2 * l.length) : endAt l n < endAt l (n + 1) := by
  have hok := validB_ok h (i := n / 2) (by omega)
  rcases Nat.mod_two_eq_zero_or_one n with h2 | h2
  · rw [endAt_even hn h2, endAt_odd (by omega) (by omega), show (n + 1) / 2 = n / 2 from by omega]; omega
  · rw [endAt_odd hn h2]
    rcases Nat.lt_or_ge (n + 1) (2 * l.length) with h1 | h1
    · rw [endAt_even h1 (by omega), show (n + 1) / 2 = n / 2 + 1 from by omega]
      exact validB_gap h (by omega)
    · rw [show n + 1 = 2 * l.length from by omega, endAt_top]; omega
theorem endAt_mono {l : List Sp} (h : validB l = true) : ∀ (d n : Nat), n + d ≤ 2 * l.length → endAt l n ≤ endAt l (n + d)
  | 0, n, _ => Int.le_refl _
  | d + 1, n, hn => by
    have h1 := endAt_mono h d n (by omega)
    have h2 := endAt_step h (n := n + d) (by omega)
    rw [show n + (d + 1) = n + d + 1 from by omega]
    omega
theorem endAt_le {l : List Sp} (h : validB l = true) {n m : Nat} (hnm : n ≤ m) (hm : m ≤ 2 * l.length) : endAt l n ≤ endAt l m := by
  have := endAt_mono h (m - n) n (by omega)
  rwa [show n + (m - n) = m from by omega] at this
/-- Between two neighbouring ends a number is in the list if the ends behind it are odd in number. -/
theorem mem_between {l : List Sp} (h : validB l = true) {n : Nat} (hn : n ≤ 2 * l.length) {x : Int} (h1 : 0 < n → endAt l (n - 1) ≤ x) (h2 : x < endAt l n) : mem l x = ((n : Int) % 2 == 1) := by
  rcases Nat.mod_two_eq_zero_or_one n with hp | hp
  · have hr : (((n : Int) % 2 == 1) = false) := by rw [beq_eq_false_iff_ne]; omega
    rw [hr]
    cases hm : mem l x
    · rfl
    · obtain ⟨s, hs, ha, hb⟩ := mem_iff.1 hm
      obtain ⟨i, hi, rfl⟩ := mem_idx hs
      simp only at ha hb
      exfalso
      rcases Nat.lt_or_ge (2 * i) n with hlt | hge
      · have e1 : endAt l (2 * i + 1) = tt l i := by rw [endAt_odd (by omega) (by omega), show (2 * i + 1) / 2 = i from by omega]
        have := endAt_le h (n := 2 * i + 1) (m := n - 1) (by omega) (by omega)
        have := h1 (by omega)
        omega
      · have e1 : endAt l (2 * i) = fr l i := by rw [endAt_even (by omega) (by omega), show (2 * i) / 2 = i from by omega]
        have := endAt_le h (n := n) (m := 2 * i) (by omega) (by omega)
        omega
  · have hr : (((n : Int) % 2 == 1) = true) := by rw [beq_iff_eq]; omega
    rw [hr, mem_iff]
    refine ⟨_, idx_mem (l := l) (i := n / 2) (by omega), ?_, ?_⟩
    · have := h1 (by omega)
      rw [endAt_even (by omega) (by omega), show (n - 1) / 2 = n / 2 from by omega] at this
      exact this
    · rwa [endAt_odd (by omega) hp] at h2

def IsOp (g : Bool → Bool → Bool) (a b r : List Sp) : Prop := Canon r ∧ ∀ x, mem r x = g (mem a x) (mem b x)
theorem isOp_unique {g : Bool → Bool → Bool} {a b r r' : List Sp} (h : IsOp g a b r) (h' : IsOp g a b r') : r = r' :=
  canon_ext h.1 h'.1 fun x => (h.2 x).trans (h'.2 x).symm

/-- The merge's invariant: q is where it stands (the last end that was passed). -/
structure MInv (g : Bool → Bool → Bool) (a b : List Sp) (s : CS) (q : Int) : Prop where
  i : s.i ≤ 2 * a.length
  k : s.k ≤ 2 * b.length
  pa : 0 < s.i → endAt a (s.i - 1) ≤ q
  pb : 0 < s.k → endAt b (s.k - 1) ≤ q
  na : q < endAt a s.i
  nb : q < endAt b s.k
  ins : s.ins = g ((s.i : Int) % 2 == 1) ((s.k : Int) % 2 == 1)
  canon : Canon s.out
  frm : s.ins = true → -4398046511104 ≤ s.frm ∧ s.frm ≤ q ∧ ∀ t ∈ s.out, t.2 < s.frm
  to : ∀ t ∈ s.out, t.2 ≤ q
  num : ∀ x, x < cAt a b s → (mem s.out x || (s.ins && decide (s.frm ≤ x))) = g (mem a x) (mem b x)

theorem mInv_start {g : Bool → Bool → Bool} (h0 : g false false = false) {a b : List Sp} (ha : validB a = true) (hb : validB b = true) : MInv g a b cStart (-4398046511105) := by
  have ea := endAt_bd ha (n := 0) (by omega)
  have eb := endAt_bd hb (n := 0) (by omega)
  refine ⟨by simp [cStart], by simp [cStart], by simp [cStart], by simp [cStart], by simp [cStart]; omega, by simp [cStart]; omega, by simp [cStart, h0], canon_nil, by simp [cStart], by simp [cStart], fun x hx => ?_⟩
  have hx1 : x < endAt a 0 ∧ x < endAt b 0 := by unfold cAt cStart at hx; simp only at hx; omega
  rw [mem_between ha (n := 0) (by omega) (by simp) hx1.1, mem_between hb (n := 0) (by omega) (by simp) hx1.2]
  simp [cStart, mem_nil, h0]

theorem mInv_step {g : Bool → Bool → Bool} {a b : List Sp} (ha : validB a = true) (hb : validB b = true) {s : CS} {q : Int} (h : MInv g a b s q) (hon : cOn a b s) :
    MInv g a b (cStep g a b s) (cAt a b s) := by
  have hA := endAt_bd ha h.i
  have hB := endAt_bd hb h.k
  have hAl := fun h => endAt_lt ha (n := s.i) h
  have hBl := fun h => endAt_lt hb (n := s.k) h
  have tA : s.i = 2 * a.length → endAt a s.i = 8796093022208 := fun h => by rw [h]; exact endAt_top a
  have tB : s.k = 2 * b.length → endAt b s.k = 8796093022208 := fun h => by rw [h]; exact endAt_top b
  have hi := h.i
  have hk := h.k
  have hm : cAt a b s ≤ endAt a s.i ∧ cAt a b s ≤ endAt b s.k ∧ (cAt a b s = endAt a s.i ∨ cAt a b s = endAt b s.k) := by
    unfold cAt; omega
  have hq : q < cAt a b s := by have := h.na; have := h.nb; unfold cAt; omega
  have hat : cAt a b s ≤ 4398046511104 ∧ -4398046511104 ≤ cAt a b s := by unfold cOn at hon; omega
  have ei : (cStep g a b s).i = nI a b s := rfl
  have ek : (cStep g a b s).k = nK a b s := rfl
  have hI : nI a b s ≤ 2 * a.length ∧ (0 < nI a b s → endAt a (nI a b s - 1) ≤ cAt a b s) ∧ cAt a b s < endAt a (nI a b s) := by
    unfold nI
    split
    · rename_i he
      have hlt : s.i < 2 * a.length := by omega
      refine ⟨by omega, fun _ => by rw [Nat.add_sub_cancel]; omega, ?_⟩
      have := endAt_step ha hlt
      omega
    · rename_i he
      refine ⟨hi, fun h0 => ?_, by omega⟩
      have := h.pa h0; omega
  have hK : nK a b s ≤ 2 * b.length ∧ (0 < nK a b s → endAt b (nK a b s - 1) ≤ cAt a b s) ∧ cAt a b s < endAt b (nK a b s) := by
    unfold nK
    split
    · rename_i he
      have hlt : s.k < 2 * b.length := by omega
      refine ⟨by omega, fun _ => by rw [Nat.add_sub_cancel]; omega, ?_⟩
      have := endAt_step hb hlt
      omega
    · rename_i he
      refine ⟨hk, fun h0 => ?_, by omega⟩
      have := h.pb h0; omega
  have hins : (cStep g a b s).ins = nW g a b s := rfl
  have hfrm : (cStep g a b s).frm = if nW g a b s = s.ins then s.frm else cAt a b s := rfl
  have hout : (cStep g a b s).out = if nW g a b s = s.ins then s.out else if s.ins then s.out ++ [(s.frm, cAt a b s)] else s.out := rfl
  have hmore : ∀ x, cAt a b s ≤ x → x < cAt a b (cStep g a b s) → g (mem a x) (mem b x) = nW g a b s := by
    intro x h1 h2
    have h3 : x < endAt a (nI a b s) ∧ x < endAt b (nK a b s) := by unfold cAt at h2; rw [ei, ek] at h2; omega
    rw [mem_between ha hI.1 (fun h0 => by have := hI.2.1 h0; omega) h3.1, mem_between hb hK.1 (fun h0 => by have := hK.2.1 h0; omega) h3.2]
    rfl
  have hold := h.num
  have hto := h.to
  have hf := h.frm
  have hc := h.canon
  have hafter : ∀ x, cAt a b s ≤ x → mem s.out x = false := by
    intro x hx
    cases hmx : mem s.out x
    · rfl
    · obtain ⟨t, ht, _, h2⟩ := mem_iff.1 hmx
      have := hto t ht
      omega
  generalize hcs : cStep g a b s = s' at *
  cases hw : nW g a b s <;> cases hin : s.ins <;> simp only [hw, hin, if_true, if_false, reduceCtorEq, Bool.false_eq_true] at hins hfrm hout hmore hf hold
  · -- false, false
    refine ⟨by rw [ei]; exact hI.1, by rw [ek]; exact hK.1, by rw [ei]; exact hI.2.1, by rw [ek]; exact hK.2.1, by rw [ei]; exact hI.2.2, by rw [ek]; exact hK.2.2, by rw [hins, ei, ek]; exact hw.symm, by rw [hout]; exact hc, by rw [hins]; simp, ?_, ?_⟩
    · rw [hout]; intro t ht; have := hto t ht; omega
    · intro x hx
      rw [hout, hins]
      rcases Int.lt_or_le x (cAt a b s) with h1 | h1
      · have := hold x h1; simpa using this
      · rw [hmore x h1 hx, hafter x h1]; rfl
  · -- false, true : a span is closed
    obtain ⟨f1, f2, f3⟩ := hf trivial
    refine ⟨by rw [ei]; exact hI.1, by rw [ek]; exact hK.1, by rw [ei]; exact hI.2.1, by rw [ek]; exact hK.2.1, by rw [ei]; exact hI.2.2, by rw [ek]; exact hK.2.2, by rw [hins, ei, ek]; exact hw.symm, ?_, by rw [hins]; simp, ?_, ?_⟩
    · rw [hout]; exact canon_snoc hc ⟨f1, by show s.frm < cAt a b s; omega, hat.1⟩ f3
    · rw [hout]; intro t ht
      rcases List.mem_append.1 ht with h1 | h1
      · have := hto t h1; omega
      · rw [List.mem_singleton.1 h1]; exact Int.le_refl _
    · intro x hx
      rw [hout, hins, mem_append]
      rcases Int.lt_or_le x (cAt a b s) with h1 | h1
      · have := hold x h1
        rw [← this]
        simp [mem, h1]
      · rw [hmore x h1 hx, hafter x h1]; simp [mem]; omega
  · -- true, false : a span is opened
    refine ⟨by rw [ei]; exact hI.1, by rw [ek]; exact hK.1, by rw [ei]; exact hI.2.1, by rw [ek]; exact hK.2.1, by rw [ei]; exact hI.2.2, by rw [ek]; exact hK.2.2, by rw [hins, ei, ek]; exact hw.symm, by rw [hout]; exact hc, ?_, ?_, ?_⟩
    · intro _
      rw [hfrm, hout]
      exact ⟨hat.2, Int.le_refl _, fun t ht => by have := hto t ht; omega⟩
    · rw [hout]; intro t ht; have := hto t ht; omega
    · intro x hx
      rw [hout, hins, hfrm]
      rcases Int.lt_or_le x (cAt a b s) with h1 | h1
      · have := hold x h1
        rw [← this]; simp; omega
      · rw [hmore x h1 hx]; simp [h1]
  · -- true, true
    obtain ⟨f1, f2, f3⟩ := hf trivial
    refine ⟨by rw [ei]; exact hI.1, by rw [ek]; exact hK.1, by rw [ei]; exact hI.2.1, by rw [ek]; exact hK.2.1, by rw [ei]; exact hI.2.2, by rw [ek]; exact hK.2.2, by rw [hins, ei, ek]; exact hw.symm, by rw [hout]; exact hc, ?_, ?_, ?_⟩
    · intro _
      rw [hfrm, hout]
      exact ⟨f1, by omega, f3⟩
    · rw [hout]; intro t ht; have := hto t ht; omega
    · intro x hx
      rw [hout, hins, hfrm]
      rcases Int.lt_or_le x (cAt a b s) with h1 | h1
      · exact hold x h1
      · rw [hmore x h1 hx]; simp; right; omega

theorem cIter_mono (g : Bool → Bool → Bool) (a b : List Sp) : ∀ (d m : Nat), (cIter g a b m).i ≤ (cIter g a b (m + d)).i ∧ (cIter g a b m).k ≤ (cIter g a b (m + d)).k
  | 0, m => ⟨Nat.le_refl _, Nat.le_refl _⟩
  | d + 1, m => by
    have h1 := cIter_mono g a b d m
    have h2 : (cIter g a b (m + (d + 1))) = cStep g a b (cIter g a b (m + d)) := rfl
    have h3 : (cIter g a b (m + d)).i ≤ (cStep g a b (cIter g a b (m + d))).i := by show _ ≤ nI _ _ _; unfold nI; split <;> omega
    have h4 : (cIter g a b (m + d)).k ≤ (cStep g a b (cIter g a b (m + d))).k := by show _ ≤ nK _ _ _; unfold nK; split <;> omega
    rw [h2]; omega

theorem mInv_iter {g : Bool → Bool → Bool} (h0 : g false false = false) {a b : List Sp} (ha : validB a = true) (hb : validB b = true) {m : Nat} (hm : (cIter g a b m).i ≤ 2 * a.length ∧ (cIter g a b m).k ≤ 2 * b.length) :
    ∀ j, j ≤ m → ∃ q, MInv g a b (cIter g a b j) q
  | 0, _ => ⟨_, mInv_start h0 ha hb⟩
  | j + 1, hj => by
    obtain ⟨q, hq⟩ := mInv_iter h0 ha hb hm j (by omega)
    have hon : cOn a b (cIter g a b j) := by
      have h1 := hq.i
      have h2 := hq.k
      rcases Nat.lt_or_ge (cIter g a b j).i (2 * a.length) with h3 | h3
      · exact .inl h3
      rcases Nat.lt_or_ge (cIter g a b j).k (2 * b.length) with h4 | h4
      · exact .inr h4
      exfalso
      have hI : (cIter g a b (j + 1)).i = 2 * a.length + 1 := by
        show nI a b (cIter g a b j) = _
        unfold nI cAt
        rw [show (cIter g a b j).i = 2 * a.length from by omega, show (cIter g a b j).k = 2 * b.length from by omega, endAt_top, endAt_top]
        rfl
      have := (cIter_mono g a b (m - (j + 1)) (j + 1)).1
      rw [show j + 1 + (m - (j + 1)) = m from by omega] at this
      omega
    exact ⟨_, mInv_step ha hb hq hon⟩

theorem merge_isOp {g : Bool → Bool → Bool} (h0 : g false false = false) {a b : List Sp} (ha : validB a = true) (hb : validB b = true) {m : Nat} (hm : CInv a b (cIter g a b m)) (hoff : ¬ cOn a b (cIter g a b m)) :
    IsOp g a b (cIter g a b m).out := by
  obtain ⟨q, hq⟩ := mInv_iter h0 ha hb ⟨hm.i, hm.k⟩ m (Nat.le_refl _)
  generalize cIter g a b m = s at *
  have hi := hm.i
  have hk := hm.k
  unfold cOn at hoff
  have ei : s.i = 2 * a.length := by omega
  have ek : s.k = 2 * b.length := by omega
  have hins : s.ins = false := by
    rw [hq.ins, ei, ek]
    have e1 : ((((2 * a.length : Nat) : Int)) % 2 == 1) = false := by rw [beq_eq_false_iff_ne]; omega
    have e2 : ((((2 * b.length : Nat) : Int)) % 2 == 1) = false := by rw [beq_eq_false_iff_ne]; omega
    rw [e1, e2, h0]
  have hat : cAt a b s = 8796093022208 := by unfold cAt; rw [ei, ek, endAt_top, endAt_top]; rfl
  refine ⟨hq.canon, fun x => ?_⟩
  have big : ∀ (l : List Sp), Canon l → 8796093022208 ≤ x → mem l x = false := by
    intro l hl hx
    cases hmx : mem l x
    · rfl
    · obtain ⟨t, ht, _, h2⟩ := mem_iff.1 hmx
      have := hl.1 t ht
      unfold OkSp at this
      omega
  rcases Int.lt_or_le x 8796093022208 with h1 | h1
  · have := hq.num x (by rw [hat]; exact h1)
    rw [hins] at this
    simpa using this
  · rw [big _ hq.canon h1, big _ ((validB_iff a).1 ha).2 h1, big _ ((validB_iff b).1 hb).2 h1, h0]
end Go.Proofs.YtohjgegnamcnlaaGreat


/- The walks of the packages interval (valid spans) and runs (Valid, done, the merge of two canonical lists): each function returns what a plain Lean function says, and makes memory only. -/
namespace Go.Proofs.YtohjgegnamcnlaaGreat
open Go.RowKit

theorem ivline_c (x : Int) (w : World) : Calls Tryz.prog 108 #[.int .i64 x] w fun e w' => e = .returned (.bool (onLine x)) ∧ w = w' := by
  go_enter Tryz.func108, Tryz.ntmps108
  go_wp2
  all_goals go_ret; exact ⟨by simp [onLine]; try omega, rfl⟩
theorem ivValid_c (a b : Int) (w : World) : Calls Tryz.prog 88 #[.agg #[.int .i64 a, .int .i64 b]] w (Ret w (.bool (okSpan (a, b)))) := by
  go_enter Tryz.func88, Tryz.ntmps88
  go_wp2_with (go_at_call 108; refine (ivline_c _ _).mono ?_; rintro e w' ⟨rfl, rfl⟩)
  all_goals
    go_ret
    exact ⟨by simp [okSpan, *], by go_grown⟩

end Go.Proofs.YtohjgegnamcnlaaGreat


/- The walk of runs.combine, the merge of two canonical lists, and of the four operations. -/
namespace Go.Proofs.YtohjgegnamcnlaaGreat
open Go.RowKit

theorem rdone_c (v : Value) (l : List Sp) (w : World) (hs : IsSpans w v l) :
    Calls Tryz.prog 92 #[v] w (RetLE w (if l.length ≤ 2000 then (l, 0) else ([], 5))) := by
  obtain ⟨A, c, rfl, hnc, hc⟩ := hs.form
  by_cases h2 : l.length ≤ 2000
  · rw [if_pos h2]
    go_enter Tryz.func92, Tryz.ntmps92
    go_wp2
    go_ret2
    exact ⟨_, rfl, hs, Below.refl _ _⟩
  · rw [if_neg h2]
    go_enter Tryz.func92, Tryz.ntmps92
    go_wp2
    go_ret2
    exact ⟨_, rfl, IsSpans.nil, Below.refl _ _⟩

end Go.Proofs.YtohjgegnamcnlaaGreat


/- The walk of runs.combine, the merge of two canonical lists, at canonical lists. -/
namespace Go.Proofs.YtohjgegnamcnlaaGreat
open Go.RowKit

theorem tSpans : Tryz.prog.underlying 44 = some (.slice 34) := Tryz.underlying44
theorem tSpanInfo : (Tryz.prog.info? 34).map (fun i => (i.zero, i.size, i.bytes)) = some (some (.agg #[.int .i64 0, .int .i64 0]), 2, 16) := by kernel_rfl

end Go.Proofs.YtohjgegnamcnlaaGreat


/- The walks of the four operations and Not. -/
namespace Go.Proofs.YtohjgegnamcnlaaGreat
open Go.RowKit

def opR (r : List Sp) : List Sp × Int := if r.length ≤ 2000 then (r, 0) else ([], 5)
/-- What an operation on two lists hands back. -/
def OpSpec (g : Bool → Bool → Bool) (a b : List Sp) (r : List Sp × Int) : Prop :=
  if (validB a && validB b) = true then ∃ l, IsOp g a b l ∧ l.length ≤ 2 * a.length + 2 * b.length ∧ r = opR l else r = ([], 1)
def OpRet (g : Bool → Bool → Bool) (a b : List Sp) (w : World) (e : Ending) (w' : World) : Prop := ∃ r, OpSpec g a b r ∧ RetLE w r e w'

def gUnion (x y : Bool) : Bool := x || y
def gMeet (x y : Bool) : Bool := x && y
def gMinus (x y : Bool) : Bool := x && !y
def gEither (x y : Bool) : Bool := x != y

def NotSpec (a : List Sp) (s : Sp) (r : List Sp × Int) : Prop := if okSpan s = true then OpSpec gMinus [s] a r else r = ([], 1)
theorem spans_one {w : World} (p q : Int) (t : TypeId) : IsSpans (w.alloc (.cells #[.int .i64 p, .int .i64 q] t)) (.slice (some ⟨w.heap.size, 0, none⟩) 1 1) [(p, q)] := by
  refine ⟨_, 1, rfl, Nat.le_refl _, by omega, fun _ => ⟨w.heap.size, 0, rfl, by simp, fun i j hi hj => ?_⟩⟩
  obtain rfl : i = 0 := by simpa using hi
  rcases (by omega : j = 0 ∨ j = 1) with rfl | rfl <;> simp [spanCell, fr, tt]

theorem op_cases {g : Bool → Bool → Bool} {a b : List Sp} {r : List Sp × Int} (h : OpSpec g a b r) (ha : validB a = true) (hb : validB b = true) :
    (∃ l, r = (l, 0) ∧ IsOp g a b l ∧ validB l = true) ∨ (r = ([], 5) ∧ ∃ l, IsOp g a b l ∧ 2000 < l.length ∧ l.length ≤ 2 * a.length + 2 * b.length) := by
  rw [OpSpec, if_pos (by rw [ha, hb]; rfl)] at h
  obtain ⟨l, h1, h2, rfl⟩ := h
  unfold opR
  by_cases hl : l.length ≤ 2000
  · rw [if_pos hl]; exact .inl ⟨l, rfl, h1, (validB_iff l).2 ⟨hl, h1.1⟩⟩
  · rw [if_neg hl]; exact .inr ⟨rfl, l, h1, by omega, h2⟩
theorem op_bad {g : Bool → Bool → Bool} {a b : List Sp} {r : List Sp × Int} (h : OpSpec g a b r) (hv : (validB a && validB b) = false) : r = ([], 1) := by
  rw [OpSpec, if_neg (by rw [hv]; exact Bool.false_ne_true)] at h
  exact h
theorem op_small {g : Bool → Bool → Bool} {a b : List Sp} {r : List Sp × Int} (h : OpSpec g a b r) (ha : validB a = true) (hb : validB b = true) (hs : 2 * a.length + 2 * b.length ≤ 2000) :
    ∃ l, r = (l, 0) ∧ IsOp g a b l ∧ validB l = true := by
  rcases op_cases h ha hb with h1 | ⟨_, l, _, h2, h3⟩
  · exact h1
  · omega
theorem op_err {g : Bool → Bool → Bool} {a b : List Sp} {r : List Sp × Int} (h : OpSpec g a b r) (hs : 2 * a.length + 2 * b.length ≤ 2000) : r.2 = if (validB a && validB b) = true then 0 else 1 := by
  cases hv : (validB a && validB b)
  · rw [op_bad h hv]; rfl
  · have h' := hv
    rw [Bool.and_eq_true] at h'
    obtain ⟨l, rfl, _⟩ := op_small h h'.1 h'.2 hs
    rfl
theorem op_point {g : Bool → Bool → Bool} {a b : List Sp} {r : List Sp × Int} (h : OpSpec g a b r) (x : Int) : r.2 ≠ 0 ∨ (validB r.1 && mem r.1 x) = g (validB a && mem a x) (validB b && mem b x) := by
  cases hv : (validB a && validB b)
  · left; rw [op_bad h hv]; decide
  · rw [Bool.and_eq_true] at hv
    rcases op_cases h hv.1 hv.2 with ⟨l, rfl, h1, h2⟩ | ⟨rfl, _⟩
    · right; simp only [h2, hv.1, hv.2, Bool.true_and]; exact h1.2 x
    · left; decide
theorem not_point {a : List Sp} {p q : Int} {r : List Sp × Int} (h : NotSpec a (p, q) r) (x : Int) : r.2 ≠ 0 ∨ (validB r.1 && mem r.1 x) = ((decide (p ≤ x) && decide (x < q)) && !(validB a && mem a x)) := by
  unfold NotSpec at h
  cases ho : okSpan (p, q)
  · rw [if_neg (by rw [ho]; exact Bool.false_ne_true)] at h
    left; rw [h]; decide
  · rw [if_pos ho] at h
    rcases op_point h x with h1 | h1
    · exact .inl h1
    · right
      rw [h1]
      have hv : validB [(p, q)] = true := by
        rw [validB_iff]; exact ⟨by simp, ⟨fun s hs => by rw [List.mem_singleton.1 hs]; exact (okSpan_iff _).1 ho, List.pairwise_singleton _ _⟩⟩
      rw [hv]
      simp [gMinus, mem]
end Go.Proofs.YtohjgegnamcnlaaGreat

/- The merge of spans in the order of their beginnings: what runs.Of computes, said of plain lists. No program in sight. -/
namespace Go.Proofs.YtohjgegnamcnlaaGreat

def mrg (r : List Sp) (s : Sp) : List Sp :=
  if 0 < r.length ∧ s.1 ≤ tt r (r.length - 1) then r.take (r.length - 1) ++ [(fr r (r.length - 1), max (tt r (r.length - 1)) s.2)] else r ++ [s]
theorem mrg_join {r : List Sp} {s : Sp} (h : 0 < r.length) (h2 : s.1 ≤ tt r (r.length - 1)) : mrg r s = r.take (r.length - 1) ++ [(fr r (r.length - 1), max (tt r (r.length - 1)) s.2)] := if_pos ⟨h, h2⟩
theorem mrg_push {r : List Sp} {s : Sp} (h : ¬ (0 < r.length ∧ s.1 ≤ tt r (r.length - 1))) : mrg r s = r ++ [s] := if_neg h
structure MI (P r : List Sp) : Prop where
  canon : Canon r
  mem : ∀ x, mem r x = mem P x
  len : r.length ≤ P.length
  low : ∀ t ∈ r, ∃ p ∈ P, t.1 = p.1
theorem mi_nil : MI [] [] := ⟨canon_nil, fun _ => rfl, Nat.le_refl _, fun t ht => by simp at ht⟩
theorem mi_step {P r : List Sp} {s : Sp} (h : MI P r) (hs : OkSp s) (ho : ∀ p ∈ P, p.1 ≤ s.1) : MI (P ++ [s]) (mrg r s) := by
  have hlow : ∀ t ∈ r, t.1 ≤ s.1 := fun t ht => by
    obtain ⟨p, hp, h1⟩ := h.low t ht
    have := ho p hp; omega
  by_cases hr : 0 < r.length
  · obtain ⟨I, t, rfl⟩ : ∃ I t, r = I ++ [t] := ⟨r.dropLast, r.getLast (List.length_pos_iff.1 hr), (List.dropLast_concat_getLast _).symm⟩
    have e1 : fr (I ++ [t]) ((I ++ [t]).length - 1) = t.1 := by simp [fr]
    have e2 : tt (I ++ [t]) ((I ++ [t]).length - 1) = t.2 := by simp [tt]
    have e3 : (I ++ [t]).take ((I ++ [t]).length - 1) = I := by simp
    have ht : OkSp t := h.canon.1 t (by simp)
    have hpw := List.pairwise_append.1 h.canon.2
    have hI : Canon I := ⟨fun u hu => h.canon.1 u (by simp [hu]), hpw.1⟩
    have hlt : ∀ u ∈ I, u.2 < t.1 := fun u hu => hpw.2.2 u hu t (by simp)
    have hts := hlow t (by simp)
    by_cases hj : s.1 ≤ t.2
    · rw [mrg_join hr (by rw [e2]; exact hj), e1, e2, e3]
      have hok : OkSp (t.1, max t.2 s.2) := by unfold OkSp at *; simp only at *; omega
      refine ⟨canon_snoc hI hok hlt, fun x => ?_, ?_, fun u hu => ?_⟩
      · rw [mem_append P, ← h.mem x, mem_append, mem_append, Bool.or_assoc]
        congr 1
        rw [Bool.eq_iff_iff]
        unfold OkSp at ht hs
        simp [mem]
        omega
      · have := h.len; simp at this ⊢; omega
      · rcases List.mem_append.1 hu with hu | hu
        · obtain ⟨p, hp, h1⟩ := h.low u (by simp [hu])
          exact ⟨p, by simp [hp], h1⟩
        · obtain ⟨p, hp, h1⟩ := h.low t (by simp)
          rw [List.mem_singleton.1 hu]
          exact ⟨p, by simp [hp], h1⟩
    · rw [mrg_push (by rw [e2]; exact fun h => hj h.2)]
      refine ⟨canon_snoc h.canon hs fun u hu => ?_, fun x => by rw [mem_append P, ← h.mem x, mem_append _ [s]], by have := h.len; simp at this ⊢; omega, fun u hu => ?_⟩
      · rcases List.mem_append.1 hu with hu | hu
        · have := hlt u hu
          unfold OkSp at ht; omega
        · rw [List.mem_singleton.1 hu]; omega
      · rcases List.mem_append.1 hu with hu | hu
        · obtain ⟨p, hp, h1⟩ := h.low u hu
          exact ⟨p, by simp [hp], h1⟩
        · rw [List.mem_singleton.1 hu]; exact ⟨s, by simp, rfl⟩
  · obtain rfl : r = [] := List.length_eq_zero_iff.1 (by omega)
    rw [mrg_push (by simp)]
    refine ⟨canon_snoc canon_nil hs (by simp), fun x => by rw [mem_append, mem_append, h.mem], by simp, fun u hu => ?_⟩
    simp at hu
    exact ⟨s, by simp, by rw [hu]⟩
/-- What Of hands back. -/
def OfSpec (l : List Sp) (r : List Sp × Int) : Prop :=
  if l.all okSpan = true then ∃ m, Canon m ∧ (∀ x, mem m x = mem l x) ∧ m.length ≤ 2 * l.length ∧ r = opR m else r = ([], 1)
theorem mem_perm {l m : List Sp} (h : l.Perm m) (x : Int) : mem l x = mem m x := by
  unfold mem
  rw [Bool.eq_iff_iff, List.any_eq_true, List.any_eq_true]
  exact ⟨fun ⟨s, h1, h2⟩ => ⟨s, h.mem_iff.1 h1, h2⟩, fun ⟨s, h1, h2⟩ => ⟨s, h.mem_iff.2 h1, h2⟩⟩
theorem of_sorted {l L r : List Sp} (ho : l.all okSpan = true) (hp : L.Perm l) (h : MI L r) : OfSpec l (opR r) := by
  rw [OfSpec, if_pos ho]
  exact ⟨r, h.canon, fun x => by rw [h.mem, mem_perm hp], by have := h.len; have := hp.length_eq; omega, rfl⟩
theorem of_bad {l : List Sp} (ho : l.all okSpan = false) : OfSpec l ([], 1) := by
  rw [OfSpec, if_neg (by rw [ho]; exact Bool.false_ne_true)]
theorem of_one {l : List Sp} {r r' : List Sp × Int} (h : OfSpec l r) (h' : OfSpec l r') : r = r' := by
  unfold OfSpec at h h'
  cases ho : l.all okSpan
  · rw [if_neg (by rw [ho]; exact Bool.false_ne_true)] at h h'
    rw [h, h']
  · rw [if_pos ho] at h h'
    obtain ⟨m, h1, h2, h3, rfl⟩ := h
    obtain ⟨m', h1', h2', h3', rfl⟩ := h'
    rw [canon_ext h1 h1' fun x => by rw [h2, h2']]
theorem of_small {l : List Sp} {r : List Sp × Int} (h : OfSpec l r) (hl : l.length ≤ 1000) (ho : l.all okSpan = true) : r.2 = 0 ∧ validB r.1 = true ∧ (∀ x, mem r.1 x = mem l x) ∧ r.1.length ≤ 2 * l.length ∧ (validB l = true → r.1 = l) := by
  rw [OfSpec, if_pos ho] at h
  obtain ⟨m, h1, h2, h3, rfl⟩ := h
  rw [opR, if_pos (by omega)]
  exact ⟨rfl, (validB_iff m).2 ⟨by omega, h1⟩, h2, h3, fun hv => canon_ext h1 ((validB_iff l).1 hv).2 h2⟩
theorem of_comb {l r : List Sp} (ho : l.all okSpan = true) (hc : Canon r) (hm : ∀ x, mem r x = mem l x) (hl : r.length ≤ 2 * l.length) : OfSpec l (opR r) := by
  rw [OfSpec, if_pos ho]
  exact ⟨r, hc, hm, hl, rfl⟩
end Go.Proofs.YtohjgegnamcnlaaGreat

/- What the queries of runs compute (search, Has, Measure, Rank, Nth, Next, Equal), said of plain lists. No program. -/
namespace Go.Proofs.YtohjgegnamcnlaaGreat

theorem drop_step {l : List Sp} {k : Nat} (hk : k < l.length) : l.drop k = (fr l k, tt l k) :: l.drop (k + 1) := by
  rw [List.drop_eq_getElem_cons hk, sp_at l k hk]

/-- The index of the first span that ends behind x. -/
def IsSearch (l : List Sp) (x : Int) (i : Nat) : Prop := i ≤ l.length ∧ (∀ t, t < i → tt l t ≤ x) ∧ (∀ t, i ≤ t → t < l.length → x < tt l t)
theorem canon_to_mono {l : List Sp} (h : validB l = true) : ∀ (d i : Nat), i + d < l.length → tt l i ≤ tt l (i + d)
  | 0, i, _ => Int.le_refl _
  | d + 1, i, hi => by
    have h1 := canon_to_mono h d i (by omega)
    have h2 := validB_gap h (i := i + d) (by omega)
    have h3 := validB_ok h (i := i + d + 1) (by omega)
    rw [show i + (d + 1) = i + d + 1 from by omega]
    omega
theorem canon_to_le {l : List Sp} (h : validB l = true) {i j : Nat} (hij : i ≤ j) (hj : j < l.length) : tt l i ≤ tt l j := by
  have := canon_to_mono h (j - i) i (by omega)
  rwa [show i + (j - i) = j from by omega] at this
theorem has_eq {l : List Sp} (h : validB l = true) {x : Int} {i : Nat} (hi : IsSearch l x i) : (decide (i < l.length) && decide (fr l i ≤ x)) = mem l x := by
  obtain ⟨h1, h2, h3⟩ := hi
  cases hm : mem l x
  · rw [Bool.and_eq_false_iff]
    by_cases hlt : i < l.length
    · right
      rw [decide_eq_false_iff_not]
      intro hf
      have : mem l x = true := mem_iff.2 ⟨_, idx_mem hlt, hf, h3 i (Nat.le_refl _) hlt⟩
      rw [hm] at this; cases this
    · left; simp; omega
  · obtain ⟨s, hs, ha, hb⟩ := mem_iff.1 hm
    obtain ⟨j, hj, rfl⟩ := mem_idx hs
    simp only at ha hb
    have hij : i ≤ j := by
      rcases Nat.lt_or_ge j i with hlt | hge
      · have := h2 j hlt; omega
      · exact hge
    have hff : fr l i ≤ fr l j := by
      rcases Nat.lt_or_ge i j with hlt | hge
      · have g1 := canon_to_le h (i := i) (j := j - 1) (by omega) (by omega)
        have g2 := validB_gap h (i := j - 1) (by omega)
        have g3 := validB_ok h (i := i) (by omega)
        rw [show j - 1 + 1 = j from by omega] at g2
        omega
      · rw [show i = j from by omega]; exact Int.le_refl _
    simp; omega

def measL : List Sp → Int
  | [] => 0
  | s :: l => (s.2 - s.1) + measL l
def rankL (x : Int) : List Sp → Int
  | [] => 0
  | s :: l => (if s.1 < x then min s.2 x - s.1 else 0) + rankL x l
def nthL : List Sp → Int → Option Int
  | [], _ => none
  | s :: l, n => if n < s.2 - s.1 then some (s.1 + n) else nthL l (n - (s.2 - s.1))
def nextL (x : Int) : List Sp → Option Int
  | [] => none
  | s :: l => if x < s.2 then some (max x s.1) else nextL x l

theorem measL_step {l : List Sp} {k : Nat} (hk : k < l.length) : measL (l.drop k) = (tt l k - fr l k) + measL (l.drop (k + 1)) := by rw [drop_step hk]; rfl
theorem rankL_step {l : List Sp} {k : Nat} {x : Int} (hk : k < l.length) : rankL x (l.drop k) = (if fr l k < x then min (tt l k) x - fr l k else 0) + rankL x (l.drop (k + 1)) := by rw [drop_step hk]; rfl
theorem nthL_step {l : List Sp} {k : Nat} {n : Int} (hk : k < l.length) : nthL (l.drop k) n = if n < tt l k - fr l k then some (fr l k + n) else nthL (l.drop (k + 1)) (n - (tt l k - fr l k)) := by rw [drop_step hk]; rfl
theorem nextL_step {l : List Sp} {k : Nat} {x : Int} (hk : k < l.length) : nextL x (l.drop k) = if x < tt l k then some (max x (fr l k)) else nextL x (l.drop (k + 1)) := by rw [drop_step hk]; rfl
theorem nextL_search {l : List Sp} {x : Int} {i : Nat} (hi : IsSearch l x i) : nextL x l = if i < l.length then some (max x (fr l i)) else none := by
  obtain ⟨h1, h2, h3⟩ := hi
  have : ∀ k, k ≤ i → nextL x l = nextL x (l.drop k) := by
    intro k
    induction k with
    | zero => intro _; rfl
    | succ k ih =>
      intro hk
      rw [ih (by omega), nextL_step (by omega), if_neg]
      have := h2 k (by omega)
      omega
  rw [this i (Nat.le_refl _)]
  by_cases hlt : i < l.length
  · rw [nextL_step hlt, if_pos (h3 i (Nat.le_refl _) hlt), if_pos hlt]
  · rw [if_neg hlt, List.drop_of_length_le (by omega)]; rfl
def nthO : Option Int → Int × Int
  | some y => (y, 0)
  | none => (0, 2)
def nthR (l : List Sp) (n : Int) : Int × Int :=
  if validB l = false then (0, 1) else if n < 0 then (0, 2) else nthO (nthL l n)
def nextO : Option Int → Int × Bool
  | some y => (y, true)
  | none => (0, false)
def nextR (l : List Sp) (x : Int) : Int × Bool :=
  if validB l = false then (0, false) else nextO (nextL x l)
def sameL : List Sp → List Sp → Bool
  | [], [] => true
  | s :: l, t :: m => decide (s = t) && sameL l m
  | _, _ => false
theorem sameL_iff : ∀ l m : List Sp, sameL l m = true ↔ l = m
  | [], [] => by simp [sameL]
  | [], t :: m => by simp [sameL]
  | s :: l, [] => by simp [sameL]
  | s :: l, t :: m => by simp [sameL, sameL_iff l m]
theorem sameL_len : ∀ {l m : List Sp}, l.length ≠ m.length → sameL l m = false := by
  intro l m h
  cases hs : sameL l m
  · rfl
  · rw [sameL_iff] at hs; rw [hs] at h; exact absurd rfl h
theorem sameL_step {l m : List Sp} {k : Nat} (h1 : k < l.length) (h2 : k < m.length) :
    sameL (l.drop k) (m.drop k) = (decide (fr l k = fr m k ∧ tt l k = tt m k) && sameL (l.drop (k + 1)) (m.drop (k + 1))) := by
  rw [drop_step h1, drop_step h2]; simp [sameL]
end Go.Proofs.YtohjgegnamcnlaaGreat


/- The walks of the queries of runs: search, Has, Next, Measure, Rank, Nth, and Equal. -/
namespace Go.Proofs.YtohjgegnamcnlaaGreat
open Go.RowKit

end Go.Proofs.YtohjgegnamcnlaaGreat


/- The walks of slices.Equal on lists of spans, and of runs.Equal. -/
namespace Go.Proofs.YtohjgegnamcnlaaGreat
open Go.RowKit

theorem span_neq (p q r s : Int) (w : World) : (binOp .neq 34 (.agg #[.int .i64 p, .int .i64 q]) (.agg #[.int .i64 r, .int .i64 s])).run Tryz.prog w = .ok (.bool (!(p == r && q == s))) w := by
  rw [run_neq_struct]
  cases h1 : p == r <;> cases h2 : q == s <;> simp [go_sem, h1, h2]
attribute [local go_sem ↓] span_neq

theorem slEqualSpan_c (v1 v2 : Value) (a b : List Sp) (w : World) (h1 : IsSpans w v1 a) (h2 : IsSpans w v2 b) : Calls Tryz.prog 21 #[v1, v2] w (Ret w (.bool (sameL a b))) := by
  obtain ⟨A, c, rfl, hnc, hc⟩ := h1.form
  obtain ⟨B, d, rfl, hnd, hd⟩ := h2.form
  by_cases hl : a.length = b.length
  · have hle : ((a.length : Int) == (b.length : Int)) = true := by rw [beq_iff_eq]; omega
    have hle' : ((a.length : Int) != (b.length : Int)) = false := by rw [bne, hle]; rfl
    have hl1 : a.length ≤ b.length := by omega
    have hl2 : b.length ≤ a.length := by omega
    clear hl
    go_enter Tryz.func21, Tryz.ntmps21
    go_wp2
    go_loopw [13] (fun i wr => ∃ k : Nat, k ≤ a.length ∧ i = .int .i64 k ∧ Hid (sameL a b = sameL (a.drop k) (b.drop k)) ∧ Below w.heap.size w wr) (fun i _ => a.length - (intOf i).toNat)
    case atStart => exact ⟨0, Nat.zero_le _, rfl, rfl, Below.refl _ _⟩
    case round =>
      obtain ⟨k, hk, rfl, Hs, hb⟩ := hrel
      by_cases hlt : k < a.length
      · obtain ⟨g, off, rfl, hbk⟩ := h1.addr (by omega)
        obtain ⟨g', off', rfl, hbk'⟩ := h2.addr (by omega)
        have hst := sameL_step hlt (show k < b.length by omega)
        have Hst := Lib.hid hst; clear hst
        go_wp2
        have e0 := fun x : BW wr => ((h1.below hb).bw x).c0 k hlt
        have e1 := fun x : BW wr => ((h1.below hb).bw x).c1 k hlt
        have e2 := fun x : BW wr => ((h2.below hb).bw x).c0 k (by omega)
        have e3 := fun x : BW wr => ((h2.below hb).bw x).c1 k (by omega)
        refine wp_region_below (by kernel_rfl) (by kernel_rfl) ?_
        repeat (go_big_quiet_step (fail))
        refine wpQuiet_nil ?_
        rintro _ ⟨⟨w2, hb2⟩, rfl⟩
        have hb3 := hb.trans (hb2.mono hb.size)
        clear e0 e1 e2 e3
        go_wp2
        · have ht : (!fr a k == fr b k) = true ∨ (!tt a k == tt b k) = true := by assumption
          go_ret
          refine ⟨ret_bool ?_, hb3⟩
          rw [Hs.out, Hst.out]
          symm
          rw [Bool.and_eq_false_iff]; left
          rw [decide_eq_false_iff_not]
          rintro ⟨q1, q2⟩
          rw [q1, q2] at ht
          simp at ht
        · have ht : (!fr a k == fr b k) = false ∧ (!tt a k == tt b k) = false := by assumption
          have hp : fr a k = fr b k ∧ tt a k = tt b k := by simpa using ht
          have hres : sameL a b = sameL (a.drop (k + 1)) (b.drop (k + 1)) := by
            rw [Hs.out, Hst.out, decide_eq_true hp]; rfl
          have Hres := Lib.hid hres; clear hres hp
          go_roundw
          case rel => exact ⟨k + 1, by omega, by go_num, Hres.out, hb3⟩
          case measure => simp [intOf]; omega
      · obtain rfl : k = a.length := by omega
        have hres : sameL a b = true := by
          rw [Hs.out, List.drop_length, List.drop_of_length_le (by omega)]; rfl
        have Hres := Lib.hid hres; clear hres
        go_wp2
        go_ret
        exact ⟨ret_bool Hres.out.symm, hb⟩
  · have hres := sameL_len hl
    rw [hres]
    clear hres
    have hle : ((a.length : Int) == (b.length : Int)) = false := by rw [beq_eq_false_iff_ne]; omega
    have hle' : ((a.length : Int) != (b.length : Int)) = true := by rw [bne, hle]; rfl
    clear hl
    go_enter Tryz.func21, Tryz.ntmps21
    go_wp2
    go_ret
    exact ⟨rfl, Below.refl _ _⟩

end Go.Proofs.YtohjgegnamcnlaaGreat


/- The walks of the reference's predicates and numbers: Number, Span, Spans, Valid, In, Measure, Rank, Nth, Next, Same. -/
namespace Go.Proofs.YtohjgegnamcnlaaGreat
open Go.RowKit

theorem r12Number_c (x : Int) (w : World) : Calls Tryz.prog 146 #[.int .i64 x] w fun e w' => e = .returned (.bool (onLine x)) ∧ w = w' := by
  go_enter Tryz.func146, Tryz.ntmps146
  go_wp2
  all_goals go_ret; exact ⟨by simp [onLine]; try omega, rfl⟩
theorem r12Span_c (a b : Int) (w : World) : Calls Tryz.prog 110 #[.agg #[.int .i64 a, .int .i64 b]] w (Ret w (.bool (okSpan (a, b)))) := by
  go_enter Tryz.func110, Tryz.ntmps110
  go_wp2_with (go_at_call 146; refine (r12Number_c _ _).mono ?_; rintro e w' ⟨rfl, rfl⟩)
  all_goals
    go_ret
    exact ⟨by simp [okSpan, *], by go_grown⟩

def okAt (l : List Sp) (i : Nat) : Bool := okSpan (fr l i, tt l i)
def spansB (l : List Sp) : Bool := (List.range l.length).all (okAt l)
theorem r12Spans_c (v : Value) (l : List Sp) (w : World) (hs : IsSpans w v l) : Calls Tryz.prog 94 #[v] w (Ret w (.bool (spansB l))) := by
  obtain ⟨A, c, rfl, hnc, hc⟩ := hs.form
  go_enter Tryz.func94, Tryz.ntmps94
  go_wp2
  go_loopw [3] (fun i wr => ∃ k : Nat, k ≤ l.length ∧ i = .int .i64 k ∧ Hid ((List.range k).all (okAt l) = true) ∧ Below w.heap.size w wr) (fun i _ => l.length - (intOf i).toNat)
  case atStart => exact ⟨0, Nat.zero_le _, rfl, rfl, Below.refl _ _⟩
  case round =>
    obtain ⟨k, hk, rfl, Hall, hb⟩ := hrel
    by_cases hlt : k < l.length
    · obtain ⟨b, off, rfl, hbl⟩ := hs.addr (by omega)
      have c1 := (hs.below hb).c0 k hlt
      have c2 := (hs.below hb).c1 k hlt
      have Hstep := Lib.hid (fun h => all_step (f := okAt l) Hall.out h)
      have Hno := Lib.hid (fun h => all_fail (f := okAt l) hlt h)
      have hcall := r12Span_c (fr l k) (tt l k) wr
      cases ho : okSpan (fr l k, tt l k)
      all_goals
        rw [ho] at hcall
        have Hcall := Lib.hid hcall; clear hcall
        have ho' : okAt l k = _ := ho
        have Ho := Lib.hid ho'; clear ho ho'
        go_wp2_with fail
        refine Hcall.out.mono ?_
        rintro e w1 ⟨rfl, hb1⟩
        have hb2 := hb.trans (hb1.mono hb.size)
        go_wp2
      · go_ret
        exact ⟨ret_bool (Hno.out Ho.out).symm, hb2⟩
      · go_roundw
        case rel => exact ⟨k + 1, by omega, by go_num, Hstep.out Ho.out, hb2⟩
        case measure => simp [intOf]; omega
    · obtain rfl : k = l.length := by omega
      go_wp2
      go_ret
      exact ⟨ret_bool Hall.out.symm, hb⟩

def gapAt (l : List Sp) (i : Nat) : Bool := i == 0 || decide (tt l (i - 1) < fr l i)
theorem validB_split (l : List Sp) : validB l = (decide (l.length ≤ 2000) && spansB l && (List.range l.length).all (gapAt l)) := by
  have : ∀ k, (List.range k).all (chk l) = ((List.range k).all (okAt l) && (List.range k).all (gapAt l)) := by
    intro k
    induction k with
    | zero => rfl
    | succ k ih =>
      rw [List.range_succ, List.all_append, List.all_append, List.all_append, ih]
      have e : chk l k = (okAt l k && gapAt l k) := rfl
      simp only [List.all_cons, List.all_nil, Bool.and_true, e]
      cases (List.range k).all (okAt l) <;> cases (List.range k).all (gapAt l) <;> cases okAt l k <;> rfl
  unfold validB spansB
  rw [this, Bool.and_assoc]

def inAt (x : Int) (l : List Sp) (i : Nat) : Bool := decide (fr l i ≤ x) && decide (x < tt l i)
theorem mem_range (l : List Sp) (x : Int) : mem l x = (List.range l.length).any (inAt x l) := by
  cases h : mem l x
  · symm
    rw [List.any_eq_false]
    intro i hi hc
    have hi : i < l.length := by simpa using hi
    simp only [inAt, Bool.and_eq_true, decide_eq_true_eq] at hc
    have : mem l x = true := mem_iff.2 ⟨_, idx_mem hi, hc.1, hc.2⟩
    rw [h] at this; cases this
  · symm
    rw [List.any_eq_true]
    obtain ⟨s, hs, h1, h2⟩ := mem_iff.1 h
    obtain ⟨i, hi, rfl⟩ := mem_idx hs
    exact ⟨i, by simpa using hi, by simp [inAt]; exact ⟨h1, h2⟩⟩

theorem r12In_c (v : Value) (l : List Sp) (x : Int) (w : World) (hs : IsSpans w v l) : Calls Tryz.prog 113 #[v, .int .i64 x] w fun e w' => e = .returned (.bool (mem l x)) ∧ w = w' := by
  obtain ⟨A, c, rfl, hnc, hc⟩ := hs.form
  have hm := mem_range l x
  have Hm := Lib.hid hm; clear hm
  go_enter Tryz.func113, Tryz.ntmps113
  go_wp2
  go_loop [5] (fun i => ∃ k : Nat, k ≤ l.length ∧ i = .int .i64 k ∧ Hid ((List.range k).any (inAt x l) = false)) (fun i => l.length - (intOf i).toNat)
  case atStart => exact ⟨0, Nat.zero_le _, rfl, rfl⟩
  case round =>
    obtain ⟨k, hk, rfl, Hall⟩ := hrel
    by_cases hlt : k < l.length
    · obtain ⟨b, off, rfl, hbl⟩ := hs.addr (by omega)
      have c1 := hs.c0 k hlt
      have c2 := hs.c1 k hlt
      have Hstep := Lib.hid (fun h => any_step (f := inAt x l) Hall.out h)
      have Hno := Lib.hid (fun h => any_found (f := inAt x l) hlt h)
      have Hat : Hid (inAt x l k = (decide (fr l k ≤ x) && decide (x < tt l k))) := rfl
      by_cases hx1 : fr l k ≤ x
      · by_cases hx2 : x < tt l k
        · go_wp2
          go_ret
          exact ⟨ret_bool (by rw [Hm.out, Hno.out (by rw [Hat.out, decide_eq_true hx1, decide_eq_true hx2]; rfl)]), rfl⟩
        · go_wp2
          go_round
          case rel => exact ⟨k + 1, by omega, by go_num, Hstep.out (by rw [Hat.out, decide_eq_false hx2]; simp)⟩
          case measure => simp [intOf]; omega
      · go_wp2
        go_round
        case rel => exact ⟨k + 1, by omega, by go_num, Hstep.out (by rw [Hat.out, decide_eq_false hx1]; rfl)⟩
        case measure => simp [intOf]; omega
    · obtain rfl : k = l.length := by omega
      go_wp2
      go_ret
      exact ⟨ret_bool (by rw [Hm.out, Hall.out]), rfl⟩
end Go.Proofs.YtohjgegnamcnlaaGreat


/- The walks of the reference's numbers: Measure, Rank, Nth, Next, Same. -/
namespace Go.Proofs.YtohjgegnamcnlaaGreat
open Go.RowKit

end Go.Proofs.YtohjgegnamcnlaaGreat

/- Lists of numbers as rows; appending a slice, whatever its address, to a row that the call owns. No program in sight. -/
namespace Go.Proofs.YtohjgegnamcnlaaGreat
open Go.RowKit

def iv (E : List Int) (k : Nat) : Int := E.getD k 0
theorem iv_mem {E : List Int} {k : Nat} (hk : k < E.length) : iv E k ∈ E := by simp [iv, hk]
theorem iv_at {E : List Int} {k : Nat} (hk : k < E.length) : E[k] = iv E k := by simp [iv, hk]
theorem mem_iv {E : List Int} {x : Int} (h : x ∈ E) : ∃ k, k < E.length ∧ x = iv E k := by
  obtain ⟨k, hk, rfl⟩ := List.mem_iff_getElem.1 h
  exact ⟨k, hk, by simp [iv, hk]⟩
attribute [irreducible] iv
def intCell (l : List Int) (i _j : Nat) : Value := .int .i64 (iv l i)
def IsInts (w : World) (v : Value) (l : List Int) : Prop := RowsIn w v l.length 1 (intCell l)
section
variable {w w' : World} {v : Value} {l : List Int} {A : Option Addr} {b off c : Nat}
theorem IsInts.below (h : IsInts w v l) (hb : Below w.heap.size w w') : IsInts w' v l := RowsIn.below h hb
theorem IsInts.alloc (h : IsInts w v l) (o : Obj) : IsInts (w.alloc o) v l := h.below ((Below.refl _ _).alloc (Nat.le_refl _) o)
theorem IsInts.bw (h : IsInts w v l) (x : BW w) : IsInts x.1 v l := RowsIn.below h x.2
theorem IsInts.form (h : IsInts w v l) : ∃ A c, v = .slice A l.length c ∧ l.length ≤ c ∧ c ≤ 9223372036854775807 := RowsIn.form h
theorem IsInts.addr (h : IsInts w (.slice A l.length c) l) (hn : 0 < l.length) : ∃ b off, A = some ⟨b, off, none⟩ ∧ b < w.heap.size := RowsIn.addr h hn
theorem IsInts.c0 (h : IsInts w (.slice (some ⟨b, off, none⟩) l.length c) l) (i : Nat) (hi : i < l.length) : w.cell? ⟨b, off + i, none⟩ = some (.int .i64 (iv l i)) := by
  have := RowsIn.cells h i 0 hi (by omega)
  simpa [intCell] using this
theorem IsInts.nil : IsInts w (.slice none 0 0) [] := RowsIn.nil
end
def flatI (l : List Int) : List Value := l.map fun x => .int .i64 x
theorem flatI_length (l : List Int) : (flatI l).length = l.length * 1 := by simp [flatI]
theorem flatI_get (l : List Int) (i : Nat) (hi : i < l.length) : (flatI l)[i]? = some (.int .i64 (iv l i)) := by simp [flatI, hi, iv_at hi]
theorem ints_of_own {w : World} {base : Nat} {e : TypeId} {v : Value} {l : List Int} (h : w.ownsRow base e 1 v l.length (flatI l)) : IsInts w v l := by
  rcases h.2 with ⟨rfl, h0⟩ | ⟨g, cap, cur, rfl, _, hg, hnc, hcm, hcur, htake⟩
  · obtain rfl : l = [] := List.length_eq_zero_iff.1 h0
    exact IsInts.nil
  · refine ⟨some ⟨g, 0, none⟩, cap, rfl, hnc, by simp only [maxLen] at hcm; omega, fun hn => ⟨g, 0, rfl, ?_, fun i j hi hj => ?_⟩⟩
    · rcases Nat.lt_or_ge g w.heap.size with hlt | hge
      · exact hlt
      · rw [Array.getElem?_eq_none hge] at hg; cases hg
    · obtain rfl : j = 0 := by omega
      have := h.cellAt i (by omega)
      rw [show (0 + i * 1 + 0) = i from by omega, this, flatI_get l i hi]; rfl
theorem flatI_cells {w : World} {l : List Int} {A : Option Addr} {c : Nat} (h : IsInts w (.slice A l.length c) l) (i n : Nat) (hin : i + n ≤ l.length) (ad : Addr) (hA : ∀ b off, A = some ⟨b, off, none⟩ → 0 < n → ad = ⟨b, off + i, none⟩) :
    ∀ j u, (flatI ((l.drop i).take n))[j]? = some u → w.cell? (ad.add j) = some u := by
  intro j u hu
  have hj : j < n := by
    rcases Nat.lt_or_ge j n with hj | hj
    · exact hj
    · rw [List.getElem?_eq_none (by simp [flatI]; omega)] at hu; cases hu
  obtain ⟨b, off, rfl, hb⟩ := h.addr (by omega)
  rw [hA b off rfl (by omega)]
  have h1 := h.c0 (i + j) (by omega)
  have h2 : u = .int .i64 (iv l (i + j)) := by
    have h3 : (flatI ((l.drop i).take n))[j]? = some (.int .i64 (iv l (i + j))) := by
      simp [flatI, hj, List.getElem?_drop, show i + j < l.length by omega, iv_at]
    rw [h3] at hu
    exact (Option.some.inj hu).symm
  rw [h2, ← h1]
  congr 1
  simp [Addr.add, Nat.add_assoc]
theorem flatI_one (l : List Int) : ∀ u ∈ flatI l, u.oneCell' = true := by
  intro u hu
  obtain ⟨x, _, rfl⟩ := List.mem_map.1 hu
  rfl
theorem own_ins {w : World} {base n K M : Nat} {e : TypeId} {v : Value} {l : List Int} {x : Int} (h : w.ownsRow base e 1 v n ([] ++ flatI ((l.drop 0).take K) ++ [.int .i64 x] ++ flatI ((l.drop K).take M))) (hn : n = 0 + K + 1 + M) (hK : K + M = l.length) :
    w.ownsRow base e 1 v (l.take K ++ [x] ++ l.drop K).length (flatI (l.take K ++ [x] ++ l.drop K)) := by
  have e1 : (l.take K ++ [x] ++ l.drop K).length = n := by simp; omega
  have e2 : flatI (l.take K ++ [x] ++ l.drop K) = [] ++ flatI ((l.drop 0).take K) ++ [.int .i64 x] ++ flatI ((l.drop K).take M) := by
    rw [List.take_of_length_le (l := l.drop K) (by simp; omega)]
    simp [flatI]
  rw [e1, e2]; exact h

theorem run_append_owned_empty {P : Program} {w : World} (base : Nat) (t ty e : TypeId) (i : TypeInfo) (size : Nat) (ht : P.underlying t = some (.slice e)) (hi : P.info? e = some i)
    (v : Value) (n : Nat) (xs : List Value) (c : Nat) (hown : w.ownsRow base e size v n xs) :
    (Builtin.append_ #[t, t] ty #[v, .slice none 0 c]).run P w = .ok v w := by
  rcases hown.2 with ⟨rfl, rfl⟩ | ⟨g, cap, cur, rfl, _, _, hnc, _⟩
  · simp [Builtin.append_, run_underlying ht, sizeOf, typeInfo, hi, Builtin.lenOf, Builtin.firstCells]
  · simp [Builtin.append_, run_underlying ht, sizeOf, typeInfo, hi, Builtin.lenOf, Builtin.firstCells, hnc, storeCells]
theorem wpList_append_own_empty {P : Program} {w : World} {ops : Array Oper} {rest : List Oper} {o : Oper} {a : Act} {Q : Exit → Act → World → Prop} (hgd : o.guard = none) (s x : Operand) (t : TypeId)
    (ho : o.op = .call { callee := .builtin .append, args := #[s, x], argTypes := #[t, t] })
    (base : Nat) (e : TypeId) (i : TypeInfo) (size : Nat) (ht : P.underlying t = some (.slice e)) (hi : P.info? e = some i)
    (v : Value) (n : Nat) (xs : List Value) (hs : a.eval s = v) (hown : w.ownsRow base e size v n xs) (c : Nat) (hx : a.eval x = .slice none 0 c)
    (h : wpList P ops Q rest (a.put o.dst v) w) : wpList P ops Q (o :: rest) a w := by
  refine wpList_plain hgd fun K hK => ?_
  have hrun := run_append_owned_empty (P := P) (w := w) base t o.type e i size ht hi v n xs c hown
  unfold Oper.wp
  simp [execOp, ho, resolve, invoke, builtin, hs, hx, hrun, Result.andThen]
  exact hK _ _ h

/-- 'append(own, x...)', x any slice, empty or not. -/
theorem append_rows {P : Program} {tS tE : TypeId} {z : Value} {size bytes : Nat} (hS : P.underlying tS = some (.slice tE)) (hE : (P.info? tE).map (fun i => (i.zero, i.size, i.bytes)) = some (some z, size, bytes))
    (hz : z.cells.size = size) (hsz : 0 < size) (hby : bytes ≤ 64)
    {ops : Array Oper} {rest : List Oper} {o : Oper} {a : Act} {Q : Exit → Act → World → Prop} (hgd : o.guard = none) (s x : Operand)
    (ho : o.op = .call { callee := .builtin .append, args := #[s, x], argTypes := #[tS, tS] })
    {w : World} (base : Nat) (v : Value) (n : Nat) (xs : List Value) (hs : a.eval s = v) (hown : w.ownsRow base tE size v n xs)
    (A : Option Addr) (m c : Nat) (hx : a.eval x = .slice A m c) (news : List Value) (hl : news.length = m * size) (hA : A = none → m = 0)
    (hnews : ∀ ad, A = some ad → ∀ j u, news[j]? = some u → w.cell? (ad.add j) = some u) (h1 : ∀ u ∈ news, u.oneCell' = true) (hlen : n + m < 1000000000) (hbase : base ≤ w.heap.size)
    (h : ∀ v' w', w'.ownsRow base tE size v' (n + m) (xs ++ news) → Below base w w' → wpList P ops Q rest (a.put o.dst v') w') :
    wpList P ops Q (o :: rest) a w := by
  obtain ⟨i, hi, hzz, hss, hbb⟩ := info_parts hE
  cases A with
  | none =>
    obtain rfl := hA rfl
    obtain rfl : news = [] := List.length_eq_zero_iff.1 (by omega)
    refine wpList_append_own_empty hgd s x tS ho base tE i size hS hi v n xs hs hown c hx (h v w ?_ (Below.refl _ _))
    simpa using hown
  | some ad =>
    have hbb2 : (n + m) * bytes ≤ 140737488355328 := Nat.le_trans (Nat.mul_le_mul_left _ hby) (by omega)
    refine wpList_append_own (P := P) (w := w) hgd s x tS ho base tE i z size bytes hS hi hzz hss hbb hz hsz v n xs hs hown ad m c news hx hl (hnews ad rfl) h1 (by unfold maxLen; omega) hbb2 hbase ?_
    intro v' w' hown' hg _
    refine h v' w' hown' ?_
    refine (Below.refl base w).grown hg hbase ?_
    intro k hk
    exact (hown.lt k hk).1
end Go.Proofs.YtohjgegnamcnlaaGreat

/- The reference's way to a result of an operation: all ends ascending, each stretch between two ends kept or not. Plain laws. -/
namespace Go.Proofs.YtohjgegnamcnlaaGreat

/-- An ascending list of numbers; its k-th number. -/
def Asc (E : List Int) : Prop := E.Pairwise (· < ·)
theorem asc_lt {E : List Int} (h : Asc E) {i j : Nat} (hij : i < j) (hj : j < E.length) : iv E i < iv E j := by
  have := List.pairwise_iff_getElem.1 h i j (by omega) hj hij
  rw [iv_at (by omega), iv_at hj] at this; exact this
theorem asc_gap {E : List Int} (h : Asc E) {i : Nat} (hi : i + 1 < E.length) {x : Int} (hx : x ∈ E) : x ≤ iv E i ∨ iv E (i + 1) ≤ x := by
  obtain ⟨k, hk, rfl⟩ := mem_iv hx
  rcases Nat.lt_trichotomy k i with h1 | rfl | h1
  · exact .inl (Int.le_of_lt (asc_lt h h1 (by omega)))
  · exact .inl (Int.le_refl _)
  · rcases Nat.lt_or_ge (i + 1) k with h2 | h2
    · exact .inr (Int.le_of_lt (asc_lt h h2 hk))
    · obtain rfl : k = i + 1 := by omega
      exact .inr (Int.le_refl _)

/-- What insert answers. -/
structure InsSpec (l : List Int) (x : Int) (r : List Int) : Prop where
  asc : Asc r
  mem : ∀ y, y ∈ r ↔ y ∈ l ∨ y = x
  len : r.length ≤ l.length + 1
theorem ins_same {l : List Int} {x : Int} (h : Asc l) (hx : x ∈ l) : InsSpec l x l := ⟨h, fun _ => ⟨.inl, fun h => h.elim id (fun e => e ▸ hx)⟩, Nat.le_succ _⟩
theorem ins_here {l : List Int} {x : Int} {i : Nat} (h : Asc l) (hi : i ≤ l.length) (h1 : ∀ k, k < i → iv l k < x) (h2 : ∀ k, i ≤ k → k < l.length → x < iv l k) : InsSpec l x (l.take i ++ [x] ++ l.drop i) := by
  have e1 : ∀ y ∈ l.take i, y < x := fun y hy => by
    obtain ⟨k, hk, rfl⟩ := List.mem_iff_getElem.1 hy
    have hk' : k < i ∧ k < l.length := by simp at hk; omega
    have := h1 k hk'.1
    rw [← iv_at hk'.2] at this; simpa using this
  have e2 : ∀ y ∈ l.drop i, x < y := fun y hy => by
    obtain ⟨k, hk, rfl⟩ := List.mem_iff_getElem.1 hy
    have hk' : i + k < l.length := by simp at hk; omega
    have := h2 (i + k) (by omega) hk'
    rw [← iv_at hk'] at this; simpa using this
  have h' : (l.take i ++ l.drop i).Pairwise (· < ·) := by rw [List.take_append_drop]; exact h
  rw [List.pairwise_append] at h'
  refine ⟨?_, fun y => ?_, by simp; omega⟩
  · unfold Asc
    rw [List.append_assoc, List.pairwise_append]
    refine ⟨h'.1, ?_, ?_⟩
    · rw [List.singleton_append, List.pairwise_cons]
      exact ⟨e2, h'.2.1⟩
    · intro a ha b hb
      rw [List.singleton_append, List.mem_cons] at hb
      rcases hb with rfl | hb
      · exact e1 a ha
      · exact h'.2.2 a ha b hb
  · conv => rhs; rw [← List.take_append_drop i l]
    simp only [List.mem_append, List.mem_singleton]
    constructor
    · rintro ((h | h) | h)
      · exact .inl (.inl h)
      · exact .inr h
      · exact .inl (.inr h)
    · rintro ((h | h) | h)
      · exact .inl (.inl h)
      · exact .inr h
      · exact .inl (.inr h)

/-- The ends of a list of spans: all of them, ascending. -/
structure EndsSpec (l : List Sp) (k : Nat) (E : List Int) : Prop where
  asc : Asc E
  mem : ∀ y, y ∈ E ↔ ∃ i, i < k ∧ i < l.length ∧ (y = fr l i ∨ y = tt l i)
  len : E.length ≤ 2 * k
theorem ends_zero (l : List Sp) : EndsSpec l 0 [] := ⟨List.Pairwise.nil, fun y => ⟨fun h => absurd h (by simp), fun ⟨i, h, _⟩ => absurd h (by omega)⟩, by simp⟩
theorem ends_step {l : List Sp} {k : Nat} {E E1 E2 : List Int} (h : EndsSpec l k E) (hk : k < l.length) (h1 : InsSpec E (fr l k) E1) (h2 : InsSpec E1 (tt l k) E2) : EndsSpec l (k + 1) E2 := by
  refine ⟨h2.asc, fun y => ?_, by have := h.len; have := h1.len; have := h2.len; omega⟩
  rw [h2.mem, h1.mem, h.mem]
  constructor
  · rintro ((⟨i, ha, hb, hc⟩ | rfl) | rfl)
    · exact ⟨i, by omega, hb, hc⟩
    · exact ⟨k, by omega, hk, .inl rfl⟩
    · exact ⟨k, by omega, hk, .inr rfl⟩
  · rintro ⟨i, ha, hb, hc⟩
    by_cases hi : i < k
    · exact .inl (.inl ⟨i, hi, hb, hc⟩)
    · obtain rfl : i = k := by omega
      rcases hc with rfl | rfl
      · exact .inl (.inr rfl)
      · exact .inr rfl

/-- What Add answers. -/
def addL (r : List Sp) (s : Sp) : List Sp := if r ≠ [] ∧ tt r (r.length - 1) = s.1 then r.take (r.length - 1) ++ [(fr r (r.length - 1), s.2)] else r ++ [s]
/-- The state of Combine behind the i-th of the ends. -/
structure KeepInv (g : Bool → Bool → Bool) (a b : List Sp) (E : List Int) (i : Nat) (r : List Sp) : Prop where
  ok : ∀ s ∈ r, s.1 < s.2 ∧ s.1 ∈ E ∧ s.2 ∈ E ∧ s.2 ≤ iv E i
  gap : r.Pairwise fun s t => s.2 < t.1
  pts : ∀ x, x < iv E i → mem r x = g (mem a x) (mem b x)
  len : r.length ≤ i
theorem mem_const {l : List Sp} {E : List Int} (hE : Asc E) (hin : ∀ s ∈ l, s.1 ∈ E ∧ s.2 ∈ E) {i : Nat} (hi : i + 1 < E.length) {x : Int} (h1 : iv E i ≤ x) (h2 : x < iv E (i + 1)) : mem l x = mem l (iv E i) := by
  rw [Bool.eq_iff_iff, mem_iff, mem_iff]
  constructor
  · rintro ⟨s, hs, h3, h4⟩
    have := asc_gap hE hi (hin s hs).1
    exact ⟨s, hs, by omega, by omega⟩
  · rintro ⟨s, hs, h3, h4⟩
    have := asc_gap hE hi (hin s hs).2
    exact ⟨s, hs, by omega, by omega⟩
theorem mem_outside {l : List Sp} {E : List Int} (hin : ∀ s ∈ l, s.1 ∈ E ∧ s.2 ∈ E) {x : Int} (h : (∀ e ∈ E, x < e) ∨ (∀ e ∈ E, e ≤ x)) : mem l x = false := by
  rw [Bool.eq_false_iff, Ne, mem_iff]
  rintro ⟨s, hs, h1, h2⟩
  rcases h with h | h
  · have := h s.1 (hin s hs).1; omega
  · have := h s.2 (hin s hs).2; omega
theorem keep_zero {g : Bool → Bool → Bool} (h0 : g false false = false) {a b : List Sp} {E : List Int} (hE : Asc E) (ha : ∀ s ∈ a, s.1 ∈ E ∧ s.2 ∈ E) (hb : ∀ s ∈ b, s.1 ∈ E ∧ s.2 ∈ E) : KeepInv g a b E 0 [] := by
  refine ⟨by simp, List.Pairwise.nil, fun x hx => ?_, by simp⟩
  have hlow : ∀ e ∈ E, x < e := fun e he => by
    obtain ⟨k, hk, rfl⟩ := mem_iv he
    rcases Nat.eq_zero_or_pos k with rfl | hp
    · exact hx
    · exact Int.lt_trans hx (asc_lt hE hp hk)
  rw [mem_outside ha (.inl hlow), mem_outside hb (.inl hlow), h0]; rfl
theorem keep_not {g : Bool → Bool → Bool} {a b : List Sp} {E : List Int} {i : Nat} {r : List Sp} (hE : Asc E) (ha : ∀ s ∈ a, s.1 ∈ E ∧ s.2 ∈ E) (hb : ∀ s ∈ b, s.1 ∈ E ∧ s.2 ∈ E)
    (h : KeepInv g a b E i r) (hi : i + 1 < E.length) (hg : g (mem a (iv E i)) (mem b (iv E i)) = false) : KeepInv g a b E (i + 1) r := by
  have hlt : iv E i < iv E (i + 1) := asc_lt hE (Nat.lt_succ_self i) hi
  refine ⟨fun s hs => ⟨(h.ok s hs).1, (h.ok s hs).2.1, (h.ok s hs).2.2.1, by have := (h.ok s hs).2.2.2; omega⟩, h.gap, fun x hx => ?_, by have := h.len; omega⟩
  by_cases hx1 : x < iv E i
  · exact h.pts x hx1
  · rw [mem_const hE ha hi (by omega) hx, mem_const hE hb hi (by omega) hx, hg, Bool.eq_false_iff, Ne, mem_iff]
    rintro ⟨s, hs, h1, h2⟩
    have := (h.ok s hs).2.2.2
    omega
theorem mem_span (p q x : Int) : mem [(p, q)] x = (decide (p ≤ x) && decide (x < q)) := by simp [mem]
theorem addL_pts {r : List Sp} {p q : Int} (hr : ∀ s ∈ r, s.1 < s.2) (hpq : p < q) (x : Int) : mem (addL r (p, q)) x = (mem r x || (decide (p ≤ x) && decide (x < q))) := by
  unfold addL
  split
  · rename_i h
    have hlen : 0 < r.length := List.length_pos_iff.2 h.1
    have hr' : r = r.take (r.length - 1) ++ [(fr r (r.length - 1), tt r (r.length - 1))] := by
      rw [← sp_at r (r.length - 1) (by omega), ← List.take_succ_eq_append_getElem (by omega), show r.length - 1 + 1 = r.length from by omega, List.take_length]
    have h2 := h.2
    have hlast := hr _ (idx_mem (l := r) (i := r.length - 1) (by omega))
    conv => rhs; rw [hr']
    simp only [mem_append, mem_span] at *
    rw [Bool.or_assoc]
    congr 1
    rw [Bool.eq_iff_iff]
    simp only [Bool.and_eq_true, Bool.or_eq_true, decide_eq_true_eq]
    omega
  · simp [mem_append, mem_span]
theorem keep_add {g : Bool → Bool → Bool} {a b : List Sp} {E : List Int} {i : Nat} {r : List Sp} (hE : Asc E) (ha : ∀ s ∈ a, s.1 ∈ E ∧ s.2 ∈ E) (hb : ∀ s ∈ b, s.1 ∈ E ∧ s.2 ∈ E)
    (h : KeepInv g a b E i r) (hi : i + 1 < E.length) (hg : g (mem a (iv E i)) (mem b (iv E i)) = true) : KeepInv g a b E (i + 1) (addL r (iv E i, iv E (i + 1))) := by
  have hlt : iv E i < iv E (i + 1) := asc_lt hE (Nat.lt_succ_self i) hi
  have m0 := iv_mem (show i < E.length by omega)
  have m1 := iv_mem hi
  have hpts : ∀ x, x < iv E (i + 1) → mem (addL r (iv E i, iv E (i + 1))) x = g (mem a x) (mem b x) := fun x hx => by
    rw [addL_pts (fun s hs => (h.ok s hs).1) hlt]
    by_cases hx1 : x < iv E i
    · rw [h.pts x hx1, decide_eq_false (by omega)]; simp
    · rw [mem_const hE ha hi (by omega) hx, mem_const hE hb hi (by omega) hx, hg, decide_eq_true (by omega), decide_eq_true hx]; simp
  revert hpts
  unfold addL
  split
  · intro hpts
    rename_i hc
    have hlen : 0 < r.length := List.length_pos_iff.2 hc.1
    have hmem := idx_mem (l := r) (i := r.length - 1) (by omega)
    have hl := h.ok _ hmem
    have hgap := h.gap
    have hr' : r = r.take (r.length - 1) ++ [(fr r (r.length - 1), tt r (r.length - 1))] := by
      rw [← sp_at r (r.length - 1) (by omega), ← List.take_succ_eq_append_getElem (by omega), show r.length - 1 + 1 = r.length from by omega, List.take_length]
    rw [hr', List.pairwise_append] at hgap
    have hsub : ∀ s ∈ r.take (r.length - 1), s ∈ r := fun s hs => List.mem_of_mem_take hs
    refine ⟨fun s hs => ?_, ?_, hpts, ?_⟩
    · rcases List.mem_append.1 hs with h1 | h1
      · have := h.ok s (hsub s h1)
        exact ⟨this.1, this.2.1, this.2.2.1, by omega⟩
      · rw [List.mem_singleton] at h1
        subst h1
        have h3 := hc.2
        simp only at hl h3 ⊢
        exact ⟨by omega, hl.2.1, m1, Int.le_refl _⟩
    · rw [List.pairwise_append]
      refine ⟨hgap.1, by simp, fun s hs t ht => ?_⟩
      rw [List.mem_singleton] at ht
      subst ht
      have h6 := hgap.2.2 s hs (fr r (r.length - 1), tt r (r.length - 1)) (by simp)
      exact h6
    · have := h.len
      simp; omega
  · intro hpts
    rename_i hc
    refine ⟨fun s hs => ?_, ?_, hpts, ?_⟩
    · rcases List.mem_append.1 hs with h1 | h1
      · have := h.ok s h1
        exact ⟨this.1, this.2.1, this.2.2.1, by omega⟩
      · rw [List.mem_singleton] at h1
        subst h1
        exact ⟨hlt, m0, m1, Int.le_refl _⟩
    · rw [List.pairwise_append]
      refine ⟨h.gap, by simp, fun s hs t ht => ?_⟩
      rw [List.mem_singleton] at ht
      subst ht
      by_cases hne : r = []
      · subst hne; simp at hs
      · have hq : tt r (r.length - 1) ≠ iv E i := fun h3 => hc ⟨hne, h3⟩
        have hlen : 0 < r.length := List.length_pos_iff.2 hne
        have hl := h.ok _ (idx_mem (l := r) (i := r.length - 1) (by omega))
        simp only at hl ⊢
        obtain ⟨k, hk, rfl⟩ := mem_idx hs
        rcases Nat.lt_or_ge k (r.length - 1) with h4 | h4
        · have h5 := List.pairwise_iff_getElem.1 h.gap k (r.length - 1) hk (by omega) h4
          rw [sp_at r k hk, sp_at r (r.length - 1) (by omega)] at h5
          simp only at h5 ⊢
          omega
        · obtain rfl : k = r.length - 1 := by omega
          simp only
          omega
    · have := h.len
      simp; omega
theorem keep_end {g : Bool → Bool → Bool} (h0 : g false false = false) {a b : List Sp} {E : List Int} {i : Nat} {r : List Sp} (hE : Asc E) (ha : ∀ s ∈ a, s.1 ∈ E ∧ s.2 ∈ E) (hb : ∀ s ∈ b, s.1 ∈ E ∧ s.2 ∈ E)
    (hbd : ∀ e ∈ E, -4398046511104 ≤ e ∧ e ≤ 4398046511104) (h : KeepInv g a b E i r) (hi : E.length ≤ i + 1) (hi2 : i = 0 ∨ i < E.length) : Canon r ∧ ∀ x, mem r x = g (mem a x) (mem b x) := by
  refine ⟨⟨fun s hs => ?_, h.gap⟩, fun x => ?_⟩
  · obtain ⟨h1, h2, h3, _⟩ := h.ok s hs
    have := hbd _ h2
    have := hbd _ h3
    unfold OkSp
    omega
  · by_cases hx : x < iv E i
    · exact h.pts x hx
    · have hup : ∀ e ∈ E, e ≤ x := fun e he => by
        obtain ⟨k, hk, rfl⟩ := mem_iv he
        rcases Nat.lt_or_ge k i with h4 | h4
        · have := asc_lt hE h4 (by omega); omega
        · obtain rfl : k = i := by omega
          omega
      rw [mem_outside ha (.inr hup), mem_outside hb (.inr hup), h0]
      exact mem_outside (fun s hs => ⟨(h.ok s hs).2.1, (h.ok s hs).2.2.1⟩) (.inr hup)
end Go.Proofs.YtohjgegnamcnlaaGreat

/- The walks of the reference's insert and Ends. -/
namespace Go.Proofs.YtohjgegnamcnlaaGreat
open Go.RowKit

theorem tInts : Tryz.prog.underlying 23 = some (.slice 3) := Tryz.underlying23
theorem tIntInfo : (Tryz.prog.info? 3).map (fun i => (i.zero, i.size, i.bytes)) = some (some (.int .i64 0), 1, 8) := by kernel_rfl
/-- A list of numbers handed back. -/
def RetIns (w : World) (S : List Int → Prop) (e : Ending) (w' : World) : Prop := ∃ r v, S r ∧ e = .returned v ∧ IsInts w' v r ∧ Below w.heap.size w w'

theorem r12insert_c (v : Value) (l : List Int) (x : Int) (w : World) (hs : IsInts w v l) (ha : Asc l) (hl : l.length ≤ 100000) :
    Calls Tryz.prog 147 #[v, .int .i64 x] w (RetIns w (InsSpec l x)) := by
  obtain ⟨A, c, rfl, hnc, hc⟩ := hs.form
  go_enter Tryz.func147, Tryz.ntmps147
  go_wp2
  go_loopw [5] (fun i wr => ∃ k : Nat, k ≤ l.length ∧ i = .int .i64 k ∧ Hid (∀ j, k ≤ j → j < l.length → x ≤ iv l j) ∧ Below w.heap.size w wr) (fun i _ => (intOf i).toNat)
  case atStart => exact ⟨l.length, Nat.le_refl _, rfl, fun j h1 h2 => by omega, Below.refl _ _⟩
  case round =>
    obtain ⟨k, hk, rfl, Hge, hb⟩ := hrel
    by_cases hcont : 0 < k ∧ x ≤ iv l (k - 1)
    · obtain ⟨hk0, hx⟩ := hcont
      obtain ⟨g, off, rfl, hbk⟩ := hs.addr (by omega)
      have c0 := (hs.below hb).c0 (k - 1) (by omega)
      have hge : ∀ j, k - 1 ≤ j → j < l.length → x ≤ iv l j := fun j h1 h2 => by
        rcases Nat.eq_or_lt_of_le h1 with h | h
        · rw [← h]; exact hx
        · exact Hge.out j (by omega) h2
      have Hge2 := Lib.hid hge; clear hge
      go_wp2
      go_roundw
      case rel => exact ⟨k - 1, by omega, by go_num, Hge2.out, hb⟩
      case measure => simp [intOf]; omega
    · have hlow : ∀ j, j < k → iv l j < x := fun j hj => by
        have h1 : iv l (k - 1) < x := by
          rcases Int.lt_or_le (iv l (k - 1)) x with h | h
          · exact h
          · exact absurd ⟨by omega, h⟩ hcont
        rcases Nat.eq_or_lt_of_le (show j ≤ k - 1 by omega) with h | h
        · rw [h]; exact h1
        · have := asc_lt ha h (by omega); omega
      by_cases hke : k < l.length
      · obtain ⟨g, off, rfl, hbk⟩ := hs.addr (by omega)
        have hgek := Hge.out k (Nat.le_refl _) hke
        have ck := (hs.below hb).c0 k hke
        have ck0 : k = 0 → wr.cell? ⟨g, off, none⟩ = some (.int .i64 (iv l 0)) := fun h => by subst h; exact ck
        by_cases heq : iv l k = x
        · have hres := ins_same ha (iv_mem hke)
          rw [heq] at hres
          have Hres := Lib.hid hres; clear hres
          rcases Nat.eq_zero_or_pos k with hz | hz
          · have ck0 := ck0 hz
            subst hz
            clear ck
            go_wp2
            go_ret
            exact ⟨l, _, Hres.out, rfl, hs.below hb, hb⟩
          · have c0 := (hs.below hb).c0 (k - 1) (by omega)
            have hx1 := hlow (k - 1) (by omega)
            go_wp2
            go_ret
            exact ⟨l, _, Hres.out, rfl, hs.below hb, hb⟩
        · have hres := ins_here (x := x) ha hk hlow (fun j h1 h2 => by
            rcases Nat.eq_or_lt_of_le h1 with h | h
            · rw [← h]; omega
            · have := asc_lt ha h h2; omega)
          have Hres := Lib.hid hres; clear hres
          rcases Nat.eq_zero_or_pos k with hz | hz
          · have ck0 := ck0 hz
            subst hz
            clear ck
            go_wp2_with (first
              | (at_builtin; refine append_rows tInts tIntInfo rfl (by omega) (by omega) rfl (.tmp 35) (.tmp 38) rfl w.heap.size _ 0 [] rfl (World.ownsRow_made wr #[] 0 hb.size (by unfold maxLen; omega) rfl) _ 0 _ rfl (flatI ((l.drop 0).take 0)) (by rw [flatI_length, List.drop_zero, List.length_take]; omega) (by intro h; cases h) (fun ad had => flatI_cells ((hs.below hb).alloc _) 0 0 (by omega) ad (fun b' off' h _ => by have h3 := had.symm.trans h; cases h3; rfl)) (flatI_one _) (by omega) (Nat.le_trans hb.size (by simp)) ?_; intro v1 w1 hown1 hb1; have hb1 := (hb.alloc hb.size _).trans hb1)
              | (at_builtin; refine append_rows tInts tIntInfo rfl (by omega) (by omega) rfl (.tmp 40) (.tmp 42) rfl w.heap.size _ _ _ rfl (hown1.alloc _) _ 1 1 rfl [.int .i64 x] rfl (by simp) (by intro ad hd j u hu; cases hd; rcases j with _ | j <;> simp at hu; subst hu; simp [Addr.add]) (by simp [Value.oneCell']) (by omega) (Nat.le_trans hb1.size (by simp)) ?_; intro v2 w2 hown2 hb2; have hb2 := (hb1.alloc hb1.size _).trans hb2)
              | (at_builtin; refine append_rows tInts tIntInfo rfl (by omega) (by omega) rfl (.tmp 44) (.tmp 47) rfl w.heap.size _ _ _ rfl hown2 _ l.length _ rfl (flatI ((l.drop 0).take l.length)) (by rw [flatI_length, List.length_take, List.length_drop]; omega) (by first | exact fun _ => rfl | (intro h; cases h)) (fun ad had => flatI_cells (hs.below hb2) 0 l.length (by omega) ad (fun b' off' h hn => by first | exact absurd hn (Nat.lt_irrefl 0) | (cases h; cases had; rfl))) (flatI_one _) (by omega) hb2.size ?_; intro v3 w3 hown3 hb3; have hb3 := hb2.trans hb3))
            go_ret
            exact ⟨_, v3, Hres.out, rfl, ints_of_own (own_ins (K := 0) hown3 (by omega) (by omega)), hb3⟩
          · have c0 := (hs.below hb).c0 (k - 1) (by omega)
            have hx1 := hlow (k - 1) (by omega)
            go_wp2_with (first
              | (at_builtin; refine append_rows tInts tIntInfo rfl (by omega) (by omega) rfl (.tmp 35) (.tmp 38) rfl w.heap.size _ 0 [] rfl (World.ownsRow_made wr #[] 0 hb.size (by unfold maxLen; omega) rfl) _ k _ rfl (flatI ((l.drop 0).take k)) (by rw [flatI_length, List.drop_zero, List.length_take]; omega) (by intro h; cases h) (fun ad had => flatI_cells ((hs.below hb).alloc _) 0 k (by omega) ad (fun b' off' h _ => by have h3 := had.symm.trans h; cases h3; rfl)) (flatI_one _) (by omega) (Nat.le_trans hb.size (by simp)) ?_; intro v1 w1 hown1 hb1; have hb1 := (hb.alloc hb.size _).trans hb1)
              | (at_builtin; refine append_rows tInts tIntInfo rfl (by omega) (by omega) rfl (.tmp 40) (.tmp 42) rfl w.heap.size _ _ _ rfl (hown1.alloc _) _ 1 1 rfl [.int .i64 x] rfl (by simp) (by intro ad hd j u hu; cases hd; rcases j with _ | j <;> simp at hu; subst hu; simp [Addr.add]) (by simp [Value.oneCell']) (by omega) (Nat.le_trans hb1.size (by simp)) ?_; intro v2 w2 hown2 hb2; have hb2 := (hb1.alloc hb1.size _).trans hb2)
              | (at_builtin; refine append_rows tInts tIntInfo rfl (by omega) (by omega) rfl (.tmp 44) (.tmp 47) rfl w.heap.size _ _ _ rfl hown2 _ (l.length - k) _ rfl (flatI ((l.drop k).take (l.length - k))) (by rw [flatI_length, List.length_take, List.length_drop]; omega) (by first | exact fun _ => rfl | (intro h; cases h)) (fun ad had => flatI_cells (hs.below hb2) k (l.length - k) (by omega) ad (fun b' off' h hn => by first | exact absurd hn (Nat.lt_irrefl 0) | (cases h; cases had; rfl))) (flatI_one _) (by omega) hb2.size ?_; intro v3 w3 hown3 hb3; have hb3 := hb2.trans hb3))
            go_ret
            exact ⟨_, v3, Hres.out, rfl, ints_of_own (own_ins (K := k) hown3 (by omega) (by omega)), hb3⟩
      · obtain rfl : k = l.length := by omega
        have hres := ins_here (x := x) ha hk hlow (fun j h1 h2 => absurd h2 (by omega))
        have Hres := Lib.hid hres; clear hres
        rcases Nat.eq_zero_or_pos l.length with hz | hz
        · have hres2 : InsSpec l x (l.take 0 ++ [x] ++ l.drop 0) := by have h := Hres.out; rw [hz] at h; exact h
          have Hres := Lib.hid hres2; clear hres2
          go_wp2_with (first
            | (at_builtin; refine append_rows tInts tIntInfo rfl (by omega) (by omega) rfl (.tmp 35) (.tmp 38) rfl w.heap.size _ 0 [] rfl (World.ownsRow_made wr #[] 0 hb.size (by unfold maxLen; omega) rfl) _ 0 _ rfl (flatI ((l.drop 0).take 0)) (by rw [flatI_length, List.drop_zero, List.length_take]; omega) (fun _ => rfl) (fun ad had => flatI_cells ((hs.below hb).alloc _) 0 0 (by omega) ad (fun b' off' h _ => by have h3 := had.symm.trans h; cases h3; rfl)) (flatI_one _) (by omega) (Nat.le_trans hb.size (by simp)) ?_; intro v1 w1 hown1 hb1; have hb1 := (hb.alloc hb.size _).trans hb1)
            | (at_builtin; refine append_rows tInts tIntInfo rfl (by omega) (by omega) rfl (.tmp 40) (.tmp 42) rfl w.heap.size _ _ _ rfl (hown1.alloc _) _ 1 1 rfl [.int .i64 x] rfl (by simp) (by intro ad hd j u hu; cases hd; rcases j with _ | j <;> simp at hu; subst hu; simp [Addr.add]) (by simp [Value.oneCell']) (by omega) (Nat.le_trans hb1.size (by simp)) ?_; intro v2 w2 hown2 hb2; have hb2 := (hb1.alloc hb1.size _).trans hb2)
            | (at_builtin; refine append_rows tInts tIntInfo rfl (by omega) (by omega) rfl (.tmp 44) (.tmp 47) rfl w.heap.size _ _ _ rfl hown2 _ 0 _ rfl (flatI ((l.drop 0).take 0)) (by rw [flatI_length, List.length_take, List.length_drop]; omega) (by first | exact fun _ => rfl | (intro h; cases h)) (fun ad had => flatI_cells (hs.below hb2) 0 0 (by omega) ad (fun b' off' h hn => by first | exact absurd hn (Nat.lt_irrefl 0) | (cases h; cases had; rfl))) (flatI_one _) (by omega) hb2.size ?_; intro v3 w3 hown3 hb3; have hb3 := hb2.trans hb3))
          go_ret
          exact ⟨_, v3, Hres.out, rfl, ints_of_own (own_ins (K := 0) hown3 (by omega) (by omega)), hb3⟩
        · obtain ⟨g, off, rfl, hbk⟩ := hs.addr (by omega)
          have c0 := (hs.below hb).c0 (l.length - 1) (by omega)
          have hx1 := hlow (l.length - 1) (by omega)
          go_wp2_with (first
            | (at_builtin; refine append_rows tInts tIntInfo rfl (by omega) (by omega) rfl (.tmp 35) (.tmp 38) rfl w.heap.size _ 0 [] rfl (World.ownsRow_made wr #[] 0 hb.size (by unfold maxLen; omega) rfl) _ l.length _ rfl (flatI ((l.drop 0).take l.length)) (by rw [flatI_length, List.drop_zero, List.length_take]; omega) (by intro h; cases h) (fun ad had => flatI_cells ((hs.below hb).alloc _) 0 l.length (by omega) ad (fun b' off' h _ => by have h3 := had.symm.trans h; cases h3; rfl)) (flatI_one _) (by omega) (Nat.le_trans hb.size (by simp)) ?_; intro v1 w1 hown1 hb1; have hb1 := (hb.alloc hb.size _).trans hb1)
            | (at_builtin; refine append_rows tInts tIntInfo rfl (by omega) (by omega) rfl (.tmp 40) (.tmp 42) rfl w.heap.size _ _ _ rfl (hown1.alloc _) _ 1 1 rfl [.int .i64 x] rfl (by simp) (by intro ad hd j u hu; cases hd; rcases j with _ | j <;> simp at hu; subst hu; simp [Addr.add]) (by simp [Value.oneCell']) (by omega) (Nat.le_trans hb1.size (by simp)) ?_; intro v2 w2 hown2 hb2; have hb2 := (hb1.alloc hb1.size _).trans hb2)
            | (at_builtin; refine append_rows tInts tIntInfo rfl (by omega) (by omega) rfl (.tmp 44) (.tmp 47) rfl w.heap.size _ _ _ rfl hown2 _ 0 _ rfl (flatI ((l.drop l.length).take 0)) (by rw [flatI_length, List.length_take, List.length_drop]; omega) (by first | exact fun _ => rfl | (intro h; cases h)) (fun ad had => flatI_cells (hs.below hb2) l.length 0 (by omega) ad (fun b' off' h hn => by first | exact absurd hn (Nat.lt_irrefl 0) | (cases h; cases had; rfl))) (flatI_one _) (by omega) hb2.size ?_; intro v3 w3 hown3 hb3; have hb3 := hb2.trans hb3))
          go_ret
          exact ⟨_, v3, Hres.out, rfl, ints_of_own (own_ins (K := l.length) hown3 (by omega) (by omega)), hb3⟩
          go_ret
          exact ⟨_, v3, Hres.out, rfl, ints_of_own (own_ins (K := l.length) hown3 (by omega) (by omega)), hb3⟩

theorem r12Ends_c (v : Value) (l : List Sp) (w : World) (hs : IsSpans w v l) (hl : l.length ≤ 10000) :
    Calls Tryz.prog 111 #[v] w (RetIns w (EndsSpec l l.length)) := by
  obtain ⟨A, c, rfl, hnc, hc⟩ := hs.form
  go_enter Tryz.func111, Tryz.ntmps111
  go_wp2
  go_loopw [3, 4] (fun o i wr => ∃ (k : Nat) (E : List Int), i = .int .i64 k ∧ k ≤ l.length ∧ Hid (EndsSpec l k E) ∧ IsInts wr o E ∧ Below w.heap.size w wr) (fun _ i _ => l.length - (intOf i).toNat)
  case atStart => exact ⟨0, [], rfl, Nat.zero_le _, ends_zero l, IsInts.nil, Below.refl _ _⟩
  case round =>
    obtain ⟨k, E, rfl, hk, HE, hE, hb⟩ := hrel
    by_cases hlt : k < l.length
    · obtain ⟨g, off, rfl, hbk⟩ := hs.addr (by omega)
      have c0 := (hs.below hb).c0 k hlt
      have c1 := (hs.below hb).c1 k hlt
      have hlen := HE.out.len
      go_wp2_with fail
      refine (r12insert_c _ E _ _ hE HE.out.asc (by omega)).mono ?_
      rintro e w1 ⟨E1, o1, h1, rfl, hE1, hb1⟩
      have H1 := Lib.hid h1; clear h1
      have hb1 := hb.trans (hb1.mono hb.size)
      have c0 := (hs.below hb1).c0 k hlt
      have c1 := (hs.below hb1).c1 k hlt
      have hlen1 := H1.out.len
      go_wp2_with fail
      refine (r12insert_c _ E1 _ _ hE1 H1.out.asc (by omega)).mono ?_
      rintro e w2 ⟨E2, o2, h2, rfl, hE2, hb2⟩
      have H2 := Lib.hid h2; clear h2
      have hb2 := hb1.trans (hb2.mono hb1.size)
      have hres := ends_step HE.out hlt H1.out H2.out
      have Hres := Lib.hid hres; clear hres
      go_wp2
      go_roundw
      case rel => exact ⟨k + 1, E2, by go_num, by omega, Hres.out, hE2, hb2⟩
      case measure => simp [intOf]; omega
    · obtain rfl : k = l.length := by omega
      go_wp2
      go_ret
      exact ⟨E, _, HE.out, rfl, hE, hb⟩
end Go.Proofs.YtohjgegnamcnlaaGreat

/- The walks of the reference's Add, keep, Combine, full. -/
namespace Go.Proofs.YtohjgegnamcnlaaGreat
open Go.RowKit

/-- A list of the call's own handed back. -/
def RetOwn (base : Nat) (w : World) (r : List Sp) (e : Ending) (w' : World) : Prop := ∃ v', e = .returned v' ∧ w'.ownsRow base 34 2 v' r.length (flat r) ∧ Below base w w'
theorem own_form {w : World} {base : Nat} {e : TypeId} {v : Value} {r : List Sp} (h : w.ownsRow base e 2 v r.length (flat r)) (hr : 0 < r.length) : ∃ g cap, v = .slice (some ⟨g, 0, none⟩) r.length cap ∧ base ≤ g ∧ g < w.heap.size ∧ r.length ≤ cap ∧ cap ≤ 9223372036854775807 := by
  rcases h.2 with ⟨_, h0⟩ | ⟨g, cap, cur, rfl, hb, hg, hnc, hcm, _⟩
  · omega
  · exact ⟨g, cap, rfl, hb, (Array.getElem?_eq_some_iff.1 hg).1, hnc, by simp only [maxLen] at hcm; omega⟩
theorem flat_last {r : List Sp} {q : Int} (hr : 0 < r.length) : (flat r).set ((r.length - 1) * 2 + 1) (.int .i64 q) = flat (r.take (r.length - 1) ++ [(fr r (r.length - 1), q)]) := by
  have hr' : r = r.take (r.length - 1) ++ [(fr r (r.length - 1), tt r (r.length - 1))] := by
    rw [← sp_at r (r.length - 1) (by omega), ← List.take_succ_eq_append_getElem (by omega), show r.length - 1 + 1 = r.length from by omega, List.take_length]
  rw [flat_snoc]
  conv => lhs; rw [hr', flat_snoc]
  have hl : (flat (r.take (r.length - 1))).length = (r.length - 1) * 2 := by rw [flat_length, List.length_take]; omega
  have hl2 : (r.take (r.length - 1) ++ [(fr r (r.length - 1), tt r (r.length - 1))]).length = r.length := by rw [← hr']
  rw [hl2, List.set_append_right _ _ (by omega), hl, show (r.length - 1) * 2 + 1 - (r.length - 1) * 2 = 1 from by omega]
  rfl
theorem addL_push {r : List Sp} {p q : Int} (h : ¬ (0 < r.length ∧ tt r (r.length - 1) = p)) : addL r (p, q) = r ++ [(p, q)] := by
  unfold addL
  rw [if_neg]
  rintro ⟨h1, h2⟩
  exact h ⟨List.length_pos_iff.2 h1, h2⟩
theorem addL_join {r : List Sp} {p q : Int} (h : 0 < r.length) (h2 : tt r (r.length - 1) = p) : addL r (p, q) = r.take (r.length - 1) ++ [(fr r (r.length - 1), q)] := by
  unfold addL
  rw [if_pos ⟨List.length_pos_iff.1 h, h2⟩]
theorem join_len {r : List Sp} {s : Sp} (h : 0 < r.length) : (r.take (r.length - 1) ++ [s]).length = r.length := by simp; omega

theorem r12Add_c (v : Value) (r : List Sp) (p q : Int) (w : World) (base : Nat) (hown : w.ownsRow base 34 2 v r.length (flat r)) (hbase : base ≤ w.heap.size) (hl : r.length ≤ 100000) :
    Calls Tryz.prog 114 #[v, .agg #[.int .i64 p, .int .i64 q]] w (RetOwn base w (addL r (p, q))) := by
  have hal := (Below.refl base w).alloc hbase (.cells #[.int .i64 p, .int .i64 q] 34)
  have hown1 := hown.alloc (.cells #[.int .i64 p, .int .i64 q] 34)
  have b0 : (w.alloc (.cells #[.int .i64 p, .int .i64 q] 34)).cell? ⟨w.heap.size, 0, none⟩ = some (.int .i64 p) := by simp
  have b1 : (w.alloc (.cells #[.int .i64 p, .int .i64 q] 34)).cell? ⟨w.heap.size, 1, none⟩ = some (.int .i64 q) := by simp
  have hgt : w.heap.size < (w.alloc (.cells #[.int .i64 p, .int .i64 q] 34)).heap.size := by simp
  by_cases hr : 0 < r.length
  · obtain ⟨g, cap, rfl, hgb, hglt, hcap, hcm⟩ := own_form hown hr
    have hsp := spans_of_own hown1
    cases hp : (tt r (r.length - 1) == p)
    · have Hadd := Lib.hid (addL_push (q := q) (r := r) (p := p) (fun h => by rw [h.2] at hp; simp at hp))
      go_enter Tryz.func114, Tryz.ntmps114
      go_wp2_with fail
      generalize w.alloc (.cells #[.int .i64 p, .int .i64 q] 34) = w1 at *
      have e1 := fun x : BW w1 => (hsp.bw x).c1 (r.length - 1) (by omega)
      have e0 := fun x : BW w1 => bw_cell x b0 hgt
      simp only [Nat.zero_add] at e1
      refine wp_region_below (by kernel_rfl) (by kernel_rfl) ?_
      repeat (go_big_quiet_step (fail))
      refine wpQuiet_nil ?_
      rintro w2 ⟨⟨_, hb2⟩, rfl⟩
      have hown2 := own_below hown1 hb2 (Nat.le_refl _)
      have b0 := (hb2.cell (p := ⟨w.heap.size, 0, none⟩) hgt).trans b0
      have b1 := (hb2.cell (p := ⟨w.heap.size, 1, none⟩) hgt).trans b1
      have hB := hal.trans (hb2.mono (Nat.le_trans hbase hal.size))
      clear e0 e1
      go_wp2_with (at_builtin; refine append_span tSpans tSpanInfo (by rfl) (.tmp 29) (.tmp 31) (by rfl) base _ r _ _ (by rfl) hown2 (by rfl) (by omega) (Nat.le_trans hbase hB.size) ?_; intro v3 w3 hown3 hb3; have hB := hB.trans hb3)
      go_ret
      exact ⟨v3, rfl, by rw [Hadd.out]; exact hown3, hB⟩
    · have hp' : tt r (r.length - 1) = p := by simpa using hp
      have Hadd := Lib.hid (addL_join (q := q) hr hp')
      clear hp'
      go_enter Tryz.func114, Tryz.ntmps114
      go_wp2_with fail
      generalize w.alloc (.cells #[.int .i64 p, .int .i64 q] 34) = w1 at *
      have e1 := fun x : BW w1 => (hsp.bw x).c1 (r.length - 1) (by omega)
      have e0 := fun x : BW w1 => bw_cell x b0 hgt
      simp only [Nat.zero_add] at e1
      refine wp_region_below (by kernel_rfl) (by kernel_rfl) ?_
      repeat (go_big_quiet_step (fail))
      refine wpQuiet_nil ?_
      rintro w2 ⟨⟨_, hb2⟩, rfl⟩
      have hown2 := own_below hown1 hb2 (Nat.le_refl _)
      have b0 := (hb2.cell (p := ⟨w.heap.size, 0, none⟩) hgt).trans b0
      have b1 := (hb2.cell (p := ⟨w.heap.size, 1, none⟩) hgt).trans b1
      have hB := hal.trans (hb2.mono (Nat.le_trans hbase hal.size))
      clear e0 e1
      have f1 := hown2.frozenAt ((r.length - 1) * 2 + 1)
      have hst := (hown2.stored ((r.length - 1) * 2 + 1) (.int .i64 q)).1
      rw [flat_last hr] at hst
      have hB2 : Below base w (w2.setCell ⟨g, (r.length - 1) * 2 + 1, none⟩ (.int .i64 q)) := hB.setCell hgb _
      have Hst := Lib.hid hst; clear hst
      have HB2 := Lib.hid hB2; clear hB2
      have c1 := (spans_of_own hown2).c1 (r.length - 1) (by omega)
      rw [Nat.zero_add] at c1
      go_wp2
      go_ret
      refine ⟨_, rfl, ?_, HB2.out⟩
      rw [Hadd.out, join_len hr]
      exact Hst.out
  · obtain rfl : r = [] := List.length_eq_zero_iff.1 (by omega)
    obtain ⟨A, cap, rfl⟩ : ∃ A cap, v = .slice A 0 cap := by
      rcases hown.2 with ⟨h, _⟩ | ⟨g, cap, cur, h, _⟩
      · exact ⟨_, _, h⟩
      · exact ⟨_, _, h⟩
    have Hadd := Lib.hid (addL_push (q := q) (r := []) (p := p) (fun h => hr h.1))
    go_enter Tryz.func114, Tryz.ntmps114
    go_wp2_with fail
    generalize w.alloc (.cells #[.int .i64 p, .int .i64 q] 34) = w1 at *
    have e0 := fun x : BW w1 => bw_cell x b0 hgt
    refine wp_region_below (by kernel_rfl) (by kernel_rfl) ?_
    repeat (go_big_quiet_step (fail))
    refine wpQuiet_nil ?_
    rintro w2 ⟨⟨_, hb2⟩, rfl⟩
    have hown2 := own_below hown1 hb2 (Nat.le_refl _)
    have b0 := (hb2.cell (p := ⟨w.heap.size, 0, none⟩) hgt).trans b0
    have b1 := (hb2.cell (p := ⟨w.heap.size, 1, none⟩) hgt).trans b1
    have hB := hal.trans (hb2.mono (Nat.le_trans hbase hal.size))
    clear e0
    go_wp2_with (at_builtin; refine append_span tSpans tSpanInfo (by rfl) (.tmp 29) (.tmp 31) (by rfl) base _ [] _ _ (by rfl) hown2 (by rfl) (by simp) (Nat.le_trans hbase hB.size) ?_; intro v3 w3 hown3 hb3; have hB := hB.trans hb3)
    go_ret
    exact ⟨v3, rfl, by rw [Hadd.out]; exact hown3, hB⟩
end Go.Proofs.YtohjgegnamcnlaaGreat


/- The walks of the reference's keep, Combine, full, Apply, Not. -/
namespace Go.Proofs.YtohjgegnamcnlaaGreat
open Go.RowKit

def KeepOf (kind : Int) (g : Bool → Bool → Bool) : Prop := ∀ (x y : Bool) (w : World), Calls Tryz.prog 112 #[.int .i64 kind, .bool x, .bool y] w fun e w' => e = .returned (.bool (g x y)) ∧ w = w'
theorem keep_union : KeepOf 1 gUnion := fun x y w => by
  cases x <;> cases y
  all_goals
    go_enter Tryz.func112, Tryz.ntmps112
    go_wp2
    go_ret
    exact ⟨rfl, rfl⟩
theorem keep_meet : KeepOf 2 gMeet := fun x y w => by
  cases x <;> cases y
  all_goals
    go_enter Tryz.func112, Tryz.ntmps112
    go_wp2
    go_ret
    exact ⟨rfl, rfl⟩
theorem keep_minus : KeepOf 3 gMinus := fun x y w => by
  cases x <;> cases y
  all_goals
    go_enter Tryz.func112, Tryz.ntmps112
    go_wp2
    go_ret
    exact ⟨rfl, rfl⟩
theorem keep_either : KeepOf 4 gEither := fun x y w => by
  cases x <;> cases y
  all_goals
    go_enter Tryz.func112, Tryz.ntmps112
    go_wp2
    go_ret
    exact ⟨rfl, rfl⟩

theorem flat_cells {w : World} {l : List Sp} {A : Option Addr} {c : Nat} (h : IsSpans w (.slice A l.length c) l) (ad : Addr) (hA : A = some ad) : ∀ j u, (flat l)[j]? = some u → w.cell? (ad.add j) = some u := by
  intro j u hu
  have hj : j < l.length * 2 := by
    rw [← flat_length]
    exact (List.getElem?_eq_some_iff.1 hu).1
  obtain ⟨b, off, rfl, hb⟩ := h.addr (by omega)
  injection hA with hA
  subst hA
  have h1 := RowsIn.cells h (j / 2) (j % 2) (by omega) (by omega)
  have h2 := flat_get l (j / 2) (j % 2) (by omega) (by omega)
  rw [show j / 2 * 2 + j % 2 = j from by omega, hu] at h2
  have e1 : (⟨b, off, none⟩ : Addr).add j = ⟨b, off + j / 2 * 2 + j % 2, none⟩ := by
    have e2 : off + j / 2 * 2 + j % 2 = off + j := by omega
    rw [e2]
    simp [Addr.add]
  rw [h2, e1, ← h1]
theorem flat_one (l : List Sp) : ∀ u ∈ flat l, u.oneCell' = true := by
  intro u hu
  obtain ⟨s, _, hs⟩ := List.mem_flatMap.1 hu
  simp at hs
  rcases hs with rfl | rfl <;> rfl
theorem own_cat {w : World} {base n : Nat} {e : TypeId} {v : Value} {a b : List Sp} (h : w.ownsRow base e 2 v n ([] ++ flat a ++ flat b)) (hn : n = 0 + a.length + b.length) : w.ownsRow base e 2 v (a ++ b).length (flat (a ++ b)) := by
  have e1 : (a ++ b).length = n := by simp; omega
  have e2 : flat (a ++ b) = [] ++ flat a ++ flat b := by simp [flat]
  rw [e1, e2]; exact h
theorem ends_all {l : List Sp} {E : List Int} (h : EndsSpec l l.length E) : ∀ s ∈ l, s.1 ∈ E ∧ s.2 ∈ E := fun s hs => by
  obtain ⟨i, hi, rfl⟩ := mem_idx hs
  exact ⟨(h.mem _).2 ⟨i, hi, hi, .inl rfl⟩, (h.mem _).2 ⟨i, hi, hi, .inr rfl⟩⟩
theorem ends_bd {l : List Sp} {E : List Int} (h : EndsSpec l l.length E) (hl : ∀ s ∈ l, OkSp s) : ∀ e ∈ E, -4398046511104 ≤ e ∧ e ≤ 4398046511104 := fun e he => by
  obtain ⟨i, hi, _, h1⟩ := (h.mem e).1 he
  have := hl _ (idx_mem (l := l) (i := i) hi)
  unfold OkSp at this
  simp only at this
  rcases h1 with rfl | rfl <;> omega
/-- A list handed back, known by a law. -/
def RetS (w : World) (S : List Sp → Prop) (e : Ending) (w' : World) : Prop := ∃ r, S r ∧ RetL w r e w'
def CombSpec (g : Bool → Bool → Bool) (a b r : List Sp) : Prop := Canon r ∧ (∀ x, mem r x = g (mem a x) (mem b x)) ∧ r.length ≤ 2 * a.length + 2 * b.length
theorem below_drew (B : Nat) (w : World) : Below B w w.drew := ⟨rfl, rfl, rfl, Nat.le_refl _, fun _ _ => rfl⟩

set_option maxRecDepth 100000 in
theorem r12Combine_c (kind : Int) (g : Bool → Bool → Bool) (hk : KeepOf kind g) (h0 : g false false = false) (v1 v2 : Value) (a b : List Sp) (w : World) (h1 : IsSpans w v1 a) (h2 : IsSpans w v2 b)
    (ha : ∀ s ∈ a, OkSp s) (hb : ∀ s ∈ b, OkSp s) (hla : a.length ≤ 2500) (hlb : b.length ≤ 2500) :
    Calls Tryz.prog 96 #[.int .i64 kind, v1, v2] w (RetS w (CombSpec g a b)) := by
  obtain ⟨A, c, rfl, hnc, hc⟩ := h1.form
  obtain ⟨B, d, rfl, hnd, hd⟩ := h2.form
  have hHa := Lib.hid ha; clear ha
  have hHb := Lib.hid hb; clear hb
  have Hk := Lib.hid hk; clear hk
  have H0 := Lib.hid h0; clear h0
  have nA : A = none → a.length = 0 := fun h => by
    rcases Nat.eq_zero_or_pos a.length with h3 | h3
    · exact h3
    · obtain ⟨b', off, h4, _⟩ := h1.addr h3; rw [h] at h4; cases h4
  have nB : B = none → b.length = 0 := fun h => by
    rcases Nat.eq_zero_or_pos b.length with h3 | h3
    · exact h3
    · obtain ⟨b', off, h4, _⟩ := h2.addr h3; rw [h] at h4; cases h4
  have HnA := Lib.hid nA; clear nA
  have HnB := Lib.hid nB; clear nB
  go_enter Tryz.func96, Tryz.ntmps96
  go_wp2_with (first
    | (at_builtin; refine append_rows tSpans tSpanInfo rfl (by omega) (by omega) rfl (.tmp 10) (.tmp 11) rfl w.heap.size _ 0 [] rfl (World.ownsRow_made w #[] 0 (Nat.le_refl _) (by unfold maxLen; omega) rfl) _ a.length _ rfl (flat a) (flat_length a) HnA.out (fun ad had => flat_cells (h1.alloc _) ad had) (flat_one a) (by omega) (by simp) ?_; intro v3 w1 hown1 hb1; have hb1 := ((Below.refl w.heap.size w).alloc (Nat.le_refl _) _).trans hb1)
    | (at_builtin; refine append_rows tSpans tSpanInfo rfl (by omega) (by omega) rfl (.tmp 12) (.tmp 13) rfl w.heap.size _ _ _ rfl hown1 _ b.length _ rfl (flat b) (flat_length b) HnB.out (fun ad had => flat_cells (h2.below hb1) ad had) (flat_one b) (by omega) hb1.size ?_; intro v4 w2 hown2 hb2; have hb2 := hb1.trans hb2)
    | fail)
  have hcat := own_cat hown2 rfl
  have hab : (a ++ b).length ≤ 10000 := by simp; omega
  refine (r12Ends_c v4 (a ++ b) w2 (spans_of_own hcat) hab).mono ?_
  rintro e w3 ⟨E, ve, hE, rfl, hvE, hb3⟩
  have hlE : E.length ≤ 20000 := by have := hE.len; omega
  have hlE2 : E.length ≤ 2 * a.length + 2 * b.length := by have := hE.len; simp at this; omega
  have hb3 := hb2.trans (hb3.mono hb2.size)
  have hall := ends_all hE
  have hEa : ∀ s ∈ a, s.1 ∈ E ∧ s.2 ∈ E := fun s hs => hall s (List.mem_append_left _ hs)
  have hEb : ∀ s ∈ b, s.1 ∈ E ∧ s.2 ∈ E := fun s hs => hall s (List.mem_append_right _ hs)
  have hbd := ends_bd hE (fun s hs => (List.mem_append.1 hs).elim (hHa.out s) (hHb.out s))
  have HE := Lib.hid hE.asc
  have HEa := Lib.hid hEa; clear hEa
  have HEb := Lib.hid hEb; clear hEb
  have Hbd := Lib.hid hbd; clear hbd hall hE hcat hown2 hown1 hb1 hb2
  obtain ⟨C, f, rfl, hnf, hf⟩ := hvE.form
  have h1 := h1.below hb3
  have h2 := h2.below hb3
  go_wp2
  go_loopw [8, 9] (fun o i wr => ∃ (k : Nat) (r : List Sp), i = .int .i64 k ∧ (k = 0 ∨ k < E.length) ∧ Hid (KeepInv g a b E k r) ∧ wr.ownsRow w3.heap.size 34 2 o r.length (flat r) ∧ Below w3.heap.size w3 wr) (fun _ i _ => E.length - (intOf i).toNat)
  case atStart => exact ⟨0, [], rfl, .inl rfl, keep_zero H0.out HE.out HEa.out HEb.out, own_nil _ _ _ _, Below.refl _ _⟩
  case round =>
    obtain ⟨k, r, rfl, hk, HK, hown, hbw⟩ := hrel
    have hrl := HK.out.len
    by_cases hlt : k + 1 < E.length
    · obtain ⟨ge, oe, rfl, hbe⟩ := hvE.addr (by omega)
      cases hg : g (mem a (iv E k)) (mem b (iv E k))
      · have hres := keep_not HE.out HEa.out HEb.out HK.out hlt hg
        have Hres := Lib.hid hres; clear hres
        have kK := Hk.out (mem a (iv E k)) (mem b (iv E k))
        rw [hg] at kK
        go_wp2_with fail
        have e0 := fun x : BW wr => ((hvE.below hbw).bw x).c0 k (by omega)
        have q1 := fun x : BW wr => calls_bw x ((r12In_c (.slice A a.length c) a (iv E k) x.1 ((h1.below hbw).bw x)).mono (fun e w' h => ⟨h.1, h.2 ▸ Below.refl _ _⟩))
        have q2 := fun x : BW wr => calls_bw x ((r12In_c (.slice B b.length d) b (iv E k) x.1 ((h2.below hbw).bw x)).mono (fun e w' h => ⟨h.1, h.2 ▸ Below.refl _ _⟩))
        have q3 := fun x : BW wr => calls_bw x ((kK x.1).mono (fun e w' h => ⟨h.1, h.2 ▸ Below.refl _ _⟩))
        refine wp_region_below (by kernel_rfl) (by kernel_rfl) ?_
        repeat (go_big_quiet_step (first | (go_at_call 113; first | with_reducible exact q1 _ | with_reducible exact q2 _) | (go_at_call 112; exact q3 _)))
        refine wpQuiet_nil ?_
        rintro w4 ⟨⟨_, hb4⟩, rfl⟩
        have hbw4 := hbw.trans (hb4.mono hbw.size)
        have hown4 := own_below hown hb4 (Nat.le_refl _)
        clear e0 q1 q2 q3 kK
        go_wp2
        go_roundw
        case rel => exact ⟨k + 1, r, by go_num, .inr hlt, Hres.out, hown4, hbw4⟩
        case measure => simp [intOf]; omega
      · have hres := keep_add HE.out HEa.out HEb.out HK.out hlt hg
        have Hres := Lib.hid hres; clear hres
        have kK := Hk.out (mem a (iv E k)) (mem b (iv E k))
        rw [hg] at kK
        go_wp2_with fail
        have e0 := fun x : BW wr => ((hvE.below hbw).bw x).c0 k (by omega)
        have q1 := fun x : BW wr => calls_bw x ((r12In_c (.slice A a.length c) a (iv E k) x.1 ((h1.below hbw).bw x)).mono (fun e w' h => ⟨h.1, h.2 ▸ Below.refl _ _⟩))
        have q2 := fun x : BW wr => calls_bw x ((r12In_c (.slice B b.length d) b (iv E k) x.1 ((h2.below hbw).bw x)).mono (fun e w' h => ⟨h.1, h.2 ▸ Below.refl _ _⟩))
        have q3 := fun x : BW wr => calls_bw x ((kK x.1).mono (fun e w' h => ⟨h.1, h.2 ▸ Below.refl _ _⟩))
        refine wp_region_below (by kernel_rfl) (by kernel_rfl) ?_
        repeat (go_big_quiet_step (first | (go_at_call 113; first | with_reducible exact q1 _ | with_reducible exact q2 _) | (go_at_call 112; exact q3 _)))
        refine wpQuiet_nil ?_
        rintro w4 ⟨⟨_, hb4⟩, rfl⟩
        have hbw4 := hbw.trans (hb4.mono hbw.size)
        have hown4 := own_below hown hb4 (Nat.le_refl _)
        clear e0 q1 q2 q3 kK
        go_wp2_with fail
        have hown5 : w4.drew.ownsRow w3.heap.size 34 2 _ r.length (flat r) := hown4
        have hvE5 : IsInts w4.drew (.slice (some ⟨ge, oe, none⟩) E.length f) E := hvE.below (hbw4.trans (below_drew _ _))
        have c0 := hvE5.c0 k (by omega)
        have c1 := hvE5.c0 (k + 1) hlt
        have hbw5 := hbw4.trans (below_drew w3.heap.size w4)
        have hsum : IntKind.i64.wrap ((k : Int) + 1) = (k : Int) + 1 := IntWalk.i64_in _ (by omega)
        have hkl : k < E.length := by omega
        have hk1 : (0 : Int) ≤ (k : Int) + 1 := by omega
        have hk2 : ((k : Int) + 1).toNat = k + 1 := by omega
        go_still_tail 11, (by kernel_rfl)
        change wpList _ _ _ _ _ w4.drew
        generalize w4.drew = w5 at *
        go_wp2_with fail
        refine (r12Add_c _ r _ _ w5 w3.heap.size hown5 hbw5.size (by omega)).mono ?_
        rintro e w6 ⟨v6, rfl, hown6, hb6⟩
        have hbw6 := hbw5.trans hb6
        clear hsum
        go_wp2
        go_roundw
        case rel => exact ⟨k + 1, _, by go_num, .inr hlt, Hres.out, hown6, hbw6⟩
        case measure => simp [intOf]; omega
    · have hres := keep_end H0.out HE.out HEa.out HEb.out Hbd.out HK.out (by omega) hk
      have Hres := Lib.hid hres; clear hres
      go_wp2
      go_ret
      exact ⟨r, ⟨Hres.out.1, Hres.out.2, by omega⟩, _, rfl, spans_of_own hown, hb3.trans (hbw.mono hb3.size)⟩

theorem r12full_c (v : Value) (l : List Sp) (w : World) (hs : IsSpans w v l) : Calls Tryz.prog 95 #[v] w (RetLE w (opR l)) := by
  obtain ⟨A, c, rfl, hnc, hc⟩ := hs.form
  by_cases hl : l.length ≤ 2000
  · rw [opR, if_pos hl]
    go_enter Tryz.func95, Tryz.ntmps95
    go_wp2
    go_ret2
    exact ⟨_, rfl, hs, Below.refl _ _⟩
  · rw [opR, if_neg hl]
    go_enter Tryz.func95, Tryz.ntmps95
    go_wp2
    go_ret2
    exact ⟨_, rfl, IsSpans.nil, Below.refl _ _⟩

end Go.Proofs.YtohjgegnamcnlaaGreat

/- Moved lists of spans. Plain laws. -/
namespace Go.Proofs.YtohjgegnamcnlaaGreat

def shiftL (n : Int) (l : List Sp) : List Sp := l.map fun s => (s.1 + n, s.2 + n)
def moveR (l : List Sp) (n : Int) : List Sp × Int :=
  if validB l = false then ([], 1) else if 8796093022208 < n ∨ n < -8796093022208 then ([], 2) else if (shiftL n l).all okSpan = true then (shiftL n l, 0) else ([], 2)
/-- The row while its spans are moved one by one. -/
def mvL (n : Int) (l : List Sp) (k : Nat) : List Sp := shiftL n (l.take k) ++ l.drop k
theorem shift_len (n : Int) (l : List Sp) : (shiftL n l).length = l.length := by simp [shiftL]
theorem mv_len {n : Int} {l : List Sp} {k : Nat} (hk : k ≤ l.length) : (mvL n l k).length = l.length := by simp [mvL, shift_len]; omega
theorem mv_zero (n : Int) (l : List Sp) : mvL n l 0 = l := by simp [mvL, shiftL]
theorem mv_all (n : Int) (l : List Sp) : mvL n l l.length = shiftL n l := by simp [mvL]
theorem shift_nil (n : Int) : shiftL n [] = [] := rfl
theorem mv_get {n : Int} {l : List Sp} {k : Nat} (hk : k < l.length) : fr (mvL n l k) k = fr l k ∧ tt (mvL n l k) k = tt l k := by
  have hl : (shiftL n (l.take k)).length = k := by rw [shift_len]; simp; omega
  have h1 : (mvL n l k)[k]? = l[k]? := by
    rw [mvL, List.getElem?_append_right (by omega), hl]; simp
  simp [fr, tt, List.getD, h1]
theorem mv_set {n : Int} {l : List Sp} {k : Nat} (hk : k < l.length) : (mvL n l k).set k (fr l k + n, tt l k + n) = mvL n l (k + 1) := by
  have hl : (shiftL n (l.take k)).length = k := by rw [shift_len]; simp; omega
  unfold mvL
  rw [List.set_append_right _ _ (by omega), hl, Nat.sub_self, drop_step hk, List.set_cons_zero, List.take_succ_eq_append_getElem hk, shiftL, shiftL, List.map_append, sp_at l k hk]
  simp
theorem flat_set {L : List Sp} {k : Nat} {p q : Int} (hk : k < L.length) : ((flat L).set (k * 2) (.int .i64 p)).set (k * 2 + 1) (.int .i64 q) = flat (L.set k (p, q)) := by
  induction L generalizing k with
  | nil => simp at hk
  | cons s L ih =>
    cases k with
    | zero => simp [flat]
    | succ k =>
      have h1 := ih (k := k) (by simpa using hk)
      have h2 : (k + 1) * 2 = k * 2 + 1 + 1 := by omega
      have h3 : flat (s :: L) = .int .i64 s.1 :: .int .i64 s.2 :: flat L := by simp [flat]
      have h4 : flat ((s :: L).set (k + 1) (p, q)) = .int .i64 s.1 :: .int .i64 s.2 :: flat (L.set k (p, q)) := by simp [flat]
      rw [h2, h3, h4, ← h1]
      simp [List.set_cons_succ]
theorem shift_fail {n : Int} {l : List Sp} {k : Nat} (hk : k < l.length) (h : okSpan (fr l k + n, tt l k + n) = false) : (shiftL n l).all okSpan = false := by
  rw [List.all_eq_false]
  refine ⟨(fr l k + n, tt l k + n), ?_, by rw [h]; exact Bool.false_ne_true⟩
  exact List.mem_map.2 ⟨(fr l k, tt l k), idx_mem hk, rfl⟩
theorem shift_ok {n : Int} {l : List Sp} (h : ∀ k, k < l.length → okSpan (fr l k + n, tt l k + n) = true) : (shiftL n l).all okSpan = true := by
  rw [List.all_eq_true]
  intro s hs
  obtain ⟨t, ht, rfl⟩ := List.mem_map.1 hs
  obtain ⟨k, hk, rfl⟩ := mem_idx ht
  exact h k hk
theorem shift_mem (n : Int) (l : List Sp) (x : Int) : mem (shiftL n l) x = mem l (x - n) := by
  rw [Bool.eq_iff_iff, mem_iff, mem_iff]
  constructor
  · rintro ⟨s, hs, h1, h2⟩
    obtain ⟨t, ht, rfl⟩ := List.mem_map.1 hs
    exact ⟨t, ht, by simp only at h1; omega, by simp only at h2; omega⟩
  · rintro ⟨t, ht, h1, h2⟩
    exact ⟨_, List.mem_map.2 ⟨t, ht, rfl⟩, by simp only; omega, by simp only; omega⟩
theorem shift_canon {n : Int} {l : List Sp} (h : Canon l) (ho : (shiftL n l).all okSpan = true) : Canon (shiftL n l) := by
  rw [List.all_eq_true] at ho
  refine ⟨fun s hs => (okSpan_iff s).1 (ho s hs), ?_⟩
  unfold shiftL
  rw [List.pairwise_map]
  exact h.2.imp fun h => by simp only; omega
theorem shift_valid {n : Int} {l : List Sp} (h : validB l = true) (ho : (shiftL n l).all okSpan = true) : validB (shiftL n l) = true := by
  rw [validB_iff] at h ⊢
  exact ⟨by rw [shift_len]; exact h.1, shift_canon h.2 ho⟩
theorem shift_back (n : Int) (l : List Sp) : shiftL (-n) (shiftL n l) = l := by
  unfold shiftL
  rw [List.map_map]
  conv => rhs; rw [← List.map_id l]
  apply List.map_congr_left
  intro s _
  simp only [Function.comp, id]
  ext <;> simp only <;> omega
theorem shift_meas (n : Int) : ∀ l : List Sp, measL (shiftL n l) = measL l
  | [] => rfl
  | s :: l => by
    have ih := shift_meas n l
    simp only [shiftL, List.map_cons, measL] at *
    rw [ih]; omega
theorem move_cases (l : List Sp) (n : Int) : (∃ e, moveR l n = ([], e) ∧ (e = 1 ∨ e = 2)) ∨ (moveR l n = (shiftL n l, 0) ∧ validB l = true ∧ -8796093022208 ≤ n ∧ n ≤ 8796093022208 ∧ (shiftL n l).all okSpan = true) := by
  unfold moveR
  cases hv : validB l
  · exact .inl ⟨1, rfl, .inl rfl⟩
  · rw [if_neg Bool.noConfusion]
    by_cases hn : 8796093022208 < n ∨ n < -8796093022208
    · rw [if_pos hn]; exact .inl ⟨2, rfl, .inr rfl⟩
    · rw [if_neg hn]
      cases ho : (shiftL n l).all okSpan
      · rw [if_neg Bool.noConfusion]; exact .inl ⟨2, rfl, .inr rfl⟩
      · rw [if_pos rfl]; exact .inr ⟨rfl, rfl, by omega, by omega, rfl⟩
theorem move_ok {l : List Sp} {n : Int} (hv : validB l = true) (h1 : -8796093022208 ≤ n) (h2 : n ≤ 8796093022208) (ho : (shiftL n l).all okSpan = true) : moveR l n = (shiftL n l, 0) := by
  unfold moveR
  rw [if_neg (by rw [hv]; exact Bool.noConfusion), if_neg (by omega), if_pos ho]
theorem move_back {l : List Sp} {n : Int} (hv : validB l = true) (h1 : -8796093022208 ≤ n) (h2 : n ≤ 8796093022208) (ho : (shiftL n l).all okSpan = true) : moveR (shiftL n l) (-n) = (l, 0) := by
  have hb := shift_back n l
  rw [move_ok (shift_valid hv ho) (by omega) (by omega), hb]
  rw [hb, List.all_eq_true]
  intro s hs
  exact (okSpan_iff s).2 (((validB_iff l).1 hv).2.1 s hs)
/-- A span of a canonical list lies in the hull of whatever covers its points. -/
theorem cover {g : Bool → Bool → Bool} (hg : g false false = false) {a b u : List Sp} (h : IsOp g a b u) {s : Sp} (hs : s ∈ u) : (∃ t, (t ∈ a ∨ t ∈ b) ∧ t.1 ≤ s.1) ∧ ∃ t, (t ∈ a ∨ t ∈ b) ∧ s.2 ≤ t.2 := by
  have hok := h.1.1 s hs
  unfold OkSp at hok
  have key : ∀ x, s.1 ≤ x → x < s.2 → ∃ t, (t ∈ a ∨ t ∈ b) ∧ t.1 ≤ x ∧ x < t.2 := fun x h1 h2 => by
    have h3 : mem u x = true := mem_iff.2 ⟨s, hs, h1, h2⟩
    rw [h.2 x] at h3
    cases ha : mem a x
    · cases hb : mem b x
      · rw [ha, hb, hg] at h3; cases h3
      · obtain ⟨t, ht, h4, h5⟩ := mem_iff.1 hb
        exact ⟨t, .inr ht, h4, h5⟩
    · obtain ⟨t, ht, h4, h5⟩ := mem_iff.1 ha
      exact ⟨t, .inl ht, h4, h5⟩
  obtain ⟨t, ht, h1, _⟩ := key s.1 (Int.le_refl _) hok.2.1
  obtain ⟨t', ht', _, h2⟩ := key (s.2 - 1) (by omega) (by omega)
  exact ⟨⟨t, ht, h1⟩, t', ht', by omega⟩
theorem shift_op {g : Bool → Bool → Bool} (hg : g false false = false) {a b u : List Sp} {n : Int} (h : IsOp g a b u) (ha : (shiftL n a).all okSpan = true) (hb : (shiftL n b).all okSpan = true) :
    (shiftL n u).all okSpan = true ∧ IsOp g (shiftL n a) (shiftL n b) (shiftL n u) := by
  have hall : ∀ t, t ∈ a ∨ t ∈ b → OkSp (t.1 + n, t.2 + n) := fun t ht => by
    rw [List.all_eq_true] at ha hb
    rcases ht with ht | ht
    · exact (okSpan_iff _).1 (ha _ (List.mem_map.2 ⟨t, ht, rfl⟩))
    · exact (okSpan_iff _).1 (hb _ (List.mem_map.2 ⟨t, ht, rfl⟩))
  have ho : (shiftL n u).all okSpan = true := by
    rw [List.all_eq_true]
    intro s hs
    obtain ⟨r, hr, rfl⟩ := List.mem_map.1 hs
    obtain ⟨⟨t, ht, h1⟩, t', ht', h2⟩ := cover hg h hr
    have h3 := hall t ht
    have h4 := hall t' ht'
    have h5 := h.1.1 r hr
    rw [okSpan_iff]
    unfold OkSp at *
    simp only at *
    omega
  exact ⟨ho, shift_canon h.1 ho, fun x => by rw [shift_mem, shift_mem, shift_mem, h.2]⟩
end Go.Proofs.YtohjgegnamcnlaaGreat


/- The walks of slices.Clone on spans, runs.Move and the reference's Move. -/
namespace Go.Proofs.YtohjgegnamcnlaaGreat
open Go.RowKit

theorem eql_nil (a : Option Addr) (n c : Nat) (w : World) : (binOp .eql 44 (.slice a n c) (.slice none 0 0)).run Tryz.prog w = .ok (.bool a.isNone) w := by
  simp only [binOp]
  simp [run_equal_slice_nil (P := Tryz.prog) w 44 34 a n c tSpans]
attribute [local go_sem ↓] eql_nil
theorem own_cell {w : World} {base g cap n : Nat} {e : TypeId} {L : List Sp} (h : w.ownsRow base e 2 (.slice (some ⟨g, 0, none⟩) n cap) n (flat L)) (hL : L.length = n) {k : Nat} (hk : k < n) :
    w.cell? ⟨g, k * 2, none⟩ = some (.int .i64 (fr L k)) ∧ w.cell? ⟨g, k * 2 + 1, none⟩ = some (.int .i64 (tt L k)) := by
  rw [h.cellAt (k * 2) (by omega), h.cellAt (k * 2 + 1) (by omega)]
  exact ⟨flat_get L k 0 (by omega) (by omega), flat_get L k 1 (by omega) (by omega)⟩

set_option maxRecDepth 100000 in
theorem slCloneSpan_c (v : Value) (l : List Sp) (w : World) (base : Nat) (hs : IsSpans w v l) (hbase : base ≤ w.heap.size) (hl : l.length ≤ 100000) : Calls Tryz.prog 89 #[v] w (RetOwn base w l) := by
  obtain ⟨A, c, rfl, hnc, hc⟩ := hs.form
  cases A with
  | none =>
    have hz : l.length = 0 := by
      rcases Nat.eq_zero_or_pos l.length with h | h
      · exact h
      · obtain ⟨b, off, h1, _⟩ := hs.addr h; cases h1
    obtain rfl : l = [] := List.length_eq_zero_iff.1 hz
    go_enter Tryz.func89, Tryz.ntmps89
    go_wp2
    go_ret
    exact ⟨_, rfl, own_nil _ _ _ _, Below.refl _ _⟩
  | some ad =>
    go_enter Tryz.func89, Tryz.ntmps89
    go_wp2_with (at_builtin; refine append_rows tSpans tSpanInfo rfl (by omega) (by omega) rfl (.tmp 5) (.tmp 6) rfl base _ 0 [] rfl (World.ownsRow_made w #[] 0 hbase (by unfold maxLen; omega) rfl) _ l.length _ rfl (flat l) (flat_length l) (by intro h; cases h) (fun ad had => flat_cells (hs.alloc _) ad had) (flat_one l) (by omega) (Nat.le_trans hbase (by simp)) ?_; intro v3 w1 hown1 hb1)
    go_ret
    refine ⟨v3, rfl, ?_, ((Below.refl base w).alloc hbase _).trans hb1⟩
    simpa using hown1

end Go.Proofs.YtohjgegnamcnlaaGreat

/- The walks of slices.ContainsFunc and slices.SortFunc at spans, and of the closures of runs.Of. -/
namespace Go.Proofs.YtohjgegnamcnlaaGreat
open Go.RowKit Go.Shelf
open Go.Sort (HoldsK SWO PermIn SortedIn grow alloc_eq_grow grow_grow)

def encSp (x : Sp) : List Value := [.int .i64 x.1, .int .i64 x.2]
theorem rOf1_c (p q : Int) (w : World) : Calls Tryz.prog 87 #[.agg #[.int .i64 p, .int .i64 q]] w (Ret w (.bool (!okSpan (p, q)))) := by
  cases ho : okSpan (p, q)
  all_goals
    go_enter Tryz.func87, Tryz.ntmps87
    go_wp2_with fail
    refine (ivValid_c _ _ _).mono ?_
    rw [ho]
    rintro e w1 ⟨rfl, hb⟩
    go_wp2
    go_ret
    exact ⟨rfl, ((Below.refl _ _).alloc (Nat.le_refl _) _).trans (hb.mono (by simp))⟩
theorem ent_rOf1 : ∀ (args : Array Value) (w : World), Sem.run Tryz.prog (callFunc 87 args) w = .ok (.enter 87 args) w := fun _ _ => by kernel_rfl
theorem ent_rOf2 : ∀ (args : Array Value) (w : World), Sem.run Tryz.prog (callFunc 91 args) w = .ok (.enter 91 args) w := fun _ _ => by kernel_rfl

theorem slIndexSpan_none (A : Option Addr) (c : Nat) (fv : Value) (w : World) : Calls Tryz.prog 107 #[.slice A 0 c, fv] w fun e w' => e = .returned (.int .i64 (-1)) ∧ w = w' := by
  go_enter Tryz.func107, Tryz.ntmps107
  go_wp2
  go_loop [8] (fun i => i = .int .i64 0) (fun _ => 0)
  case atStart => exact rfl
  case round =>
    subst hrel
    go_wp2
    go_ret
    exact ⟨rfl, rfl⟩
/-- slices.ContainsFunc at spans, for any closure that makes memory only. -/
theorem slContainsSpan_c (p : Sp → Bool) (g : FuncId) (lb : Array Value) (eg : ∀ (args : Array Value) (w : World), Sem.run Tryz.prog (callFunc g args) w = .ok (.enter g args) w) (v : Value) (l : List Sp) (w : World) (hs : IsSpans w v l)
    (hp : PredBelow Tryz.prog g lb (fun x => .agg (encSp x).toArray) p w) : Calls Tryz.prog 86 #[v, .func (.func g) #[] lb] w (Ret w (.bool (l.any p))) := by
  obtain ⟨A, c, rfl, hnc, hc⟩ := hs.form
  by_cases h0 : 0 < l.length
  · obtain ⟨b, off, rfl, hb⟩ := hs.addr h0
    have hcon := AnyQ.slices_ContainsFunc lay_containsSpan 2 Tryz.isAgg34 Tryz.sizeOf34 encSp (fun _ => rfl) p g lb eg b off l.length c l w hp (Nat.le_refl _) (by omega) hb (fun j hj i u hu => by
      have h1 := RowsIn.cells hs j i hj (by
        rcases Nat.lt_or_ge i 2 with h | h
        · exact h
        · rw [List.getElem?_eq_none (by simp [encSp]; omega)] at hu; cases hu)
      rw [h1, ← hu]
      rw [getElem!_pos l j hj, sp_at l j hj]
      match i, hu with
      | 0, _ => rfl
      | 1, _ => rfl
      | i + 2, hu => simp [encSp] at hu)
    change Calls Tryz.prog 86 _ _ _ at hcon
    rw [List.take_length] at hcon
    exact hcon
  · obtain rfl : l = [] := List.length_eq_zero_iff.1 (by omega)
    clear hp hs
    go_enter Tryz.func86, Tryz.ntmps86
    go_wp2_with fail
    refine (slIndexSpan_none _ _ _ _).mono ?_
    rintro e w1 ⟨rfl, rfl⟩
    go_wp2
    go_ret
    exact ⟨rfl, Below.refl _ _⟩
theorem pred_rOf1 (w : World) : PredBelow Tryz.prog 87 #[] (fun x => .agg (encSp x).toArray) (fun s => !okSpan s) w := fun W x hb =>
  (rOf1_c x.1 x.2 W).mono fun _ _ ⟨he, hb'⟩ => ⟨he, hb.trans (hb'.mono hb.size)⟩

/-! ### the sort -/
abbrev OkS := {s : Sp // OkSp s}
instance okS_inh : Inhabited OkS := ⟨⟨(0, 1), by unfold OkSp; omega⟩⟩
def encS (x : OkS) : List Value := encSp x.1
def cfS (x y : OkS) : Int := x.1.1 - y.1.1
theorem ltS (x y : OkS) : ltOf cfS x y = decide (x.1.1 < y.1.1) := by
  unfold ltOf cfS
  rw [decide_eq_decide]; omega
theorem swoS : SWO (ltOf cfS) where
  irrefl x := by rw [ltS]; simp
  trans x y z h1 h2 := by rw [ltS] at *; simp at *; omega
  ntrans x y z h1 h2 := by rw [ltS] at *; simp at *; omega
theorem rOf2_c (x y : OkS) (W : World) : Calls Tryz.prog 91 #[.agg (encS x).toArray, .agg (encS y).toArray] W fun e w' => e = .returned (.int .i64 (cfS x y)) ∧ ∃ q os', w' = grow (W.drewN q) os' := by
  obtain ⟨⟨a, b⟩, ha1, ha2, ha3⟩ := x
  obtain ⟨⟨c, d⟩, hc1, hc2, hc3⟩ := y
  simp only at ha1 ha2 ha3 hc1 hc2 hc3
  simp only [encS, encSp, cfS]
  go_enter Tryz.func91, Tryz.ntmps91
  go_wp2
  go_ret
  exact ⟨rfl, 0, _, by rw [alloc_eq_grow, alloc_eq_grow, grow_grow]; rfl⟩
theorem flat_enc (L : List OkS) : L.flatMap encS = flat (L.map (·.1)) := by
  unfold flat
  rw [List.flatMap_map]
  rfl
/-- The list sorted in place. -/
def SortRet (base : Nat) (w : World) (v : Value) (l : List Sp) (e : Ending) (w' : World) : Prop :=
  e = .returned (.tuple #[]) ∧ ∃ L, L.Perm l ∧ L.Pairwise (fun s t => s.1 ≤ t.1) ∧ w'.ownsRow base 34 2 v l.length (flat L) ∧ Below base w w'
theorem permIn_all {α : Type} [Inhabited α] {d d' : Array α} (h : PermIn 0 d.size d d') : d'.toList.Perm d.toList := by
  have h1 := h.2.2
  have h2 := h.1
  rw [Array.extract_size] at h1
  rw [← h2, Array.extract_size] at h1
  exact h1
theorem sorted_pw {L : Array OkS} (h : SortedIn (ltOf cfS) 0 L.size L) : (L.toList.map (·.1)).Pairwise (fun s t => s.1 ≤ t.1) := by
  rw [List.pairwise_map, List.pairwise_iff_getElem]
  intro i j hi hj hij
  have := h i j (Nat.zero_le _) hij (by simpa using hj)
  rw [ltS, getElem!_pos L j (by simpa using hj), getElem!_pos L i (by simpa using hi)] at this
  simp only [Array.getElem_toList]
  simpa using this
theorem slSortSpan_c (v : Value) (l : List Sp) (w : World) (base : Nat) (hown : w.ownsRow base 34 2 v l.length (flat l)) (hok : ∀ s ∈ l, OkSp s) (hl : l.length ≤ 100000000) :
    Calls Tryz.prog 90 #[v, .func (.func 91) #[] #[]] w (SortRet base w v l) := by
  by_cases h0 : 0 < l.length
  · obtain ⟨g, cap, rfl, hgb, hglt, hcap, hcm⟩ := own_form hown h0
    obtain ⟨L0, hL0⟩ : ∃ L0 : List OkS, L0.map (·.1) = l := ⟨l.attach.map fun s => ⟨s.1, hok s.1 s.2⟩, by rw [List.map_map]; exact List.attach_map_subtype_val l⟩
    have hlen : L0.length = l.length := by rw [← hL0]; simp
    have hown' := hown
    rw [← hL0, ← flat_enc] at hown'
    have hown2 : w.ownsRow base 34 2 (.slice (some ⟨g, 0, none⟩) l.length cap) l.length (L0.flatMap encS) := by
      rw [← hL0]; exact hown'
    obtain ⟨hH, hblk, _⟩ := holdsK_own (enc := encS) (k := 2) (fun _ => rfl) hown2
    have hcon := AnyQ.slices_SortFunc lay_sortSpan 2 Tryz.isAgg34 Tryz.sizeOf34 encS (fun _ => rfl) (fun x u hu => by simp [encS, encSp] at hu; rcases hu with rfl | rfl <;> rfl) cfS swoS 91 #[] g 0 cap L0.toArray w ent_rOf2
      (fun _ _ _ _ x y => rOf2_c x y _) hH hblk (by simp; omega)
    change Calls Tryz.prog 90 _ _ _ at hcon
    have hsz : L0.toArray.size = l.length := by simpa using hlen
    rw [hsz] at hcon
    refine hcon.mono ?_
    rintro e w' ⟨rfl, d', n, os, hp, hs, rfl⟩
    rw [← hsz] at hp
    have hd : d'.size = L0.length := by have := hp.1; simpa using this
    obtain ⟨o1, o2⟩ := own_sorted (enc := encS) (k := 2) (fun _ => rfl) hown2 n os d' hd
    refine ⟨rfl, d'.toList.map (·.1), ?_, ?_, ?_, o2⟩
    · rw [← hL0]; exact (permIn_all hp).map _
    · exact sorted_pw (by rw [hd, hlen]; exact hs)
    · rw [← flat_enc]; exact o1
  · obtain rfl : l = [] := List.length_eq_zero_iff.1 (by omega)
    obtain ⟨A, cap, rfl⟩ : ∃ A cap, v = .slice A 0 cap := by
      rcases hown.2 with ⟨h, _⟩ | ⟨g, cap, cur, h, _⟩
      · exact ⟨_, _, h⟩
      · exact ⟨_, _, h⟩
    have hcon := AnyF.slices_SortFunc_none lay_sortSpan A cap (.func (.func 91) #[] #[]) w
    change Calls Tryz.prog 90 _ _ _ at hcon
    refine hcon.mono ?_
    rintro e w' ⟨rfl, rfl⟩
    exact ⟨rfl, [], List.Perm.nil, List.Pairwise.nil, hown, Below.refl _ _⟩
end Go.Proofs.YtohjgegnamcnlaaGreat

/- A region that draws its order: operations that are quiet in a class of worlds (reads; calls that only make memory), and behind them a tail whose order is forced. One walk in the order of the text serves. No program in sight. -/
namespace Go.Proofs.YtohjgegnamcnlaaGreat
open Go.RowKit
section
variable {P : Program} {ops : Array Oper} {md : Region.Mode} {C : World → Prop}

/-- Whatever comes up first, it is one of the first n, and at the end L holds. -/
def anyHead (P : Program) (md : Region.Mode) (ops : Array Oper) (C : World → Prop) (n : Nat) (L : Array Bool → Act → Prop) : Nat → Array Bool → Act → Prop
  | 0, listed, a => L listed a
  | f + 1, listed, a => Region.ready md ops listed ≠ [] ∧ ∀ i ∈ Region.ready md ops listed, i < n ∧ qOp P ops C i (anyHead P md ops C n L f (listed.setIfInBounds i true)) a

theorem anyHead_wp {n g : Nat} {L : Array Bool → Act → Prop} {Q : Exit → Act → World → Prop} (hL : ∀ listed a w, C w → L listed a → wpAny P md ops Q g listed a w) :
    ∀ (f : Nat) (listed : Array Bool) (a : Act) (w : World), C w → anyHead P md ops C n L f listed a → wpAny P md ops Q (f + g) listed a w
  | 0, listed, a, w, hw, h => by rw [Nat.zero_add]; exact hL _ _ _ hw h
  | f + 1, listed, a, w, hw, h => by
    rw [show f + 1 + g = (f + g) + 1 from by omega]
    exact ⟨fun h0 => absurd h0 h.1, fun i hi => wpOp_of_qOp hw (fun a' w' hw' h' => anyHead_wp hL f _ a' w' hw' h') (h.2 i hi).2⟩

theorem anyHead_first {n i : Nat} {oi : Oper} {v : Value} {L : Array Bool → Act → Prop} (hi : ops[i]? = some oi) (hsel : ∀ (j : Nat) (o : Oper) cs b, ops[j]? = some o → o.op ≠ .select cs b)
    (hs : Region.sinkB md ops n = true) (hc : Region.chainB md ops n = true) (hn : n < ops.size) (hin : i < n) (hL : ∀ listed a, L listed a → ∀ j ∈ Region.ready md ops listed, n ≤ j) :
    ∀ (f : Nat) (listed : Array Bool) (a : Act), HeadInv md ops n listed →
      (∀ j oj, ops[j]? = some oj → j ≠ i → listed.getD j true = false → (∀ e ∈ oj.after, Region.binds md e = true → e.on ≠ i) → oi.apart ops oj = true) →
      i ∈ Region.ready md ops listed → YieldsIn P ops C oi v a →
      anyHead P md ops C n L f (listed.setIfInBounds i true) (a.put oi.dst v) → anyHead P md ops C n L (f + 1) listed a := by
  intro f
  induction f with
  | zero =>
    intro listed a inv _ hr hy H
    refine ⟨fun h => (by rw [h] at hr; cases hr), fun j hj => ?_⟩
    have hjn : j < n := Nat.lt_of_not_le fun h => tail_waits hs hc hn inv _ i rfl hin (mem_ready.1 hr).1 j h hj
    refine ⟨hjn, ?_⟩
    by_cases hji : j = i
    · subst hji; exact hy.qOp hi H
    · exact absurd (hL _ _ H j (ready_mono hj hji)) (by omega)
  | succ f ih =>
    intro listed a inv hfree hr hy H
    refine ⟨fun h => (by rw [h] at hr; cases hr), fun j hj => ?_⟩
    have hun := (mem_ready.1 hr).1
    have hjn : j < n := Nat.lt_of_not_le fun h => tail_waits hs hc hn inv _ i rfl hin hun j h hj
    refine ⟨hjn, ?_⟩
    by_cases hji : j = i
    · subst hji; exact hy.qOp hi H
    · obtain ⟨hjun, oj, hoj, hall⟩ := mem_ready.1 hj
      have hnot : ∀ e ∈ oj.after, Region.binds md e = true → e.on ≠ i := fun e he hb heq => by
        have h1 := hall e he hb
        rw [heq, getD_both hun] at h1
        cases h1
      have h2 := qOp_put hoj (hfree j oj hoj hji hjun hnot) (fun cs b => hsel i oi cs b hi) (fun cs b => hsel j oj cs b hoj) hy (H.2 j (ready_mono hj hji)).2
      refine qOp_mono (fun a' h3 => ih (listed.setIfInBounds j true) a' (inv.set hj hjn) (fun k ok hk hki hkun hno => ?_) (ready_mono hr (Ne.symm hji)) h3.1 ?_) h2
      · refine hfree k ok hk hki ?_ hno
        by_cases hjk : j = k
        · subst hjk; exact hjun
        · rw [getD_set_ne true hjk] at hkun; exact hkun
      · rw [Array.setIfInBounds_comm _ _ hji]
        exact h3.2

theorem anyHead_lex {n g : Nat} {K : Act → Prop} (hsel : Region.noSelect ops = true) (hs : Region.sinkB md ops n = true) (hc : Region.chainB md ops n = true) (hn : n < ops.size) :
    ∀ (l : List Oper) (k : Nat) (listed : Array Bool) (a : Act), (∀ j, j < l.length → l[j]? = ops[k + j]?) → k + l.length = n → HeadInv md ops n listed →
    Region.lexHead md ops g l.length k listed = true → wpQuiet P ops C K l a →
    anyHead P md ops C n (fun listed' a' => Region.seqB md ops g n listed' = true ∧ K a') l.length listed a
  | [], k, listed, a, _, hk, _, hB, h => by
    obtain rfl : k = n := by simpa using hk
    exact ⟨by simpa [Region.lexHead] using hB, h⟩
  | o :: l, k, listed, a, hl, hk, inv, hB, h => by
    have h0 : ops[k]? = some o := by simpa using (hl 0 (by simp)).symm
    simp only [List.length_cons, Region.lexHead, Bool.and_eq_true] at hB
    obtain ⟨⟨hr, hf⟩, hB'⟩ := hB
    have hkn : k < n := by simp only [List.length_cons] at hk; omega
    have hr' : k ∈ Region.ready md ops listed := by simpa using hr
    have hq : qOp P ops C k (wpQuiet P ops C K l) a := by unfold qOp; simp only [h0]; exact h
    obtain ⟨v, hy, hK⟩ := yieldsIn_of_qOp h0 hq
    exact anyHead_first h0 (Region.noSelect_spec hsel) hs hc hn hkn (fun listed' a' hL => seqB_ready hL.1) l.length listed a inv (Region.free_spec h0 hf) hr' hy
      (anyHead_lex hsel hs hc hn l (k + 1) _ _ (fun j hj => by have := hl (j + 1) (by simp; omega); simpa [Nat.add_assoc, Nat.add_comm 1 j] using this) (by simp only [List.length_cons] at hk; omega) (inv.set hr' hkn) hB' hK)

theorem wp_region_quiet_tail {id : Nat} {Q : Exit → Act → World → Prop} {a : Act} {w : World} {l : List Oper} (n : Nat) (hm : P.follows .mixedOrders = true) (hB : Region.lexTailB .any l.toArray n = true) (hC : C { w with drawn := w.drawn + 1 })
    (h : wpQuiet P l.toArray C (fun a' => ∀ w', C w' → wpList P l.toArray Q (l.drop n) a' w') (l.take n) a) : (Code.region id l.toArray true).wp P Q a w := by
  simp only [Region.lexTailB, Bool.and_eq_true, decide_eq_true_eq] at hB
  obtain ⟨⟨⟨⟨hsel, hn⟩, hs⟩, hc⟩, hlex⟩ := hB
  have hn' : n < l.length := by simpa using hn
  have htl : (l.take n).length = n := by simp; omega
  have hdl : (l.drop n).length = l.toArray.size - n := by simp
  have inv0 : HeadInv .any l.toArray n (Array.replicate l.toArray.size false) :=
    ⟨by simp, fun j oj _ hl => (by rw [getD_replicate_false] at hl; cases hl), fun t _ ht => getD_in (by simpa using ht) (getD_replicate_false _ _)⟩
  have H := anyHead_lex (md := .any) (g := l.toArray.size - n) hsel hs hc hn (l.take n) 0 _ a (fun j hj => by
    have hj' : j < n := by rw [htl] at hj; exact hj
    simp [hj']) (by simpa using htl) inv0 (by rw [htl]; exact hlex) h
  refine wp_region_any hm ?_
  have := anyHead_wp (Q := Q) (g := l.toArray.size - n) (fun listed a' w' hw' hL => by
    have := wpAny_of_seq (md := .any) (Q' := Q) (l.drop n) n listed a' w' (fun j => by simp [List.getElem?_drop]) (by rw [hdl]; exact hL.1) (hL.2 w' hw')
    rwa [hdl] at this) _ _ _ _ hC H
  rw [htl, show n + (l.toArray.size - n) = l.toArray.size from by omega] at this
  exact this
end
/-- Reads and calls that only make memory, then a tail whose order is forced. -/
theorem wp_region_below_tail {P : Program} {id : Nat} {Q : Exit → Act → World → Prop} {a : Act} {w : World} {l : List Oper} (n : Nat) (hm : P.follows .mixedOrders = true) (hB : Region.lexTailB .any l.toArray n = true)
    (h : wpQuiet P l.toArray (fun w' => ∃ x : BW w, w' = x.1) (fun a' => ∀ w', (∃ x : BW w, w' = x.1) → wpList P l.toArray Q (l.drop n) a' w') (l.take n) a) : (Code.region id l.toArray true).wp P Q a w :=
  wp_region_quiet_tail (C := fun w' => ∃ x : BW w, w' = x.1) n hm hB ⟨⟨{ w with drawn := w.drawn + 1 }, (Below.refl _ _).drew⟩, rfl⟩ h
end Go.Proofs.YtohjgegnamcnlaaGreat

/- Worlds grown by draws and new blocks; the sort at one cell in the words of the sort at k cells; appending one number to an own list. No program in sight. -/
namespace Go.Proofs.YtohjgegnamcnlaaGreat
open Go.RowKit
open Go.Sort (grow grow_grow grow_empty heap_grow_old HoldsK Holds flatK putRow putCells get_flatK size_flatK putRowK mapBlock)

def GW (w : World) := {w' : World // ∃ n os, w' = grow (w.drewN n) os}
instance gwNonempty (w : World) : Nonempty (GW w) := ⟨⟨w, 0, #[], (grow_empty _).symm⟩⟩
theorem below_grow (w : World) (n : Nat) (os : Array Obj) : Below w.heap.size w (grow (w.drewN n) os) :=
  ⟨rfl, rfl, rfl, by simp [grow], fun k hk => heap_grow_old _ _ (by simpa using hk)⟩
theorem GW.below {w : World} (x : GW w) : Below w.heap.size w x.1 := by
  obtain ⟨_, n, os, rfl⟩ := x
  exact below_grow w n os
theorem grow_more (w : World) (n q : Nat) (os os' : Array Obj) : grow ((grow (w.drewN n) os).drewN q) os' = grow (w.drewN (n + q)) (os ++ os') := by
  rw [show (grow (w.drewN n) os).drewN q = grow ((w.drewN n).drewN q) os from rfl, grow_grow, World.drewN_drewN]
theorem GW.more {w : World} (x : GW w) (q : Nat) (os : Array Obj) : ∃ y : GW w, grow (x.1.drewN q) os = y.1 := by
  obtain ⟨_, n, os', rfl⟩ := x
  exact ⟨⟨_, n + q, os' ++ os, rfl⟩, grow_more _ _ _ _ _⟩
/-- One plain value handed back; draws and new blocks behind. -/
def Grown (w : World) (v : Value) (e : Ending) (w' : World) : Prop := e = .returned v ∧ ∃ n os, w' = grow (w.drewN n) os
theorem Grown.ret {w : World} {v : Value} {e : Ending} {w' : World} (h : Grown w v e w') : Ret w v e w' := by
  obtain ⟨he, n, os, rfl⟩ := h
  exact ⟨he, below_grow _ _ _⟩
theorem grown_same (w : World) : ∃ n os, w = grow (w.drewN n) os := ⟨0, #[], (grow_empty _).symm⟩
theorem grown_alloc (w : World) (o : Obj) : ∃ n os, w.alloc o = grow (w.drewN n) os := ⟨0, #[o], Go.Sort.alloc_eq_grow _ _⟩
theorem grown_trans {w w1 w2 : World} (h : ∃ n os, w1 = grow (w.drewN n) os) (k : ∃ n os, w2 = grow (w1.drewN n) os) : ∃ n os, w2 = grow (w.drewN n) os := by
  obtain ⟨n, os, rfl⟩ := h
  obtain ⟨q, os', rfl⟩ := k
  exact ⟨_, _, grow_more _ _ _ _ _⟩
theorem grown_size {w w1 : World} (h : ∃ n os, w1 = grow (w.drewN n) os) : w.heap.size ≤ w1.heap.size := by
  obtain ⟨n, os, rfl⟩ := h
  exact (below_grow _ _ _).size
theorem calls_gw {P : Program} {f : FuncId} {args : Array Value} {w : World} {v : Value} (x : GW w) (h : Calls P f args x.1 (Grown x.1 v)) : Calls P f args x.1 fun e w'' => e = .returned v ∧ ∃ y : GW w, w'' = y.1 :=
  h.mono fun _ _ ⟨he, n, os, hw⟩ => ⟨he, by rw [hw]; exact x.more n os⟩
theorem gw_cell {w : World} (x : GW w) {p : Addr} {v : Value} (h : w.cell? p = some v) (hp : p.block < w.heap.size) : x.1.cell? p = some v := (x.below.cell hp).trans h
theorem wp_region_grown_tail {P : Program} {id : Nat} {Q : Exit → Act → World → Prop} {a : Act} {w : World} {l : List Oper} (n : Nat) (hm : P.follows .mixedOrders = true) (hB : Region.lexTailB .any l.toArray n = true)
    (h : wpQuiet P l.toArray (fun w' => ∃ x : GW w, w' = x.1) (fun a' => ∀ w', (∃ x : GW w, w' = x.1) → wpList P l.toArray Q (l.drop n) a' w') (l.take n) a) : (Code.region id l.toArray true).wp P Q a w :=
  wp_region_quiet_tail (C := fun w' => ∃ x : GW w, w' = x.1) n hm hB ⟨⟨{ w with drawn := w.drawn + 1 }, 1, #[], (grow_empty _).symm⟩, rfl⟩ h
theorem wp_region_grown {P : Program} {id : Nat} {Q : Exit → Act → World → Prop} {a : Act} {w : World} {l : List Oper} (hm : P.follows .mixedOrders = true) (hB : Region.lexB .any l.toArray = true)
    (h : wpQuiet P l.toArray (fun w' => ∃ x : GW w, w' = x.1) (fun a' => ∀ w', (∃ x : GW w, w' = x.1) → Q .normal a' w') l a) : (Code.region id l.toArray true).wp P Q a w :=
  wp_region_quiet (C := fun w' => ∃ x : GW w, w' = x.1) hm hB ⟨⟨{ w with drawn := w.drawn + 1 }, 1, #[], (grow_empty _).symm⟩, rfl⟩ (by simpa using h)

/-! ### the sort at one cell -/
section
variable {α : Type} [Inhabited α] (enc : α → Value)
theorem flatK_one (d : Array α) : flatK (fun x => [enc x]) 1 d = d.map enc := by
  apply Array.toList_inj.1
  rw [flatK_list (enc := fun x => [enc x]) (k := 1) (fun _ => rfl), Array.toList_map]
  generalize d.toList = l
  induction l with
  | nil => rfl
  | cons x l ih => rw [List.flatMap_cons, ih]; rfl
theorem get_map (d : Array α) (j : Nat) (hj : j < d.size) : (d.map enc)[j]! = enc d[j]! := by
  rw [getElem!_pos _ j (by simpa using hj), getElem!_pos d j hj, Array.getElem_map]
theorem holds_one (w : World) (blk off : Nat) (d : Array α) : HoldsK (fun x => [enc x]) 1 w blk off d ↔ Holds enc w blk off d := by
  unfold HoldsK Holds
  rw [flatK_one]
  constructor
  · intro h j hj
    have := h j (by simpa using hj)
    rwa [get_map enc d j hj] at this
  · intro h j hj
    have hj' : j < d.size := by simpa using hj
    have := h j hj'
    rw [← get_map enc d j hj'] at this
    exact this
theorem sortWorld_one (w : World) (blk off m : Nat) (d : Array α) (os : Array Obj) : sortWorld enc w blk off m d os = sortWorldK (fun x => [enc x]) 1 w blk off m d os := by
  unfold sortWorld sortWorldK putRowK putRow
  rw [flatK_one]
  congr 1
  refine Go.Sort.mapBlock_congr _ _ _ _ fun c e fr _ => ?_
  unfold putCells
  apply Array.ext_getElem?
  intro k
  simp only [Array.getElem?_mapIdx, Array.size_map]
  cases c[k]? with
  | none => rfl
  | some x =>
    simp only [Option.map_some]
    by_cases h : off ≤ k ∧ k < off + d.size
    · rw [if_pos h, if_pos h, get_map enc d _ (by omega)]; rfl
    · rw [if_neg h, if_neg h]
end

/-! ### a list of numbers grows by one -/
theorem append_int {P : Program} {tS tE : TypeId} (hS : P.underlying tS = some (.slice tE)) (hE : (P.info? tE).map (fun i => (i.zero, i.size, i.bytes)) = some (some (.int .i64 0), 1, 8))
    {ops : Array Oper} {rest : List Oper} {o : Oper} {a : Act} {Q : Exit → Act → World → Prop} (hgd : o.guard = none) (s x : Operand)
    (ho : o.op = .call { callee := .builtin .append, args := #[s, x], argTypes := #[tS, tS] })
    {w : World} (base : Nat) (v : Value) (l : List Int) (p : Int) (hs : a.eval s = v) (hown : w.ownsRow base tE 1 v l.length (flatI l))
    (hx : a.eval x = .slice (some ⟨w.heap.size, 0, none⟩) 1 1) (hlen : l.length < 900000000) (hbase : base ≤ w.heap.size)
    (h : ∀ v' w', w'.ownsRow base tE 1 v' (l ++ [p]).length (flatI (l ++ [p])) → Below base w w' → wpList P ops Q rest (a.put o.dst v') w') :
    wpList P ops Q (o :: rest) a (w.alloc (.cells #[.int .i64 p] tE)) := by
  refine append_rows hS hE rfl (by omega) (by omega) hgd s x ho base v l.length (flatI l) hs (hown.alloc _) (some ⟨w.heap.size, 0, none⟩) 1 1 hx [.int .i64 p] rfl (fun h => by cases h) ?_ (by simp [Value.oneCell']) (by omega) (by simp; omega) ?_
  · intro ad had j u hu
    injection had with had
    subst had
    rcases j with _ | j
    · simp at hu; subst hu; simp [Addr.add]
    · simp at hu
  · intro v' w' hown' hb
    refine h v' w' ?_ (((Below.refl base w).alloc hbase _).trans hb)
    have e : flatI (l ++ [p]) = flatI l ++ [.int .i64 p] := by simp [flatI]
    rw [e]; simpa using hown'
theorem own_nilI (w : World) (base : Nat) (e : TypeId) : w.ownsRow base e 1 (.slice none 0 0) 0 (flatI []) := ⟨by simp [flatI], .inl ⟨rfl, rfl⟩⟩
/-- Indices as numbers. -/
def idx (L : List Nat) : List Int := L.map fun i : Nat => (i : Int)
theorem idx_len (L : List Nat) : (idx L).length = L.length := by simp [idx]
theorem idx_snoc (L : List Nat) (i : Nat) : idx L ++ [(i : Int)] = idx (L ++ [i]) := by simp [idx]
theorem iv_idx (L : List Nat) (k : Nat) (hk : k < L.length) : iv (idx L) k = ((L[k] : Nat) : Int) := by
  rw [← iv_at (by rw [idx_len]; exact hk)]; simp [idx]
end Go.Proofs.YtohjgegnamcnlaaGreat

/- Lists of indices in the order of a key: one such list only. First-fit rooms and earliest packings along such a list. Plain laws, no program in sight. -/
namespace Go.Proofs.YtohjgegnamcnlaaGreat

theorem pairwise_one {α : Type} {r : α → α → Prop} (asy : ∀ a b, r a b → ¬ r b a) : ∀ {L M : List α}, L.Perm M → L.Pairwise r → M.Pairwise r → L = M
  | [], M, hp, _, _ => by rw [List.Perm.eq_nil hp.symm]
  | a :: L, [], hp, _, _ => by have := hp.length_eq; simp at this
  | a :: L, b :: M, hp, h1, h2 => by
    have h1' := List.pairwise_cons.1 h1
    have h2' := List.pairwise_cons.1 h2
    have hab : a = b := by
      have ha : a ∈ b :: M := hp.mem_iff.1 (by simp)
      have hb : b ∈ a :: L := hp.mem_iff.2 (by simp)
      rcases List.mem_cons.1 ha with ha | ha
      · exact ha
      · rcases List.mem_cons.1 hb with hb | hb
        · exact hb.symm
        · exact absurd (h1'.1 b hb) (asy _ _ (h2'.1 a ha))
    subst hab
    rw [pairwise_one asy ((List.perm_cons a).1 hp) h1'.2 h2'.2]

theorem snocRec {α : Type} {motive : List α → Prop} (nil : motive []) (snoc : ∀ L x, motive L → motive (L ++ [x])) : ∀ L, motive L := fun L => by
  have key : ∀ M : List α, motive M.reverse := fun M => by
    induction M with
    | nil => exact nil
    | cons x M ih => rw [List.reverse_cons]; exact snoc _ _ ih
  have := key L.reverse
  rwa [List.reverse_reverse] at this
def lexLt (key : Nat → Int) (i k : Nat) : Prop := key i < key k ∨ (key i = key k ∧ i < k)
theorem lex_asymm (key : Nat → Int) (a b : Nat) (h : lexLt key a b) : ¬ lexLt key b a := by
  unfold lexLt at *; omega
theorem lex_trans {key : Nat → Int} {a b c : Nat} (h : lexLt key a b) (k : lexLt key b c) : lexLt key a c := by
  unfold lexLt at *; omega
theorem lex_le {key : Nat → Int} {a b : Nat} (h : lexLt key a b) : key a ≤ key b := by
  unfold lexLt at h; omega
/-- L has the elements of I, in the order of the key, and then of the index. -/
structure OrdOf (key : Nat → Int) (I L : List Nat) : Prop where
  perm : L.Perm I
  asc : L.Pairwise (lexLt key)
theorem ord_one {key : Nat → Int} {I L M : List Nat} (h : OrdOf key I L) (k : OrdOf key I M) : L = M :=
  pairwise_one (lex_asymm key) (h.perm.trans k.perm.symm) h.asc k.asc
theorem ord_filter {key : Nat → Int} {I L : List Nat} (h : OrdOf key I L) (p : Nat → Bool) : OrdOf key (I.filter p) (L.filter p) := ⟨h.perm.filter p, h.asc.filter p⟩
theorem ord_nil (key : Nat → Int) : OrdOf key [] [] := ⟨List.Perm.nil, List.Pairwise.nil⟩
/-- An index greater than all others is inserted behind all that are not behind it. -/
theorem ord_insert {key : Nat → Int} {i k : Nat} {L : List Nat} (h : OrdOf key (List.range i) L) (hk : k ≤ L.length) (h1 : ∀ j, j < k → (hj : j < L.length) → key L[j] ≤ key i) (h2 : ∀ j, k ≤ j → (hj : j < L.length) → key i < key L[j]) :
    OrdOf key (List.range (i + 1)) (L.take k ++ [i] ++ L.drop k) := by
  have hlt : ∀ j ∈ L, j < i := fun j hj => List.mem_range.1 (h.perm.mem_iff.1 hj)
  refine ⟨?_, ?_⟩
  · rw [List.range_succ]
    have e : (L.take k ++ [i] ++ L.drop k).Perm (L.take k ++ L.drop k ++ [i]) := by
      rw [List.append_assoc, List.append_assoc]
      exact List.Perm.append_left _ List.perm_append_comm
    rw [List.take_append_drop] at e
    exact e.trans (h.perm.append_right _)
  · have hp := List.pairwise_append.1 (by rw [List.take_append_drop]; exact h.asc : (L.take k ++ L.drop k).Pairwise (lexLt key))
    rw [List.append_assoc, List.pairwise_append]
    have take_mem : ∀ a ∈ L.take k, key a ≤ key i ∧ a < i := fun a ha => by
      obtain ⟨j, hj, rfl⟩ := List.mem_iff_getElem.1 ha
      rw [List.length_take] at hj
      rw [List.getElem_take]
      exact ⟨h1 j (by omega) (by omega), hlt _ (List.getElem_mem _)⟩
    have drop_mem : ∀ a ∈ L.drop k, key i < key a := fun a ha => by
      obtain ⟨j, hj, rfl⟩ := List.mem_iff_getElem.1 ha
      rw [List.length_drop] at hj
      rw [List.getElem_drop]
      exact h2 (k + j) (by omega) (by omega)
    refine ⟨hp.1, ?_, ?_⟩
    · rw [List.singleton_append, List.pairwise_cons]
      exact ⟨fun a ha => .inl (drop_mem a ha), hp.2.1⟩
    · intro a ha b hb
      rw [List.singleton_append, List.mem_cons] at hb
      rcases hb with rfl | hb
      · have := take_mem a ha
        unfold lexLt; omega
      · exact hp.2.2 a ha b hb

def sfr (l : List Sp) (i : Nat) : Int := fr l i
def comSp (s t : Sp) : Bool := decide (s.1 < t.2) && decide (t.1 < s.2)
def sp (l : List Sp) (i : Nat) : Sp := (fr l i, tt l i)

/-! ### first-fit rooms -/
/-- Room r is taken for i by those of A. -/
def rTaken (l : List Sp) (A : List (Nat × Nat)) (i r : Nat) : Bool := A.any fun p => p.2 == r && comSp (sp l p.1) (sp l i)
structure IsRoom (l : List Sp) (A : List (Nat × Nat)) (i r : Nat) : Prop where
  free : rTaken l A i r = false
  least : ∀ q, q < r → rTaken l A i q = true
theorem room_one {l : List Sp} {A : List (Nat × Nat)} {i r q : Nat} (h : IsRoom l A i r) (k : IsRoom l A i q) : r = q := by
  rcases Nat.lt_trichotomy r q with h1 | h1 | h1
  · have := k.least r h1; rw [h.free] at this; cases this
  · exact h1
  · have := h.least q h1; rw [k.free] at this; cases this
/-- A assigns rooms along L. -/
inductive RoomsOf (l : List Sp) : List Nat → List (Nat × Nat) → Prop
  | nil : RoomsOf l [] []
  | snoc {L : List Nat} {A : List (Nat × Nat)} {i r : Nat} : RoomsOf l L A → IsRoom l A i r → RoomsOf l (L ++ [i]) (A ++ [(i, r)])
theorem rooms_fst {l : List Sp} {L : List Nat} {A : List (Nat × Nat)} (h : RoomsOf l L A) : A.map (·.1) = L := by
  induction h with
  | nil => rfl
  | snoc _ _ ih => rw [List.map_append, ih]; rfl
theorem rooms_one {l : List Sp} {L : List Nat} {A : List (Nat × Nat)} (h : RoomsOf l L A) : ∀ {B : List (Nat × Nat)}, RoomsOf l L B → A = B := by
  induction h with
  | nil =>
    intro B h
    have := rooms_fst h
    simpa using this.symm
  | @snoc L A i r h1 h2 ih =>
    intro B h
    generalize hM : L ++ [i] = M at h
    cases h with
    | nil => simp at hM
    | @snoc L' A' i' r' k1 k2 =>
      obtain ⟨rfl, e⟩ := List.append_inj' hM rfl
      have e := (List.cons.inj e).1
      subst e
      rw [ih k1] at h2 ⊢
      rw [room_one h2 k2]
theorem nodup_sub {α : Type} [DecidableEq α] : ∀ {L M : List α}, L.Nodup → (∀ x ∈ L, x ∈ M) → L.length ≤ M.length
  | [], _, _, _ => Nat.zero_le _
  | a :: L, M, hn, hs => by
    have hn' := List.nodup_cons.1 hn
    have ha : a ∈ M := hs a (by simp)
    have h := nodup_sub (L := L) (M := M.erase a) hn'.2 fun x hx => (List.mem_erase_of_ne (fun e => hn'.1 (by rw [← e]; exact hx))).2 (hs x (by simp [hx]))
    rw [List.length_erase_of_mem ha] at h
    have := List.length_pos_of_mem ha
    simp only [List.length_cons]
    omega
theorem room_bound {l : List Sp} {A : List (Nat × Nat)} {i r : Nat} (h : ∀ q, q < r → rTaken l A i q = true) : r ≤ A.length := by
  have hs : ∀ q ∈ List.range r, q ∈ A.map (·.2) := fun q hq => by
    have := h q (List.mem_range.1 hq)
    unfold rTaken at this
    obtain ⟨p, hp, h1⟩ := List.any_eq_true.1 this
    rw [Bool.and_eq_true, beq_iff_eq] at h1
    exact List.mem_map.2 ⟨p, hp, h1.1⟩
  have := nodup_sub (List.nodup_range (n := r)) hs
  simpa using this

/-! ### the earliest packing along a list -/
def pkOk (l : List Sp) (P : List Nat) (i : Nat) : Bool := P.length == 0 || decide (tt l (P.getD (P.length - 1) 0) ≤ fr l i)
def pk (l : List Sp) (P : List Nat) (i : Nat) : List Nat := if pkOk l P i = true then P ++ [i] else P
def packL (l : List Sp) (L : List Nat) : List Nat := L.foldl (pk l) []
theorem packL_snoc (l : List Sp) (L : List Nat) (i : Nat) : packL l (L ++ [i]) = pk l (packL l L) i := by simp [packL]
theorem pk_sub {l : List Sp} {P : List Nat} {i j : Nat} (h : j ∈ pk l P i) : j ∈ P ∨ j = i := by
  unfold pk at h
  split at h
  · rcases List.mem_append.1 h with h | h
    · exact .inl h
    · exact .inr (List.mem_singleton.1 h)
  · exact .inl h
theorem packL_mem {l : List Sp} : ∀ {L : List Nat} {j : Nat}, j ∈ packL l L → j ∈ L := by
  intro L
  induction L using snocRec with
  | nil => intro j h; simp [packL] at h
  | snoc L i ih =>
    intro j h
    rw [packL_snoc] at h
    rcases pk_sub h with h | h
    · exact List.mem_append_left _ (ih h)
    · rw [h]; simp
theorem pk_len (l : List Sp) (P : List Nat) (i : Nat) : (pk l P i).length ≤ P.length + 1 := by
  unfold pk; split <;> simp
theorem packL_len {l : List Sp} : ∀ {L : List Nat}, (packL l L).length ≤ L.length := by
  intro L
  induction L using snocRec with
  | nil => exact Nat.le_refl _
  | snoc L i ih =>
    rw [packL_snoc]
    have := pk_len l (packL l L) i
    simp; omega
theorem take_snocN {L : List Nat} {k : Nat} (hk : k < L.length) : L.take (k + 1) = L.take k ++ [L[k]] := List.take_succ_eq_append_getElem hk
def insideB (s t : Sp) : Bool := decide (s.1 ≤ t.1) && decide (t.2 ≤ s.2)
end Go.Proofs.YtohjgegnamcnlaaGreat


/- The walks of sweep.right, of cmp.Compare and cmp.Or at numbers, and of sweep.sorted. -/
namespace Go.Proofs.YtohjgegnamcnlaaGreat
open Go.RowKit Go.Shelf
open Go.Sort (grow SWO PermIn SortedIn Holds)

def rightB (l : List Sp) : Bool := decide (l.length ≤ 1000) && l.all okSpan
def cmpI (x y : Int) : Int := if x < y then -1 else if y < x then 1 else 0
theorem cmpCompare_c (x y : Int) (w : World) : Calls Tryz.prog 116 #[.int .i64 x, .int .i64 y] w fun e w' => e = .returned (.int .i64 (cmpI x y)) ∧ w = w' := by
  by_cases h1 : x < y
  · have e : cmpI x y = -1 := if_pos h1
    rw [e]; clear e
    go_enter Tryz.func116, Tryz.ntmps116
    go_wp2
    go_ret
    exact ⟨rfl, rfl⟩
  · by_cases h2 : y < x
    · have e : cmpI x y = 1 := by rw [cmpI, if_neg h1, if_pos h2]
      rw [e]; clear e
      go_enter Tryz.func116, Tryz.ntmps116
      go_wp2
      go_ret
      exact ⟨rfl, rfl⟩
    · have e : cmpI x y = 0 := by rw [cmpI, if_neg h1, if_neg h2]
      rw [e]; clear e
      obtain rfl : x = y := by omega
      clear h1 h2
      go_enter Tryz.func116, Tryz.ntmps116
      go_wp2
      go_ret
      exact ⟨rfl, rfl⟩

def orL : List Int → Int
  | [] => 0
  | x :: l => if x = 0 then orL l else x
theorem orL_at {l : List Int} {k : Nat} (hk : k < l.length) : orL (l.drop k) = if iv l k = 0 then orL (l.drop (k + 1)) else iv l k := by
  rw [List.drop_eq_getElem_cons hk, orL, iv_at hk]
theorem cmpOr_c (v : Value) (l : List Int) (w : World) (hs : IsInts w v l) : Calls Tryz.prog 115 #[v] w fun e w' => e = .returned (.int .i64 (orL l)) ∧ w = w' := by
  obtain ⟨A, c, rfl, hnc, hc⟩ := hs.form
  go_enter Tryz.func115, Tryz.ntmps115
  go_wp2
  go_loop [8] (fun i => ∃ k : Nat, k ≤ l.length ∧ i = .int .i64 k ∧ Hid (orL l = orL (l.drop k))) (fun i => l.length - (intOf i).toNat)
  case atStart => exact ⟨0, Nat.zero_le _, rfl, rfl⟩
  case round =>
    obtain ⟨k, hk, rfl, HL⟩ := hrel
    by_cases hlt : k < l.length
    · obtain ⟨b, off, rfl, hbl⟩ := hs.addr (by omega)
      have c0 := hs.c0 k hlt
      have hst := orL_at hlt
      rw [← HL.out] at hst
      generalize iv l k = x at *
      by_cases hx : x = 0
      · rw [if_pos hx] at hst
        subst hx
        have Hst := Lib.hid hst; clear hst
        go_wp2
        go_round
        case rel => exact ⟨k + 1, by omega, by go_num, Hst.out⟩
        case measure => simp [intOf]; omega
      · rw [if_neg hx] at hst
        have Hst := Lib.hid hst; clear hst
        have hx' : (x != 0) = true := by simpa using hx
        clear hx
        go_wp2
        go_ret
        exact ⟨ret_int Hst.out.symm, rfl⟩
    · obtain rfl : k = l.length := by omega
      have h0 : orL l = 0 := by rw [HL.out, List.drop_length]; rfl
      have H0 := Lib.hid h0; clear h0
      go_wp2
      go_ret
      exact ⟨ret_int H0.out.symm, rfl⟩

/-! ### sorted -/
def orI (a b : Int) : Int := if a = 0 then b else a
theorem orL_two (a b : Int) : orL [a, b] = orI a b := by
  unfold orI orL orL orL
  split
  · split
    · rename_i h; rw [h]
    · rfl
  · rfl
/-- What the comparison of two indices answers. -/
def cmpK (key : Nat → Int) (i k : Nat) : Int := orI (cmpI (key i) (key k)) (cmpI (i : Int) (k : Int))
theorem cmpK_lt (key : Nat → Int) (i k : Nat) : decide (cmpK key i k < 0) = true ↔ lexLt key i k := by
  rw [decide_eq_true_iff]
  unfold cmpK orI cmpI lexLt
  repeat' split
  all_goals omega
/-- A closure that tells a key of a span. -/
def KeyFn (g : FuncId) (key : Sp → Int) : Prop := (∀ (args : Array Value) (w : World), Sem.run Tryz.prog (callFunc g args) w = .ok (.enter g args) w) ∧ ∀ p q w, Calls Tryz.prog g #[.agg #[.int .i64 p, .int .i64 q]] w (Grown w (.int .i64 (key (p, q))))
theorem ints_lit {w : World} {cs : Array Value} {t : TypeId} (b : Nat) (l : List Int) (n : Nat) (hb : w.heap.size = b) (hn : n = l.length) (hc : cs.toList = flatI l) (hl : n ≤ 1000000) : IsInts (w.alloc (.cells cs t)) (.slice (some ⟨b, 0, none⟩) n n) l := by
  subst hn hb
  refine ⟨_, l.length, rfl, Nat.le_refl _, by omega, fun _ => ⟨w.heap.size, 0, rfl, by simp, fun i j hi hj => ?_⟩⟩
  obtain rfl : j = 0 := by omega
  have e : cs = (flatI l).toArray := by rw [← hc]
  subst e
  have := flatI_get l i hi
  simp [this, intCell]
/-- Indices handed back. -/
def IdxRet (w : World) (S : List Nat → Prop) (e : Ending) (w' : World) : Prop := ∃ M v', S M ∧ e = .returned v' ∧ IsInts w' v' (idx M) ∧ Below w.heap.size w w'
theorem lex_total {key : Nat → Int} {a b : Nat} (h : ¬ lexLt key b a) (hne : a ≠ b) : lexLt key a b := by
  unfold lexLt at *; omega
abbrev IxOf (n : Nat) := {i : Nat // i < n}
def encX {n : Nat} (x : IxOf n) : Value := .int .i64 (x.1 : Int)
theorem swoK (key : Nat → Int) (n : Nat) : SWO (ltOf fun x y : IxOf n => cmpK key x.1 y.1) where
  irrefl x := by
    rw [Bool.eq_false_iff]; intro h
    have h := (cmpK_lt key x.1 x.1).1 h
    unfold lexLt at h; omega
  trans x y z h1 h2 := by
    have h1 := (cmpK_lt key x.1 y.1).1 h1
    have h2 := (cmpK_lt key y.1 z.1).1 h2
    exact (cmpK_lt key x.1 z.1).2 (lex_trans h1 h2)
  ntrans x y z h1 h2 := by
    rw [Bool.eq_false_iff] at *
    intro h
    have h := (cmpK_lt key x.1 z.1).1 h
    have h1 : ¬ lexLt key x.1 y.1 := fun k => h1 ((cmpK_lt key x.1 y.1).2 k)
    have h2 : ¬ lexLt key y.1 z.1 := fun k => h2 ((cmpK_lt key y.1 z.1).2 k)
    unfold lexLt at *; omega
theorem flatI_enc {n : Nat} (L : List (IxOf n)) : L.flatMap (fun x => [encX x]) = flatI (idx (L.map (·.1))) := by
  unfold flatI idx
  rw [List.map_map, List.map_map]
  induction L with
  | nil => rfl
  | cons x L ih => rw [List.flatMap_cons, ih]; rfl
theorem own_formI {w : World} {base : Nat} {e : TypeId} {v : Value} {L : List Int} (h : w.ownsRow base e 1 v L.length (flatI L)) (hr : 0 < L.length) : ∃ g cap, v = .slice (some ⟨g, 0, none⟩) L.length cap ∧ base ≤ g ∧ g < w.heap.size ∧ L.length ≤ cap ∧ cap ≤ 9223372036854775807 := by
  rcases h.2 with ⟨_, h0⟩ | ⟨g, cap, cur, rfl, hb, hg, hnc, hcm, _⟩
  · omega
  · exact ⟨g, cap, rfl, hb, (Array.getElem?_eq_some_iff.1 hg).1, hnc, by simp only [maxLen] at hcm; omega⟩
end Go.Proofs.YtohjgegnamcnlaaGreat


/- The walks of sweep.sorted and sweep.Pack. -/
namespace Go.Proofs.YtohjgegnamcnlaaGreat
open Go.RowKit Go.Shelf
open Go.Sort (grow)

/-- A closure that tells of a span whether it counts, in whatever world grown from w. -/
def PredFn (g : FuncId) (cs : Array Value) (p : Sp → Bool) (w : World) : Prop :=
  (∀ (args : Array Value) (w : World), Sem.run Tryz.prog (callFunc g args) w = .ok (.enter g args) w) ∧ ∀ (W : World) x y, Below w.heap.size w W → Calls Tryz.prog g (#[.agg #[.int .i64 x, .int .i64 y]] ++ cs) W (Ret W (.bool (p (x, y))))
theorem PredFn.below {g : FuncId} {cs : Array Value} {p : Sp → Bool} {w w' : World} (h : PredFn g cs p w) (hb : Below w.heap.size w w') : PredFn g cs p w' := ⟨h.1, fun W x y hW => h.2 W x y (hb.trans (hW.mono hb.size))⟩
def pickL (l : List Sp) (p : Sp → Bool) (k : Nat) : List Nat := (List.range k).filter fun i => p (sp l i)
theorem pickL_zero (l : List Sp) (p : Sp → Bool) : pickL l p 0 = [] := rfl
theorem pickL_yes {l : List Sp} {p : Sp → Bool} {k : Nat} (h : p (fr l k, tt l k) = true) : idx (pickL l p k) ++ [(k : Int)] = idx (pickL l p (k + 1)) := by
  rw [idx_snoc]; congr 1
  unfold pickL
  rw [List.range_succ, List.filter_append, List.filter_cons, if_pos (by exact h)]; rfl
theorem pickL_no {l : List Sp} {p : Sp → Bool} {k : Nat} (h : p (fr l k, tt l k) = false) : pickL l p (k + 1) = pickL l p k := by
  unfold pickL
  rw [List.range_succ, List.filter_append, List.filter_cons, if_neg (by rw [show p (sp l k) = false from h]; exact Bool.false_ne_true)]; simp
theorem pickL_len (l : List Sp) (p : Sp → Bool) (k : Nat) : (pickL l p k).length ≤ k := by
  have := List.length_filter_le (fun i => p (sp l i)) (List.range k)
  simpa [pickL] using this
theorem pickL_lt {l : List Sp} {p : Sp → Bool} {k : Nat} : ∀ i ∈ pickL l p k, i < k := fun _ hi => List.mem_range.1 (List.mem_filter.1 hi).1

/-! ### indices in memory -/
def ix (M : List Nat) (k : Nat) : Nat := M.getD k 0
theorem ix_at {M : List Nat} {k : Nat} (hk : k < M.length) : M[k] = ix M k := by simp [ix, hk]
theorem ix_mem {L : List Nat} {k : Nat} (hk : k < L.length) : ix L k ∈ L := by rw [← ix_at hk]; exact List.getElem_mem hk
theorem iv_ix {M : List Nat} {k : Nat} (hk : k < M.length) : iv (idx M) k = ((ix M k : Nat) : Int) := by rw [iv_idx M k hk, ix_at hk]
theorem take_ix {M : List Nat} {k : Nat} (hk : k < M.length) : M.take (k + 1) = M.take k ++ [ix M k] := by rw [take_snocN hk, ix_at hk]
theorem rows_idx {w : World} {v : Value} {M : List Nat} (h : IsInts w v (idx M)) : RowsIn w v M.length 1 (intCell (idx M)) := by
  have := h
  unfold IsInts at this
  rwa [idx_len] at this
theorem RowsIn.i0 {w : World} {b off n c : Nat} {E : List Int} (h : RowsIn w (.slice (some ⟨b, off, none⟩) n c) n 1 (intCell E)) (i : Nat) (hi : i < n) : w.cell? ⟨b, off + i, none⟩ = some (.int .i64 (iv E i)) := by
  have := RowsIn.cells h i 0 hi (by omega)
  simpa [intCell] using this
/-- An own row of indices. -/
def OwnsIx (w : World) (base : Nat) (v : Value) (P : List Nat) : Prop := w.ownsRow base 3 1 v P.length (flatI (idx P))
theorem OwnsIx.below {w w' : World} {base : Nat} {v : Value} {P : List Nat} (h : OwnsIx w base v P) (hb : Below w.heap.size w w') : OwnsIx w' base v P := own_below h hb (Nat.le_refl _)
theorem OwnsIx.alloc {w : World} {base : Nat} {v : Value} {P : List Nat} (h : OwnsIx w base v P) (o : Obj) : OwnsIx (w.alloc o) base v P := h.below ((Below.refl _ _).alloc (Nat.le_refl _) o)
theorem OwnsIx.ints {w : World} {base : Nat} {v : Value} {P : List Nat} (h : OwnsIx w base v P) : IsInts w v (idx P) := by
  refine ints_of_own (base := base) (e := 3) ?_
  rw [idx_len]; exact h
theorem OwnsIx.form {w : World} {base : Nat} {v : Value} {P : List Nat} (h : OwnsIx w base v P) (hP : 0 < P.length) : ∃ g cap, v = .slice (some ⟨g, 0, none⟩) P.length cap ∧ base ≤ g ∧ g < w.heap.size ∧ P.length ≤ cap ∧ cap ≤ 9223372036854775807 := by
  have h' : w.ownsRow base 3 1 v (idx P).length (flatI (idx P)) := by rw [idx_len]; exact h
  have := own_formI h' (by rw [idx_len]; exact hP)
  rwa [idx_len] at this
theorem own_formX {w : World} {base : Nat} {v : Value} {P : List Nat} (h : OwnsIx w base v P) : ∃ A cap, v = .slice A P.length cap ∧ P.length ≤ cap := by
  rcases h.2 with ⟨h1, h2⟩ | ⟨g, cap, cur, h1, _, _, h2, _⟩
  · exact ⟨none, 0, by rw [h2]; exact h1, by omega⟩
  · exact ⟨_, _, h1, h2⟩
theorem OwnsIx.cell {w : World} {base g cap : Nat} {P : List Nat} (h : OwnsIx w base (.slice (some ⟨g, 0, none⟩) P.length cap) P) (k : Nat) (hk : k < P.length) : w.cell? ⟨g, k, none⟩ = some (.int .i64 ((ix P k : Nat) : Int)) := by
  have := World.ownsRow.cellAt h k (by omega)
  rw [this, flatI_get (idx P) k (by rw [idx_len]; exact hk), iv_ix hk]
theorem append_ix {P : Program} (hS : P.underlying 23 = some (.slice 3)) (hE : (P.info? 3).map (fun i => (i.zero, i.size, i.bytes)) = some (some (.int .i64 0), 1, 8))
    {ops : Array Oper} {rest : List Oper} {o : Oper} {a : Act} {Q : Exit → Act → World → Prop} (hgd : o.guard = none) (s x : Operand)
    (ho : o.op = .call { callee := .builtin .append, args := #[s, x], argTypes := #[23, 23] })
    {w : World} (base : Nat) (v : Value) (l : List Nat) (j : Nat) (hs : a.eval s = v) (hown : OwnsIx w base v l)
    (hx : a.eval x = .slice (some ⟨w.heap.size, 0, none⟩) 1 1) (hlen : l.length < 900000000) (hbase : base ≤ w.heap.size)
    (h : ∀ v' w', OwnsIx w' base v' (l ++ [j]) → Below base w w' → wpList P ops Q rest (a.put o.dst v') w') :
    wpList P ops Q (o :: rest) a (w.alloc (.cells #[.int .i64 (j : Int)] 3)) := by
  refine append_int hS hE hgd s x ho base v (idx l) (j : Int) hs (by rw [idx_len]; exact hown) hx (by rw [idx_len]; exact hlen) hbase ?_
  intro v' w' hown' hb
  refine h v' w' ?_ hb
  rw [idx_snoc, idx_len] at hown'
  exact hown'
theorem own_base {w : World} {b base size n : Nat} {e : TypeId} {v : Value} {xs : List Value} (h : w.ownsRow base e size v n xs) (hb : b ≤ base) : w.ownsRow b e size v n xs := by
  obtain ⟨h1, h2⟩ := h
  refine ⟨h1, h2.imp id ?_⟩
  rintro ⟨g, cap, cur, hv, hg, r⟩
  exact ⟨g, cap, cur, hv, Nat.le_trans hb hg, r⟩
/-- An own row of indices handed back. -/
def OwnIdx (w : World) (S : List Nat → Prop) (e : Ending) (w' : World) : Prop := ∃ M v', S M ∧ e = .returned v' ∧ OwnsIx w' w.heap.size v' M ∧ Below w.heap.size w w'
theorem pk_pos {l : List Sp} {P : List Nat} {j : Nat} (h : 0 < P.length) : pk l P j = if tt l (ix P (P.length - 1)) ≤ fr l j then P ++ [j] else P := by
  unfold pk pkOk
  have e : (P.length == 0) = false := by rw [beq_eq_false_iff_ne]; omega
  rw [e, Bool.false_or]
  simp only [decide_eq_true_iff]
  rfl

/-! ### Pack -/
/-- Indices and an error number handed back. -/
def IdxE (w : World) (S : List Nat → Int → Prop) (e : Ending) (w' : World) : Prop := ∃ r k v, S r k ∧ e = .returned (.tuple #[v, .int .i64 k]) ∧ IsInts w' v (idx r) ∧ Below w.heap.size w w'
def PackSpec (l : List Sp) (s : Sp) (r : List Nat) (k : Int) : Prop :=
  if (rightB l && okSpan s) = true then ∃ M, OrdOf (fun j => (sp l j).2) (pickL l (insideB s) l.length) M ∧ r = packL l M ∧ k = 0 else r = [] ∧ k = 1
theorem pack_bad {l : List Sp} {s : Sp} (h : (rightB l && okSpan s) = false) : PackSpec l s [] 1 := by
  rw [PackSpec, if_neg (by rw [h]; exact Bool.false_ne_true)]; exact ⟨rfl, rfl⟩
theorem pack_good {l : List Sp} {s : Sp} {M P : List Nat} (hr : rightB l = true) (ho : okSpan s = true) (hM : OrdOf (fun j => (sp l j).2) (pickL l (insideB s) l.length) M) (hP : P = packL l M) : PackSpec l s P 0 := by
  rw [PackSpec, if_pos (by rw [hr, ho]; rfl)]; exact ⟨M, hM, hP, rfl⟩
theorem rightB_len {l : List Sp} (h : rightB l = true) : l.length ≤ 1000 := by
  unfold rightB at h; rw [Bool.and_eq_true] at h; exact of_decide_eq_true h.1
theorem rightB_ok {l : List Sp} (h : rightB l = true) : l.all okSpan = true := by
  unfold rightB at h; rw [Bool.and_eq_true] at h; exact h.2

end Go.Proofs.YtohjgegnamcnlaaGreat

/- Slice expressions of slices that read as rows, whatever the address, the length and the capacity; appending such a row to an own list of indices. No program in sight. -/
namespace Go.Proofs.YtohjgegnamcnlaaGreat
open Go.RowKit

theorem sliced_rows {w : World} {A : Option Addr} {n c k : Nat} {f : Nat → Nat → Value} (h : RowsIn w (.slice A n c) n k f) (l m : Nat) (hl : l ≤ m) (hm : m ≤ n) : RowsIn w (sliced A l m c k) (m - l) k (fun i j => f (i + l) j) := by
  obtain ⟨A', c', he, h1, h2, h3⟩ := h
  injection he with e1 _ e3
  subst e1 e3
  refine ⟨_, c - l, rfl, by omega, by omega, fun hn => ?_⟩
  obtain ⟨b, off, rfl, hb, hc⟩ := h3 (by omega)
  rw [if_neg (by omega)]
  refine ⟨b, off + l * k, by simp [Addr.add], hb, fun i j hi hj => ?_⟩
  have := hc (i + l) j (by omega) hj
  rw [show off + l * k + i * k + j = off + (i + l) * k + j from by rw [Nat.add_mul]; omega]
  exact this

section
variable {w : World} {k n c : Nat} {A : Option Addr} {f : Nat → Nat → Value}
theorem hi_rows (h : RowsIn w (.slice A n c) n k f) (m : Nat) (hm : m ≤ n) : RowsIn w (.slice A m c) m k f := by
  obtain ⟨A', c', he, h1, h2, h3⟩ := h
  injection he with e1 _ e3
  subst e1 e3
  refine ⟨A, c, rfl, by omega, h2, fun hn => ?_⟩
  obtain ⟨b, off, rfl, hb, hc⟩ := h3 (by omega)
  exact ⟨b, off, rfl, hb, fun i j hi hj => hc i j (by omega) hj⟩
/-- 'x[m:]' as the walk spells it. -/
theorem lo_rows (h : RowsIn w (.slice A n c) n k f) (m : Nat) (hm : m ≤ n) : RowsIn w (.slice (if c = m then A else A.map fun x => x.add (m * k)) (n - m) (c - m)) (n - m) k (fun i j => f (i + m) j) := by
  have := sliced_rows h m n hm (Nat.le_refl _)
  exact this
theorem lo_rows1 (h : RowsIn w (.slice A n c) n 1 f) (m : Nat) (hm : m ≤ n) : RowsIn w (.slice (if c = m then A else A.map fun x => x.add m) (n - m) (c - m)) (n - m) 1 (fun i j => f (i + m) j) := by
  have := lo_rows h m hm
  rwa [Nat.mul_one] at this
theorem lo_rows1s {b off : Nat} (h : RowsIn w (.slice (some ⟨b, off, none⟩) n c) n 1 f) (m : Nat) (hm : m ≤ n) : RowsIn w (.slice (if c = m then some ⟨b, off, none⟩ else some ⟨b, off + m, none⟩) (n - m) (c - m)) (n - m) 1 (fun i j => f (i + m) j) := by
  have := lo_rows1 h m hm
  rw [Option.map_some, show (⟨b, off, none⟩ : Addr).add m = ⟨b, off + m, none⟩ from by
    by_cases h0 : m = 0
    · subst h0; simp [Addr.add]
    · simp [Addr.add]; omega] at this
  exact this
theorem no_rows (v : Value) (A : Option Addr) (c : Nat) (hv : v = .slice A 0 c) (hc : c ≤ 9223372036854775807) (f : Nat → Nat → Value) : RowsIn w v 0 k f := ⟨A, c, hv, by omega, hc, fun h => absurd h (by omega)⟩
end
theorem ints_take {w : World} {v : Value} {E : List Int} {m : Nat} (h : RowsIn w v m 1 (intCell E)) (hm : m ≤ E.length) : IsInts w v (E.take m) := by
  have e : (E.take m).length = m := by simp; omega
  unfold IsInts
  rw [e]
  refine h.congr fun i j hi _ => ?_
  unfold intCell
  rw [← iv_at (by omega), ← iv_at (E := E.take m) (by rw [e]; exact hi), List.getElem_take]
theorem ints_drop {w : World} {v : Value} {E : List Int} {m : Nat} (h : RowsIn w v (E.length - m) 1 (fun i j => intCell E (i + m) j)) (hm : m ≤ E.length) : IsInts w v (E.drop m) := by
  have e : (E.drop m).length = E.length - m := by simp
  unfold IsInts
  rw [e]
  refine h.congr fun i j hi _ => ?_
  unfold intCell
  rw [← iv_at (by omega), ← iv_at (E := E.drop m) (by rw [e]; exact hi), List.getElem_drop]
  have e2 : i + m = m + i := Nat.add_comm _ _
  simp only [e2]
theorem ints_addr {w : World} {A : Option Addr} {c : Nat} {E : List Int} (h : IsInts w (.slice A E.length c) E) : (A = none → E.length = 0) ∧ ∀ ad, A = some ad → ∀ j u, (flatI E)[j]? = some u → w.cell? (ad.add j) = some u := by
  refine ⟨fun hA => ?_, fun ad hA j u hu => ?_⟩
  · rcases Nat.eq_zero_or_pos E.length with h3 | h3
    · exact h3
    · obtain ⟨b', off, h4, _⟩ := h.addr h3; rw [hA] at h4; cases h4
  · have hj : j < E.length := by
      rcases Nat.lt_or_ge j E.length with hj | hj
      · exact hj
      · rw [List.getElem?_eq_none (by simp [flatI]; omega)] at hu; cases hu
    obtain ⟨b, off, rfl, hb⟩ := h.addr (by omega)
    injection hA with hA
    subst hA
    have h1 := h.c0 j hj
    rw [flatI_get E j hj] at hu
    rw [← Option.some.inj hu, ← h1]
    congr 1
    by_cases h0 : j = 0
    · subst h0; simp [Addr.add]
    · simp [Addr.add]; omega
/-- 'append(own, x...)' at numbers. -/
theorem append_ints {P : Program} {tS tE : TypeId} (hS : P.underlying tS = some (.slice tE)) (hE : (P.info? tE).map (fun i => (i.zero, i.size, i.bytes)) = some (some (.int .i64 0), 1, 8))
    {ops : Array Oper} {rest : List Oper} {o : Oper} {a : Act} {Q : Exit → Act → World → Prop} (hgd : o.guard = none) (s x : Operand)
    (ho : o.op = .call { callee := .builtin .append, args := #[s, x], argTypes := #[tS, tS] })
    {w : World} (base : Nat) (v u : Value) (n : Nat) (l E : List Int) (hs : a.eval s = v) (hown : w.ownsRow base tE 1 v n (flatI l)) (hn : n = l.length) (hx : a.eval x = u) (hu : IsInts w u E) (hlen : n + E.length < 900000000) (hbase : base ≤ w.heap.size)
    (h : ∀ v' w', w'.ownsRow base tE 1 v' (l ++ E).length (flatI (l ++ E)) → Below base w w' → wpList P ops Q rest (a.put o.dst v') w') :
    wpList P ops Q (o :: rest) a w := by
  obtain ⟨A, c, rfl, h1, h2⟩ := hu.form
  obtain ⟨hA, hc⟩ := ints_addr hu
  refine append_rows hS hE rfl (by omega) (by omega) hgd s x ho base v n (flatI l) hs hown A E.length c hx (flatI E) (flatI_length E) hA hc (flatI_one E) (by omega) hbase ?_
  intro v' w' hown' hb
  refine h v' w' ?_ hb
  rw [List.length_append, ← hn]
  simpa [flatI] using hown'
end Go.Proofs.YtohjgegnamcnlaaGreat


/- The walks of the reference's Valid, order and Pack. -/
namespace Go.Proofs.YtohjgegnamcnlaaGreat
open Go.RowKit Go.Shelf
open Go.Sort (grow)

def kT (t : Bool) (s : Sp) : Int := if t then s.2 else s.1
def befB (a : Int) (i : Nat) (b : Int) (k : Nat) : Bool := decide (a < b) || (a == b && decide (i < k))
theorem bef_lt {X K : Int} {k j : Nat} (h : j < k) : befB X k K j = decide (X < K) := by
  unfold befB
  rw [decide_eq_false (by omega : ¬ k < j), Bool.and_false, Bool.or_false]
theorem same_below {P : Program} {f : FuncId} {args : Array Value} {w : World} {v : Value} (h : Calls P f args w fun e w' => e = .returned v ∧ w = w') : Calls P f args w (Ret w v) := h.mono fun _ _ ⟨he, hw⟩ => ⟨he, hw ▸ Below.refl _ _⟩
theorem idx_ins (L : List Nat) (m k : Nat) : (idx L).take m ++ [(k : Int)] ++ (idx L).drop m = idx (L.take m ++ [k] ++ L.drop m) := by simp [idx]
theorem ord_ix {key : Nat → Int} {i k : Nat} {L : List Nat} (h : OrdOf key (List.range i) L) (hk : k ≤ L.length) (h1 : ∀ j, j < k → key (ix L j) ≤ key i) (h2 : ∀ j, k ≤ j → j < L.length → key i < key (ix L j)) :
    OrdOf key (List.range (i + 1)) (L.take k ++ [i] ++ L.drop k) :=
  ord_insert h hk (fun j hj hl => by rw [ix_at hl]; exact h1 j hj) (fun j hj hl => by rw [ix_at hl]; exact h2 j hj hl)
theorem ord_low {key : Nat → Int} {I L : List Nat} (h : OrdOf key I L) {m : Nat} (hm : m ≤ L.length) {X : Int} (hx : 0 < m → key (ix L (m - 1)) ≤ X) : ∀ j, j < m → key (ix L j) ≤ X := fun j hj => by
  have h1 := hx (by omega)
  rcases Nat.eq_or_lt_of_le (show j ≤ m - 1 by omega) with h2 | h2
  · rw [h2]; exact h1
  · have h3 := (List.pairwise_iff_getElem.1 h.asc) j (m - 1) (by omega) (by omega) h2
    rw [ix_at, ix_at] at h3
    have := lex_le h3
    omega

end Go.Proofs.YtohjgegnamcnlaaGreat

/- The walks of runs.Of and of the reference's Of. -/
namespace Go.Proofs.YtohjgegnamcnlaaGreat
open Go.RowKit Go.Shelf

theorem RowsIn.s0 {w : World} {b off n c : Nat} {L : List Sp} (h : RowsIn w (.slice (some ⟨b, off, none⟩) n c) n 2 (spanCell L)) (i : Nat) (hi : i < n) : w.cell? ⟨b, off + i * 2, none⟩ = some (.int .i64 (fr L i)) := RowsIn.cells h i 0 hi (by omega)
theorem RowsIn.s1 {w : World} {b off n c : Nat} {L : List Sp} (h : RowsIn w (.slice (some ⟨b, off, none⟩) n c) n 2 (spanCell L)) (i : Nat) (hi : i < n) : w.cell? ⟨b, off + i * 2 + 1, none⟩ = some (.int .i64 (tt L i)) := RowsIn.cells h i 1 hi (by omega)
theorem rows_own {w : World} {base n : Nat} {e : TypeId} {v : Value} {L : List Sp} (h : w.ownsRow base e 2 v n (flat L)) (hn : n = L.length) : RowsIn w v n 2 (spanCell L) := by
  subst hn; exact spans_of_own h
/-- What Of hands back. -/
def OfRet (l : List Sp) (w : World) (e : Ending) (w' : World) : Prop := ∃ r, OfSpec l r ∧ RetLE w r e w'
theorem okS_all {l : List Sp} (h : l.all okSpan = true) : ∀ s ∈ l, OkSp s := fun s hs => (okSpan_iff s).1 (List.all_eq_true.1 h s hs)
theorem any_not (l : List Sp) : l.any (fun s => !okSpan s) = !l.all okSpan := by rw [List.not_all_eq_any_not]

set_option maxRecDepth 100000 in
set_option maxHeartbeats 2000000 in
theorem rOf_c (v : Value) (l : List Sp) (w : World) (hs : IsSpans w v l) (hl : l.length ≤ 100000) : Calls Tryz.prog 60 #[v] w (OfRet l w) := by
  have hcon := slContainsSpan_c (fun s => !okSpan s) 87 #[] ent_rOf1 v l w hs (pred_rOf1 w)
  rw [any_not] at hcon
  cases ho : l.all okSpan
  · rw [ho] at hcon
    have Hcon := Lib.hid hcon; clear hcon
    have Ho := Lib.hid ho; clear ho
    go_enter Tryz.func60, Tryz.ntmps60
    go_wp2_with fail
    refine Hcon.out.mono ?_
    rintro e w1 ⟨rfl, hb⟩
    go_wp2
    go_ret2
    exact ⟨([], 1), of_bad Ho.out, _, rfl, IsSpans.nil, hb⟩
  · rw [ho] at hcon
    have Hcon := Lib.hid hcon; clear hcon
    have Hok := Lib.hid (okS_all ho)
    have Ho := Lib.hid ho; clear ho
    go_enter Tryz.func60, Tryz.ntmps60
    go_wp2_with fail
    refine Hcon.out.mono ?_
    rintro e w1 ⟨rfl, hb1⟩
    go_wp2_with fail
    refine (slCloneSpan_c v l w1 w1.heap.size (hs.below hb1) (Nat.le_refl _) hl).mono ?_
    rintro e w2 ⟨v2, rfl, hown2, hb2⟩
    go_wp2_with fail
    refine (slSortSpan_c v2 l w2 w1.heap.size hown2 Hok.out (by omega)).mono ?_
    rintro e w3 ⟨rfl, L, hp, hpw, hown3, hb3⟩
    have hLl : L.length = l.length := hp.length_eq
    have hr3 := rows_own hown3 hLl.symm
    obtain ⟨A, cap, rfl, hncap, hcap⟩ := hr3.form
    have hokL : ∀ k, k < l.length → OkSp (fr L k, tt L k) := fun k hk => Hok.out _ (hp.mem_iff.1 (idx_mem (by omega)))
    have hord : ∀ k, k < l.length → ∀ p ∈ L.take k, p.1 ≤ fr L k := fun k hk p hp => by
      obtain ⟨j, hj, rfl⟩ := List.mem_iff_getElem.1 hp
      rw [List.length_take] at hj
      have := (List.pairwise_iff_getElem.1 hpw) j k (by omega) (by omega) (by omega)
      rw [sp_at L k (by omega)] at this
      simpa using this
    have hB3 := hb1.trans ((hb2.trans hb3).mono hb1.size)
    have HL := Lib.hid hLl
    have HokL := Lib.hid hokL; clear hokL
    have Hord := Lib.hid hord; clear hord
    have Hp := Lib.hid hp; clear hp hpw hown2 hown3 hLl hb1 hb2 hb3 hs
    go_wp2_with fail
    go_loopw [5, 17] (fun o i wr => ∃ (k : Nat) (r : List Sp), i = .int .i64 k ∧ k ≤ l.length ∧ Hid (MI (L.take k) r) ∧ r.length ≤ k ∧ wr.ownsRow w3.heap.size 34 2 o r.length (flat r) ∧ Below w3.heap.size w3 wr) (fun _ i _ => l.length - (intOf i).toNat)
    case atStart => exact ⟨0, [], rfl, Nat.zero_le _, by rw [List.take_zero]; exact mi_nil, Nat.le_refl _, own_nil _ _ _ _, Below.refl _ _⟩
    case round =>
      obtain ⟨k, r, rfl, hk, HM, hrk, hown, hbw⟩ := hrel
      by_cases hlt : k < l.length
      · obtain ⟨b, off, rfl, hbk⟩ := hr3.addr (by omega)
        have c0 := (hr3.below hbw).s0 k hlt
        have c1 := (hr3.below hbw).s1 k hlt
        have hstep := mi_step HM.out (HokL.out k hlt) (Hord.out k hlt)
        rw [← sp_at L k (by rw [HL.out]; exact hlt), ← List.take_succ_eq_append_getElem, sp_at L k (by rw [HL.out]; exact hlt)] at hstep
        have hbk2 : b < wr.heap.size := Nat.lt_of_lt_of_le hbk hbw.size
        generalize fr L k = p at *
        generalize tt L k = q at *
        have hown1 := hown.alloc (.cells #[.int .i64 p, .int .i64 q] 34)
        have hal := (Below.refl w3.heap.size wr).alloc hbw.size (.cells #[.int .i64 p, .int .i64 q] 34)
        have b0 : (wr.alloc (.cells #[.int .i64 p, .int .i64 q] 34)).cell? ⟨wr.heap.size, 0, none⟩ = some (.int .i64 p) := by simp
        have b1 : (wr.alloc (.cells #[.int .i64 p, .int .i64 q] 34)).cell? ⟨wr.heap.size, 1, none⟩ = some (.int .i64 q) := by simp
        have hgt : wr.heap.size < (wr.alloc (.cells #[.int .i64 p, .int .i64 q] 34)).heap.size := by simp
        by_cases hr : 0 < r.length
        · obtain ⟨g, cap2, rfl, hgb, hglt, hcap2, hcm2⟩ := own_form hown hr
          have hsp := spans_of_own hown1
          by_cases hj : p ≤ tt r (r.length - 1)
          · rw [mrg_join hr hj] at hstep
            have Hstep := Lib.hid hstep; clear hstep
            go_wp2_with fail
            generalize wr.alloc (.cells #[.int .i64 p, .int .i64 q] 34) = w4 at *
            have e1 := fun x : BW w4 => (hsp.bw x).c1 (r.length - 1) (by omega)
            have e0 := fun x : BW w4 => bw_cell x b0 hgt
            simp only [Nat.zero_add] at e1
            refine wp_region_below (by kernel_rfl) (by kernel_rfl) ?_
            repeat (go_big_quiet_step (fail))
            refine wpQuiet_nil ?_
            rintro w5 ⟨⟨_, hb5⟩, rfl⟩
            have hb5 := hb5.trans (below_drew _ _)
            have hown5 : w5.drew.ownsRow w3.heap.size 34 2 _ r.length (flat r) := own_below hown1 hb5 (Nat.le_refl _)
            have b0 : w5.drew.cell? ⟨wr.heap.size, 0, none⟩ = some (.int .i64 p) := (hb5.cell (p := ⟨wr.heap.size, 0, none⟩) hgt).trans b0
            have b1 : w5.drew.cell? ⟨wr.heap.size, 1, none⟩ = some (.int .i64 q) := (hb5.cell (p := ⟨wr.heap.size, 1, none⟩) hgt).trans b1
            have hB5 : Below w3.heap.size w3 w5.drew := hbw.trans (hal.trans (hb5.mono (Nat.le_trans hbw.size hal.size)))
            clear e0 e1
            go_wp2_with fail
            have c1 := (spans_of_own hown5).c1 (r.length - 1) (by omega)
            have f1 := hown5.frozenAt ((r.length - 1) * 2 + 1)
            rw [Nat.zero_add] at c1
            have hsum : IntKind.i64.wrap ((r.length : Int) - 1) = (r.length : Int) - 1 := IntWalk.i64_in _ (by omega)
            have hkl : r.length - 1 < r.length := by omega
            have hk1 : (0 : Int) ≤ (r.length : Int) - 1 := by omega
            have hk2 : ((r.length : Int) - 1).toNat = r.length - 1 := by omega
            have hk3 : (1 : Int) ≤ (r.length : Int) := by omega
            have hk4 : 1 ≤ r.length := by omega
            have hk5 : (r.length : Int) - 1 < (r.length : Int) := by omega
            go_still_tail 14, (by kernel_rfl)
            change wpList _ _ _ _ _ w5.drew
            generalize w5.drew = w6 at *
            clear hsum hk1 hk2 hk3 hk4 hk5
            generalize hmx : max (tt r (r.length - 1)) q = mx at *
            clear hmx
            have hst := (hown5.stored ((r.length - 1) * 2 + 1) (.int .i64 mx)).1
            rw [flat_last hr] at hst
            have hB6 : Below w3.heap.size w3 (w6.setCell ⟨g, (r.length - 1) * 2 + 1, none⟩ (.int .i64 mx)) := hB5.setCell hgb _
            have Hst := Lib.hid hst; clear hst
            have HB6 := Lib.hid hB6; clear hB6
            go_wp2
            go_roundw
            case rel => exact ⟨k + 1, _, by go_num, hlt, Hstep.out, by rw [join_len hr]; omega, by rw [join_len hr]; exact Hst.out, HB6.out⟩
            case measure => simp [intOf]; omega
          · have hj2 : ¬ (0 < r.length ∧ p ≤ tt r (r.length - 1)) := fun h => hj h.2
            rw [mrg_push hj2] at hstep
            have Hstep := Lib.hid hstep; clear hstep
            have hj3 : tt r (r.length - 1) < p := by omega
            clear hj hj2
            go_wp2_with fail
            generalize wr.alloc (.cells #[.int .i64 p, .int .i64 q] 34) = w4 at *
            have e1 := fun x : BW w4 => (hsp.bw x).c1 (r.length - 1) (by omega)
            have e0 := fun x : BW w4 => bw_cell x b0 hgt
            simp only [Nat.zero_add] at e1
            refine wp_region_below (by kernel_rfl) (by kernel_rfl) ?_
            repeat (go_big_quiet_step (fail))
            refine wpQuiet_nil ?_
            rintro w5 ⟨⟨_, hb5⟩, rfl⟩
            have hown5 := own_below hown1 hb5 (Nat.le_refl _)
            have b0 := (hb5.cell (p := ⟨wr.heap.size, 0, none⟩) hgt).trans b0
            have b1 := (hb5.cell (p := ⟨wr.heap.size, 1, none⟩) hgt).trans b1
            have hB5 : Below w3.heap.size w3 w5 := hbw.trans (hal.trans (hb5.mono (Nat.le_trans hbw.size hal.size)))
            clear e0 e1
            go_wp2_with (at_builtin; refine append_span tSpans tSpanInfo (by rfl) (.tmp 50) (.tmp 52) (by rfl) w3.heap.size _ r _ _ (by rfl) hown5 (by rfl) (by omega) hB5.size ?_; intro v6 w6 hown6 hb6; have hB6 := hB5.trans hb6)
            go_roundw
            case rel => exact ⟨k + 1, _, by go_num, hlt, Hstep.out, by simp; omega, hown6, hB6⟩
            case measure => simp [intOf]; omega
        · obtain rfl : r = [] := List.length_eq_zero_iff.1 (by omega)
          rw [mrg_push (by simp)] at hstep
          have Hstep := Lib.hid hstep; clear hstep
          obtain ⟨A2, cap2, rfl⟩ : ∃ A cap, u5 = .slice A 0 cap := by
            rcases hown.2 with ⟨h, _⟩ | ⟨g, cap, cur, h, _⟩
            · exact ⟨_, _, h⟩
            · exact ⟨_, _, h⟩
          go_wp2_with fail
          generalize wr.alloc (.cells #[.int .i64 p, .int .i64 q] 34) = w4 at *
          have e0 := fun x : BW w4 => bw_cell x b0 hgt
          refine wp_region_below (by kernel_rfl) (by kernel_rfl) ?_
          repeat (go_big_quiet_step (fail))
          refine wpQuiet_nil ?_
          rintro w5 ⟨⟨_, hb5⟩, rfl⟩
          have hown5 := own_below hown1 hb5 (Nat.le_refl _)
          have b0 := (hb5.cell (p := ⟨wr.heap.size, 0, none⟩) hgt).trans b0
          have b1 := (hb5.cell (p := ⟨wr.heap.size, 1, none⟩) hgt).trans b1
          have hB5 : Below w3.heap.size w3 w5 := hbw.trans (hal.trans (hb5.mono (Nat.le_trans hbw.size hal.size)))
          clear e0
          go_wp2_with (at_builtin; refine append_span tSpans tSpanInfo (by rfl) (.tmp 50) (.tmp 52) (by rfl) w3.heap.size _ [] _ _ (by rfl) hown5 (by rfl) (by simp) hB5.size ?_; intro v6 w6 hown6 hb6; have hB6 := hB5.trans hb6)
          go_roundw
          case rel => exact ⟨k + 1, _, by go_num, hlt, Hstep.out, by simp, hown6, hB6⟩
          case measure => simp [intOf]; omega
      · obtain rfl : k = l.length := by omega
        have hM := HM.out
        rw [← HL.out, List.take_length] at hM
        have hspec := of_sorted Ho.out Hp.out hM
        have hd : Calls Tryz.prog 92 #[u5] _ (RetLE _ (opR r)) := rdone_c _ r _ (spans_of_own hown)
        generalize opR r = res at hspec hd
        have Hspec := Lib.hid hspec; clear hspec hM
        have Hd := Lib.hid hd; clear hd
        go_wp2_with fail
        refine Hd.out.mono ?_
        rintro e w4 ⟨v4, rfl, hv4, hb4⟩
        have hB4 := hB3.trans ((hbw.trans (hb4.mono hbw.size)).mono hB3.size)
        go_wp2
        go_ret2
        exact ⟨res, Hspec.out, v4, rfl, hv4, hB4⟩
end Go.Proofs.YtohjgegnamcnlaaGreat


/- sweep.Nearest and the reference's: the plain law, the walks. -/
namespace Go.Proofs.YtohjgegnamcnlaaGreat
open Go.RowKit Go.Shelf

def distI (s t : Sp) : Int := max (max 0 (t.1 - s.2)) (s.1 - t.2)
/-- Among the first m, the first of the nearest. -/
structure NearTo (s : Sp) (b : List Sp) (m k : Nat) : Prop where
  lt : k < m
  low : ∀ j, j < k → distI s (sp b k) < distI s (sp b j)
  high : ∀ j, k < j → j < m → distI s (sp b k) ≤ distI s (sp b j)
theorem near_one {s : Sp} {b : List Sp} {m k k' : Nat} (h : NearTo s b m k) (h' : NearTo s b m k') : k = k' := by
  rcases Nat.lt_trichotomy k k' with e | e | e
  · have := h'.low k e; have := h.high k' e h'.lt; omega
  · exact e
  · have := h.low k' e; have := h'.high k e h.lt; omega
theorem near_zero (s : Sp) (b : List Sp) : NearTo s b 1 0 := ⟨by omega, fun j hj => absurd hj (by omega), fun j h1 h2 => absurd h2 (by omega)⟩
theorem near_keep {s : Sp} {b : List Sp} {m k : Nat} (h : NearTo s b m k) (hd : ¬ distI s (sp b m) < distI s (sp b k)) : NearTo s b (m + 1) k := ⟨Nat.lt_succ_of_lt h.lt, h.low, fun j h1 h2 => by
  rcases Nat.eq_or_lt_of_le (show j ≤ m by omega) with e | e
  · rw [e]; omega
  · exact h.high j h1 e⟩
theorem near_take {s : Sp} {b : List Sp} {m k : Nat} (h : NearTo s b m k) (hd : distI s (sp b m) < distI s (sp b k)) : NearTo s b (m + 1) m := ⟨by omega, fun j hj => by
  rcases Nat.lt_trichotomy j k with e | e | e
  · have := h.low j e; omega
  · rw [e]; exact hd
  · have := h.high j e hj; omega, fun j h1 h2 => absurd h2 (by omega)⟩
/-- The nearest of each. -/
structure NearL (a b : List Sp) (n : Nat) (R : List Nat) : Prop where
  len : R.length = n
  each : ∀ i, i < n → NearTo (sp a i) b b.length (ix R i)
theorem nearL_one {a b : List Sp} {n : Nat} {R R' : List Nat} (h : NearL a b n R) (h' : NearL a b n R') : R = R' := by
  refine List.ext_getElem (h.len.trans h'.len.symm) fun i h1 h2 => ?_
  rw [ix_at h1, ix_at h2]
  exact near_one (h.each i (h.len ▸ h1)) (h'.each i (h.len ▸ h1))
theorem nearL_zero (a b : List Sp) : NearL a b 0 [] := ⟨rfl, fun i hi => absurd hi (by omega)⟩
theorem nearL_step {a b : List Sp} {n k : Nat} {R : List Nat} (h : NearL a b n R) (hk : NearTo (sp a n) b b.length k) : NearL a b (n + 1) (R ++ [k]) := by
  refine ⟨by simp [h.len], fun i hi => ?_⟩
  rcases Nat.eq_or_lt_of_le (show i ≤ n by omega) with e | e
  · have : ix (R ++ [k]) i = k := by simp [ix, e, ← h.len]
    rw [this, e]; exact hk
  · have : ix (R ++ [k]) i = ix R i := by
      have : i < R.length := by rw [h.len]; exact e
      simp [ix, List.getElem?_append_left this]
    rw [this]; exact h.each i e
def NearSpec (a b : List Sp) (r : List Nat) (k : Int) : Prop :=
  if (rightB a && rightB b) = true then (if b.length = 0 ∧ 0 < a.length then r = [] ∧ k = 7 else NearL a b a.length r ∧ k = 0) else r = [] ∧ k = 1
theorem ok_of_all {l : List Sp} (h : l.all okSpan = true) {i : Nat} (hi : i < l.length) : -4398046511104 ≤ fr l i ∧ fr l i < tt l i ∧ tt l i ≤ 4398046511104 := by
  have := okS_all h _ (idx_mem hi); unfold OkSp at this; exact this
theorem max_ifs (s0 s1 t0 t1 : Int) : (if (if s1 < t0 then t0 - s1 else 0) < s0 - t1 then s0 - t1 else if s1 < t0 then t0 - s1 else 0) = max (max 0 (t0 - s1)) (s0 - t1) := by
  split <;> split <;> omega
def NearSt (s : Sp) (b : List Sp) (m nb : Nat) (L : Int) : Prop := (m = 0 ∧ nb = 0 ∧ L = 0) ∨ (NearTo s b m nb ∧ L = distI s (sp b nb))

theorem distI_1 {a b c d : Int} (h1 : a < b) (h2 : c < d) (h3 : b < c) : distI (a, b) (c, d) = c - b := by simp only [distI]; omega
theorem distI_2 {a b c d : Int} (h1 : a < b) (h2 : c < d) (h3 : d < a) : distI (a, b) (c, d) = a - d := by simp only [distI]; omega
theorem distI_3 {a b c d : Int} (h1 : ¬ b < c) (h2 : ¬ d < a) : distI (a, b) (c, d) = 0 := by simp only [distI]; omega
end Go.Proofs.YtohjgegnamcnlaaGreat


/- The examples of chapter 12: awake answers true. -/
namespace Go.Proofs.YtohjgegnamcnlaaGreat
open Go.RowKit

theorem spans_lit {w : World} {cs : Array Value} {t : TypeId} (b : Nat) (l : List Sp) (n : Nat) (hb : w.heap.size = b) (hn : n = l.length) (hc : cs.toList = flat l) (hl : n ≤ 1000000) : IsSpans (w.alloc (.cells cs t)) (.slice (some ⟨b, 0, none⟩) n n) l := by
  subst hn hb
  refine ⟨_, l.length, rfl, Nat.le_refl _, by omega, fun _ => ⟨w.heap.size, 0, rfl, by simp, fun i j hi hj => ?_⟩⟩
  have e : cs = (flat l).toArray := by rw [← hc]
  subst e
  have := flat_get l i j hi hj
  simp [this]

theorem op_ok {g : Bool → Bool → Bool} {a b l : List Sp} {r : List Sp × Int} (h : OpSpec g a b r) (ha : validB a = true) (hb : validB b = true) (hl : IsOp g a b l) (h2 : l.length ≤ 2000) : r = (l, 0) := by
  rw [OpSpec, if_pos (by rw [ha, hb]; rfl)] at h
  obtain ⟨l', h1, _, rfl⟩ := h
  rw [isOp_unique h1 hl, opR, if_pos h2]

theorem awake12_union : IsOp gUnion [(0, 3)] [(3, 5)] [(0, 5)] := by
  refine ⟨⟨by simp [OkSp], by simp⟩, fun x => ?_⟩
  rw [Bool.eq_iff_iff]
  simp [mem, gUnion]
  omega

end Go.Proofs.YtohjgegnamcnlaaGreat
