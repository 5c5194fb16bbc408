/- Law 39: the memory of AggregateForm: the clone as own facts; append behind a slice that is full. -/
import Derived.Test.YtohjgegnamcnlaaAhn
import Derived.Test.YtohjgegnamcnlaaAhy
import Derived.Test.YtohjgegnamcnlaaAhz
namespace Go.Proofs.Ytohjgegnamcnlaa
open Go.RowKit Go.Shelf

section
variable {F : List Fct} {S : Nat → Value}
def fxL (F : List Fct) (S : Nat → Value) : List Fx := (List.range F.length).map fun i => (S i, fc F i)
theorem fxL_len : (fxL F S).length = F.length := by simp [fxL]
theorem fxL_ct : (fxL F S).flatMap encFx = ctT F S fun i => (fc F i).2.2 := by
  unfold fxL ctT
  rw [List.flatMap_map]
  rfl
theorem fxL_map : (fxL F S).map (·.2) = F := by
  apply List.ext_getElem
  · simp [fxL]
  · intro i h1 h2
    simp [fxL, fc_at h2]
theorem fxL_mem {x : Fx} (h : x ∈ fxL F S) : ∃ i, i < F.length ∧ x = (S i, fc F i) := by
  unfold fxL at h
  obtain ⟨i, hi, rfl⟩ := List.mem_map.1 h
  exact ⟨i, List.mem_range.1 hi, rfl⟩
theorem clone_own {w w' : World} {v : Value} (h : w'.ownsRow w.heap.size 29 3 v F.length (ctT F S fun i => (fc F i).2.2)) (hv : ∀ i, i < F.length → IsVals w (S i) (fc F i).1) (hl : ∀ f ∈ F, 0 < f.1.length) (hb : Below w.heap.size w w') : OwnsFx w' w.heap.size v (fxL F S) := by
  refine ⟨by rw [fxL_len, fxL_ct]; exact h, fun x hx => ?_⟩
  obtain ⟨i, hi, rfl⟩ := fxL_mem hx
  refine ⟨(hv i hi).below hb, fun b hbb => ?_⟩
  have h1 := (hv i hi).blk_lt (hl _ (fc_mem hi)) b hbb
  refine ⟨Nat.lt_of_lt_of_le h1 hb.size, fun e => ?_⟩
  have := World.ownsRow.lt h b e
  omega
end
theorem append_full_fx {o : Oper} {a : Act} {K : Act → World → Prop} {Q : Exit → Act → World → Prop} (s x : Operand)
    (ho : o.op = .call { callee := .builtin .append, args := #[s, x], argTypes := #[22, 22] })
    {w : World} {g off b n : Nat} (G : List Fx) (y z : Fx) (hGn : G.length = n) (hs : a.eval s = .slice (some ⟨g, off, none⟩) n n) (hold : ∀ j u, (G.flatMap encFx)[j]? = some u → w.cell? ⟨g, off + j, none⟩ = some u)
    (hx : a.eval x = .slice (some ⟨b, 0, none⟩) 2 2) (hnew : ∀ j u, (encFx y ++ encFx z)[j]? = some u → w.cell? ⟨b, j, none⟩ = some u) (hn : G.length ≤ 1000000)
    (hrow : ∀ q ∈ G ++ [y, z], IsVals w q.1 q.2.1 ∧ ∀ b, sblk q.1 = some b → b < w.heap.size)
    (h : ∀ v' w', OwnsFx w' w.heap.size v' (G ++ [y, z]) → Below w.heap.size w w' → K (a.put o.dst v') w') : o.wp Try.prog a w K Q := by
  subst hGn
  obtain ⟨i, hi, hzz, hss, hbb⟩ := info_parts tFactInfoA
  have hol : (G.flatMap encFx).length = G.length * 3 := flatK_len (k := 3) (fun _ => rfl) G
  have hr := run_append_grow (P := Try.prog) w 22 o.type 29 i _ tFacts hi hzz ⟨g, off, none⟩ G.length G.length (G.flatMap encFx) (by rw [hss]; exact hol) (fun j u hu => by rw [Addr.add_lit]; exact hold j u hu) ⟨b, 0, none⟩ 2 2 (encFx y ++ encFx z) (by rw [hss]; rfl) (fun j u hu => by rw [Addr.add_lit, Nat.zero_add]; exact hnew j u hu) (by omega) (by omega) (growslice_fits (by omega) (by rw [hbb]; omega))
  unfold Oper.wp execOp
  simp only [ho, resolve, invoke, builtin, Sem.run_bind, Sem.run_pure, Result.andThen_ok, List.map_toArray, List.map_cons, List.map_nil, hs, hx, hr]
  have hge := grownCap_ge w (G.length + 2) G.length 29
  have hcm := grownCap_le_maxLen w (G.length + 2) G.length 29 (by unfold maxLen; omega)
  generalize grownCap w (G.length + 2) G.length 29 = cap at *
  have hfl : (G ++ [y, z]).flatMap encFx = G.flatMap encFx ++ (encFx y ++ encFx z) := by rw [List.flatMap_append]; simp
  have hl : (G.flatMap encFx ++ (encFx y ++ encFx z)).length = (G ++ [y, z]).length * 3 := by
    have h6 : (encFx y ++ encFx z).length = 6 := rfl
    have h2 : [y, z].length = 2 := rfl
    rw [List.length_append, hol, h6, List.length_append, h2]
    omega
  have hb : Below w.heap.size w (w.drew.alloc (.cells ((G.flatMap encFx).toArray ++ (encFx y ++ encFx z).toArray ++ Builtin.zeroCells (Value.cells (.agg #[.slice none 0 0, .int .i64 0, .int .i64 0])) (cap - (G.length + 2))) 29)) := (Below.refl _ w).drew.alloc (Nat.le_refl _) _
  refine h _ _ ⟨⟨?_, .inr ⟨w.heap.size, cap, _, ?_, Nat.le_refl _, heap_alloc_new w.drew _, ?_, hcm, ?_, ?_⟩⟩, fun q hq => ?_⟩ hb
  · rw [hfl]; exact hl
  · simp
  · simpa using hge
  · simp only [Array.size_append, List.size_toArray, size_zeroCells, hol]
    have hz3 : (Value.cells (.agg #[.slice none 0 0, .int .i64 0, .int .i64 0])).size = 3 := rfl
    have hl6 : (encFx y ++ encFx z).length = 6 := rfl
    rw [hz3, hl6]
    omega
  · rw [hfl]
    rw [Array.toList_append, Array.toList_append]
    exact List.take_left' hl
  · obtain ⟨h1, h2⟩ := hrow q hq
    refine ⟨h1.below hb, fun c hc => ⟨Nat.lt_of_lt_of_le (h2 c hc) hb.size, fun e => ?_⟩⟩
    have e2 : w.heap.size = c := Option.some.inj e
    have := h2 c hc
    omega
end Go.Proofs.Ytohjgegnamcnlaa
