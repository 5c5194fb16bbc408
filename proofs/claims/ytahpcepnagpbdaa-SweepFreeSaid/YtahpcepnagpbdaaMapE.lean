/- 'm[k] = v' where the translation first finds the entry and later stores into it: the two together are one store. No program in sight. -/
import Derived.Maps.Own
import Derived.Maps.OwnOps
import Derived.Test.YtahpcepnagpbdaaBase
namespace Go.Proofs.Ytahpcepnagpbdaa
open Go.RowKit
open Go.ChangeShapes Go.WideShapes Go.MapKept
open Go.ChangeMaps (setBlock heap_setBlock_same)
open Go.WideElems (Fit)
open Go.Maps (Keyed)

/-- An entry of map b has been found (or laid) for a key: a store of whatever value into it is what the map's own store would have left. -/
def Pend (P : Program) (t : TypeId) (b : Nat) (key : Value) (w w1 : World) (born : Int) : Prop :=
  ∀ val : Value, ∃ w2, (Instr.entryStore t (.map (some b)) (.int .i64 born) val).run P w1 = .ok () w2 ∧ (Instr.mapUpdate t (.map (some b)) key val).run P w = .ok () w2

theorem set_twice {α : Type} (a : Array α) (i : Nat) (x y : α) : (a.setIfInBounds i x).setIfInBounds i y = a.setIfInBounds i y := by
  apply Array.ext_getElem?
  intro j
  simp only [Array.getElem?_setIfInBounds, Array.size_setIfInBounds]
  split <;> rfl
theorem find_born {es : Array MapEntry} {j : Nat} {e0 : MapEntry} (hj : es[j]? = some e0) (hn : (es.toList.map (·.born)).Nodup) : es.findIdx? (fun e => ((e.born : Nat) : Int) == ((e0.born : Nat) : Int)) = some j := by
  rw [Array.findIdx?_eq_some_iff_getElem]
  have hlt : j < es.size := (Array.getElem?_eq_some_iff.1 hj).1
  have he : es[j] = e0 := (Array.getElem?_eq_some_iff.1 hj).2
  refine ⟨hlt, by rw [he]; simp, fun i hi => ?_⟩
  have hne := (List.pairwise_iff_getElem.1 hn) i j (by simp; omega) (by simp; omega) hi
  simp only [List.getElem_map, Array.getElem_toList, he] at hne
  simp only [beq_iff_eq]
  omega
section
variable {H : Type} {P : Program} {k e t : TypeId} {R : Value → Option (DataW H × List MemPlace)} {es : Array MapEntry} {clock b : Nat} {w : World}
theorem store_run {w : World} {es : Array MapEntry} {clock j born : Nat} (hb : w.heap[b]? = some (.map es clock)) (hf : es.findIdx? (fun e => ((e.born : Nat) : Int) == ((born : Nat) : Int)) = some j) (val : Value) :
    (Instr.entryStore t (.map (some b)) (.int .i64 (born : Int)) val).run P w = .ok () (setBlock w b (.map (es.modify j fun e => { e with val := val }) clock)) := by
  simp [Instr.entryStore, MapKept.run_getObj_map hb, asInt, asIntOf, hf, MapKept.run_setObj_map _ hb, Result.andThen, setBlock]
theorem entry_pend (K : Keyed P k) (ht : P.underlying t = some (.map k e)) (hb : w.heap[b]? = some (.map es clock)) (F : Fit P k R es clock) {key : Value} {kl : Lit} (hkey : keyOf P k key = some kl) {z : Value} (hz : (zeroValue e).run P w = .ok z w) :
    ∃ v0 born w1, (Instr.mapEntry t (.map (some b)) key).run P w = .ok (.tuple #[v0, .int .i64 born]) w1 ∧ Pend P t b key w w1 born ∧ (∃ o, w1 = setBlock w b o) := by
  obtain ⟨s1, s2, s3⟩ := (stamped_iff es clock).1 F.stamped
  rcases K.find w hkey es.toList F.keys with ⟨h1, h2⟩ | ⟨j, e0, h1, h2, h3⟩
  · refine ⟨z, clock, setBlock w b (.map (es.push ⟨key, z, clock⟩) (clock + 1)), ?_, fun val => ⟨setBlock w b (.map (es.push ⟨key, val, clock⟩) (clock + 1)), ?_, ?_⟩, _, rfl⟩
    · simp [Instr.mapEntry, run_underlying ht, MapKept.run_getObj_map hb, K.check w false hkey, h1, hz, MapKept.run_setObj_map _ hb, Result.andThen, setBlock]
      rfl
    · have hb1 : (setBlock w b (.map (es.push ⟨key, z, clock⟩) (clock + 1))).heap[b]? = some (.map (es.push ⟨key, z, clock⟩) (clock + 1)) := heap_setBlock_same hb _
      have hpush : (es.push ⟨key, z, clock⟩)[es.size]? = some ⟨key, z, clock⟩ := by simp
      have hnd : ((es.push ⟨key, z, clock⟩).toList.map (·.born)).Nodup := by
        rw [Array.toList_push, List.map_append, List.nodup_append]
        refine ⟨s2, by simp, fun a ha c hc => ?_⟩
        obtain ⟨x, hx, rfl⟩ := List.mem_map.1 ha
        have h4 := s1 x hx
        simp at hc
        omega
      have hf := find_born hpush hnd
      simp only at hf
      rw [store_run hb1 hf val]
      congr 1
      unfold setBlock
      simp only [set_twice]
      congr 2
      refine congrArg (fun x => Obj.map x (clock + 1)) ?_
      apply Array.ext_getElem?
      intro i
      simp only [Array.getElem?_modify, Array.getElem?_push]
      by_cases hi : es.size = i
      · subst hi; simp
      · rw [if_neg hi]
        by_cases hi2 : i = es.size
        · exact absurd hi2.symm hi
        · rw [if_neg hi2, if_neg hi2]
    · simp [Instr.mapUpdate, run_underlying ht, MapKept.run_getObj_map hb, K.check w false hkey, h1, MapKept.run_setObj_map _ hb, Result.andThen, setBlock]
  · have hj : es[j]? = some e0 := by simpa using h2
    have hj1 : (es.modify j fun e' => { e' with key := key })[j]? = some { e0 with key := key } := by simp [Array.getElem?_modify, hj]
    have hnd : ((es.modify j fun e' => { e' with key := key }).toList.map (·.born)).Nodup := by
      have : (es.modify j fun e' => { e' with key := key }).toList.map (·.born) = es.toList.map (·.born) := by
        apply List.ext_getElem?
        intro i
        simp only [List.getElem?_map, Array.getElem?_toList, Array.getElem?_modify]
        by_cases hi : j = i
        · subst hi; simp [hj]
        · simp [hi]
      rw [this]; exact s2
    have hb1 : (setBlock w b (.map (es.modify j fun e' => { e' with key := key }) clock)).heap[b]? = some (.map (es.modify j fun e' => { e' with key := key }) clock) := heap_setBlock_same hb _
    have hf := find_born hj1 hnd
    simp only at hf
    refine ⟨e0.val, e0.born, setBlock w b (.map (es.modify j fun e' => { e' with key := key }) clock), ?_, fun val => ⟨setBlock w b (.map (es.modify j fun e' => { e' with key := key, val := val }) clock), ?_, ?_⟩, _, rfl⟩
    · simp [Instr.mapEntry, run_underlying ht, MapKept.run_getObj_map hb, K.check w false hkey, h1, hj, h3, K.stays w hkey, MapKept.run_setObj_map _ hb, Result.andThen, setBlock]
      rfl
    · rw [store_run hb1 hf val]
      congr 1
      unfold setBlock
      simp only [set_twice]
      congr 2
      refine congrArg (fun x => Obj.map x clock) ?_
      apply Array.ext_getElem?
      intro i
      simp only [Array.getElem?_modify]
      by_cases hi : j = i
      · subst hi; simp [hj]
      · simp [hi]
    · simp [Instr.mapUpdate, run_underlying ht, MapKept.run_getObj_map hb, K.check w false hkey, h1, hj, h3, K.stays w hkey, MapKept.run_setObj_map _ hb, Result.andThen, setBlock]

/-- The entry is found: the step by itself. -/
theorem mapEntry_wp {o : Oper} {a : Act} {K' : Act → World → Prop} {Q : Exit → Act → World → Prop} (m x : Operand) (hop : o.op = Op.mapEntry t m x) (K : Keyed P k) (ht : P.underlying t = some (.map k e))
    {n : Nat} {D : DataW H} (hm : a.eval m = .map (some b)) (hown : w.ownsMap P k R b n D) {key : Value} {kl : Lit} (hx : a.eval x = key) (hkey : keyOf P k key = some kl) {z : Value} (hz : (zeroValue e).run P w = .ok z w)
    (hK : ∀ v0 born w1, Pend P t b key w w1 born → (∀ p : Addr, p.block ≠ b → w1.cell? p = w.cell? p) → K' (a.put o.dst (.tuple #[v0, .int .i64 born])) w1) : Oper.wp P o a w K' Q := by
  obtain ⟨es, clock, hb, F, hs, rfl⟩ := hown
  obtain ⟨v0, born, w1, hrun, hp, o1, rfl⟩ := entry_pend K ht hb F hkey hz
  unfold Oper.wp
  simp [execOp, hop, hm, hx, hrun, Result.andThen]
  exact hK v0 born _ hp (fun p hp => World.cell?_of_block (by simp [setBlock, Array.getElem?_setIfInBounds_ne (Ne.symm hp)]))
/-- The store into it: the step by itself. -/
theorem entryStore_wp {o : Oper} {a : Act} {K' : Act → World → Prop} {Q : Exit → Act → World → Prop} (m s v : Operand) (hop : o.op = Op.entryStore t m s v) (K : Keyed P k) (ht : P.underlying t = some (.map k e))
    {n : Nat} {D : DataW H} (hown : w.ownsMap P k R b n D) (hn : n < maxLen) {key : Value} {kl : Lit} (hkey : keyOf P k key = some kl) {w1 : World} {born : Int} (hp : Pend P t b key w w1 born)
    (hm : a.eval m = .map (some b)) (hs : a.eval s = .int .i64 born) {val : Value} (hv : a.eval v = val) {d : DataW H} {ps : List MemPlace} (hval : R val = some (d, ps))
    (hK : ∀ w2, w2.ownsMap P k R b (n + 1) (D.put kl d) → w.grownBy w2 (some b) → K' (a.put o.dst undef) w2) : Oper.wp P o a w1 K' Q := by
  obtain ⟨w2, r1, r2⟩ := hp val
  obtain ⟨w', hrun, h1, h2⟩ := hown.update K ht hn hkey hval
  rw [hrun] at r2
  injection r2 with _ r2
  subst r2
  unfold Oper.wp
  simp [execOp, hop, hm, hs, hv, r1, Result.andThen]
  exact hK _ h1 h2
end
end Go.Proofs.Ytahpcepnagpbdaa
