/- Law 39: the two halves of an assignment to a map's entry, in any world in which the map's block is as it was. -/
import Derived.Test.YtohjgegnamcnlaaGreatAgJ
namespace Go.Proofs.YtohjgegnamcnlaaGreat
open Go.RowKit Go.Shelf
open Go.ChangeMaps (setBlock heap_setBlock_same heap_setBlock_other)
open Go.WideElems Go.MapKept Go.ChangeShapes Go.WideShapes

theorem key_pos {es : List MapEntry} (hp : es.Pairwise (fun x y => x.key ≠ y.key)) {i j : Nat} {a b : MapEntry} (hi : es[i]? = some a) (hj : es[j]? = some b) (h : a.key = b.key) : i = j := by
  obtain ⟨h1, rfl⟩ := List.getElem?_eq_some_iff.1 hi
  obtain ⟨h2, rfl⟩ := List.getElem?_eq_some_iff.1 hj
  rcases Nat.lt_trichotomy i j with e | e | e
  · exact absurd h (List.pairwise_iff_getElem.1 hp i j h1 h2 e)
  · exact e
  · exact absurd h.symm (List.pairwise_iff_getElem.1 hp j i h2 h1 e)
theorem entry_store {w : World} {b n : Nat} {f : ByteArray → Option Value} {t e : TypeId} (h : MapIs w b n f) (hn : n < 1000000000) (ht : Tryz.prog.underlying t = some (.map 9 e)) {z : Value} (hz : ∀ u : World, (zeroValue e).run Tryz.prog u = .ok z u) {s : ByteArray} (hs : s.size ≤ maxLen) (v : Value) :
    ∃ (v0 : Value) (st : Nat) (o1 o2 : Obj), (∀ W : World, W.heap[b]? = w.heap[b]? → (Instr.mapEntry t (.map (some b)) (.string s)).run Tryz.prog W = .ok (.tuple #[v0, .int .i64 (st : Int)]) (setBlock W b o1)) ∧
      (∀ W : World, W.heap[b]? = some o1 → (Instr.entryStore t (.map (some b)) (.int .i64 (st : Int)) v).run Tryz.prog W = .ok () (setBlock W b o2)) ∧
      ∀ W : World, W.heap[b]? = some o2 → MapIs W b (n + 1) (updF f s (some v)) := by
  obtain ⟨D, hown, hf⟩ := h
  obtain ⟨w2, hrun2, hown2, hgr2⟩ := hown.update Kst ht (show n < maxLen by unfold maxLen; omega) (key_mk hs) (val := v) (d := .held v) (ps := []) rfl
  have hf2 := hf.put hown.isMap hs v
  obtain ⟨es, clock, hb, F, hsz, rfl⟩ := hown
  obtain ⟨s1, s2, s3⟩ := F.stamped
  have hpw := ((stamped_iff es clock).1 F.stamped).2.2
  have K := WideMaps.string_law tStr
  have hkey := key_mk hs
  have mk : ∀ (o2 : Obj), (Instr.mapUpdate t (.map (some b)) (.string s) v).run Tryz.prog w = .ok () (setBlock w b o2) → ∀ W : World, W.heap[b]? = some o2 → MapIs W b (n + 1) (updF f s (some v)) := fun o2 he W hW => by
    rw [hrun2] at he
    injection he with _ he
    subst he
    have hM : MapIs (setBlock w b o2) b (n + 1) (updF f s (some v)) := ⟨_, hown2, hf2⟩
    refine hM.block ?_
    rw [hW]
    exact (heap_setBlock_same hb o2).symm
  rcases K.find w hkey es.toList F.keys with ⟨h1, h2⟩ | ⟨j, e0, h1, h2, h3⟩
  · refine ⟨z, clock, .map (es.push ⟨.string s, z, clock⟩) (clock + 1), .map (es.push ⟨.string s, v, clock⟩) (clock + 1), fun W hW => ?_, fun W hW => ?_, mk _ ?_⟩
    · have hbW := hW.trans hb
      have hfind : (Instr.findKey 9 (.string s) es.toList).run Tryz.prog W = .ok none W := by
        rcases K.find W hkey es.toList F.keys with ⟨g1, _⟩ | ⟨j, e0, _, g2, g3⟩
        · exact g1
        · exact absurd g3 (h2 e0 (List.mem_of_getElem? g2))
      simp [Instr.mapEntry, run_underlying ht, MapKept.run_getObj_map hbW, K.check W false hkey, hfind, hz, MapKept.run_setObj_map _ hbW, Result.andThen, setBlock, goInt]
    · have hidx : (es.push ⟨.string s, z, clock⟩).findIdx? (fun e => ((e.born : Nat) : Int) == ((clock : Nat) : Int)) = some es.size := by
        rw [findIdx_arr]
        have := findIdx_born (l := (es.push ⟨.string s, z, clock⟩).toList) (j := es.size) (e0 := ⟨.string s, z, clock⟩) (by
          simp only [Array.toList_push, List.map_append, List.map_cons, List.map_nil]
          refine List.nodup_append.2 ⟨s2, by simp, fun a ha c hc e1 => ?_⟩
          simp only [List.mem_singleton] at hc
          obtain ⟨x, hx, rfl⟩ := List.mem_map.1 ha
          have := s1 x hx
          omega) (by simp)
        exact this
      have hmod : (es.push ⟨.string s, z, clock⟩).modify es.size (fun e => { e with val := v }) = es.push ⟨.string s, v, clock⟩ := by
        apply Array.ext'
        rw [Array.toList_modify, Array.toList_push, Array.toList_push, ← Array.length_toList, modify_last]
      simp [Instr.entryStore, MapKept.run_getObj_map hW, asInt, asIntOf, hidx, hmod, MapKept.run_setObj_map _ hW, Result.andThen, setBlock]
    · simp [Instr.mapUpdate, run_underlying ht, MapKept.run_getObj_map hb, K.check w false hkey, h1, MapKept.run_setObj_map _ hb, Result.andThen, setBlock]
  · have hj : es[j]? = some e0 := by simpa using h2
    have hsame : es.modify j (fun e => { e with key := .string s }) = es := by
      apply Array.ext'
      rw [Array.toList_modify, Go.ChangeMaps.modify_eq_set _ _ _ _ h2]
      have : ({ e0 with key := .string s } : MapEntry) = e0 := by rw [← h3]
      rw [this]
      exact set_self _ _ _ h2
    refine ⟨e0.val, e0.born, .map es clock, .map (es.modify j (fun e' => { e' with key := .string s, val := v })) clock, fun W hW => ?_, fun W hW => ?_, mk _ ?_⟩
    · have hbW := hW.trans hb
      have hfind : (Instr.findKey 9 (.string s) es.toList).run Tryz.prog W = .ok (some (j, e0.val)) W := by
        rcases K.find W hkey es.toList F.keys with ⟨_, g2⟩ | ⟨j', e', g1, g2, g3⟩
        · exact absurd h3 (g2 e0 (List.mem_of_getElem? h2))
        · have e1 : j' = j := key_pos hpw g2 h2 (g3.trans h3.symm)
          subst e1
          rw [h2] at g2
          have g4 := Option.some.inj g2
          rw [g4]
          exact g1
      simp [Instr.mapEntry, run_underlying ht, MapKept.run_getObj_map hbW, K.check W false hkey, hfind, hj, h3, K.stays W hkey, hsame, MapKept.run_setObj_map _ hbW, Result.andThen, setBlock, goInt]
    · have hidx : es.findIdx? (fun e => ((e.born : Nat) : Int) == ((e0.born : Nat) : Int)) = some j := by
        rw [findIdx_arr]
        exact findIdx_born s2 h2
      have hmod : es.modify j (fun e => { e with val := v }) = es.modify j (fun e' => { e' with key := .string s, val := v }) := by
        apply Array.ext'
        rw [Array.toList_modify, Array.toList_modify, Go.ChangeMaps.modify_eq_set _ _ _ _ h2, Go.ChangeMaps.modify_eq_set _ _ _ _ h2, ← h3]
      simp [Instr.entryStore, MapKept.run_getObj_map hW, asInt, asIntOf, hidx, hmod, MapKept.run_setObj_map _ hW, Result.andThen, setBlock]
    · simp [Instr.mapUpdate, run_underlying ht, MapKept.run_getObj_map hb, K.check w false hkey, h1, hj, h3, K.stays w hkey, MapKept.run_setObj_map _ hb, Result.andThen, setBlock]
end Go.Proofs.YtohjgegnamcnlaaGreat
