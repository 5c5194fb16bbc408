/- runs.Not with an own result; slices.DeleteFunc at spans; sweep.Free. -/
import Derived.Test.YtahpcepnagpbdaaSwU
import Derived.Test.YtahpcepnagpbdaaSwB
import Derived.Test.YtahpcepnagpbdaaSwC
import Derived.Test.YtahpcepnagpbdaaRunsR
import Derived.Lib.LazyBuf
import Derived.Lib.SliceRun
namespace Go.Proofs.Ytahpcepnagpbdaa
open Go.RowKit Go.Shelf

def OpRetO (g : Bool → Bool → Bool) (a b : List Sp) (w : World) (e : Ending) (w' : World) : Prop := ∃ r, OpSpec g a b r ∧ RetLEO w r e w'
theorem rMinusO_c (v1 v2 : Value) (a b : List Sp) (w : World) (h1 : IsSpans w v1 a) (h2 : IsSpans w v2 b) (ha : validB a = true) (hb : validB b = true) : Calls Try.prog 95 #[v1, v2] w (OpRetO gMinus a b w) := by
  go_enter Try.func95, Try.ntmps95
  go_wp2_with fail
  refine (rcombineO_ok _ ent_rMinus1 gMinus rMinus1_c _ _ a b w h1 h2 ha hb).mono ?_
  rintro e w1 ⟨m, hoff, hinv, hres⟩
  generalize hr : (if (cIter gMinus a b m).out.length ≤ 2000 then ((cIter gMinus a b m).out, (0 : Int)) else ([], 5)) = r at hres
  obtain ⟨v, rfl, hv, hbw⟩ := hres
  have Hr := Lib.hid hr
  clear hr
  go_wp2
  go_ret2
  refine ⟨r, ?_, v, rfl, hv, hbw⟩
  rw [← Hr.out, OpSpec, if_pos (by rw [ha, hb]; rfl)]
  exact ⟨_, merge_isOp rfl ha hb hinv hoff, by have := hinv.out; have := hinv.i; have := hinv.k; omega, rfl⟩
theorem validB_one {p q : Int} (ho : okSpan (p, q) = true) : validB [(p, q)] = true := by
  rw [validB_iff]; exact ⟨by simp, ⟨fun s hs => by rw [List.mem_singleton.1 hs]; exact (okSpan_iff _).1 ho, List.pairwise_singleton _ _⟩⟩
theorem rNotO_c (v : Value) (a : List Sp) (p q : Int) (w : World) (h : IsSpans w v a) (ho : okSpan (p, q) = true) (ha : validB a = true) :
    Calls Try.prog 77 #[v, .agg #[.int .i64 p, .int .i64 q]] w (OpRetO gMinus [(p, q)] a w) := by
  have kv := ivValid_c p q
  rw [ho] at kv
  have Kv := Lib.hid kv
  have Ho := Lib.hid ho
  clear kv ho
  go_enter Try.func77, Try.ntmps77
  go_wp2_with fail
  refine (Kv.out _).mono ?_
  rintro e w1 ⟨rfl, hb⟩
  have hb1 := (Below.alloc (Below.refl w.heap.size w) (Nat.le_refl _) (.cells #[.int .i64 p, .int .i64 q] 31)).trans (hb.mono (by simp))
  have c0 := hb.cell (p := ⟨w.heap.size, 0, none⟩) (by simp)
  have c1 := hb.cell (p := ⟨w.heap.size, 1, none⟩) (by simp)
  simp at c0 c1
  go_wp2_with fail
  have hb2 := hb1.alloc hb1.size (.cells #[.int .i64 p, .int .i64 q] 31)
  refine (rMinusO_c _ _ [(p, q)] a _ (spans_one p q _) (h.below hb2) (validB_one Ho.out) ha).mono ?_
  rintro e w2 ⟨r, hr, v2, rfl, hv, hb3⟩
  go_wp2
  go_ret2
  exact ⟨r, hr, v2, rfl, own_baseU hv hb2.size, hb2.trans (hb3.mono hb2.size)⟩

def IdxFound (l : List Sp) (p : Sp → Bool) (r : Int) : Prop := (r = -1 ∧ ∀ i, i < l.length → p (sp l i) = false) ∨ ∃ i : Nat, i < l.length ∧ r = i ∧ p (sp l i) = true ∧ ∀ j, j < i → p (sp l j) = false
def IdxPost (l : List Sp) (p : Sp → Bool) (w : World) (e : Ending) (w' : World) : Prop := ∃ r, IdxFound l p r ∧ e = .returned (.int .i64 r) ∧ Below w.heap.size w w'
set_option maxRecDepth 100000 in
theorem slIndexP_c (gs : FuncId) (cs : Array Value) (p : Sp → Bool) (v : Value) (l : List Sp) (w : World) (hs : IsSpans w v l) (hp : PredFn gs cs p w) : Calls Try.prog 93 #[v, .func (.func gs) #[] cs] w (IdxPost l p w) := by
  obtain ⟨A, c, rfl, hnc, hc⟩ := hs.form
  obtain ⟨es, hp⟩ := hp
  have Hp := Lib.hid hp
  clear hp
  go_enter Try.func93, Try.ntmps93
  go_wp2
  go_loopw [8] (fun i wr => ∃ k : Nat, i = .int .i64 k ∧ k ≤ l.length ∧ Hid (∀ j, j < k → p (sp l j) = false) ∧ Below w.heap.size w wr) (fun i _ => l.length - (intOf i).toNat)
  case atStart => exact ⟨0, rfl, Nat.zero_le _, fun j hj => absurd hj (by omega), Below.refl _ _⟩
  case round =>
    obtain ⟨k, rfl, hk, HA, hb⟩ := hrel
    by_cases hlt : k < l.length
    · obtain ⟨b, off, rfl, hbk⟩ := hs.addr (by omega)
      have c0 := (hs.below hb).c0 k hlt
      have c1 := (hs.below hb).c1 k hlt
      have hcall := Hp.out wr (fr l k) (tt l k) hb
      have hfd : p (fr l k, tt l k) = true → IdxFound l p (k : Int) := fun h => .inr ⟨k, hlt, rfl, h, HA.out⟩
      have hst : p (fr l k, tt l k) = false → ∀ j, j < k + 1 → p (sp l j) = false := fun h j hj => by
        rcases Nat.eq_or_lt_of_le (show j ≤ k by omega) with e | e
        · rw [e]; exact h
        · exact HA.out j e
      generalize fr l k = s0 at *
      generalize tt l k = s1 at *
      cases hd : p (s0, s1)
      · rw [hd] at hcall
        have Hcall := Lib.hid hcall
        have Hst := Lib.hid (hst hd)
        clear hcall hst hfd hd
        go_wp2_with fail
        refine Hcall.out.mono ?_
        rintro e w2 ⟨rfl, hb2⟩
        have hb3 := hb.trans (hb2.mono hb.size)
        go_wp2
        go_roundw
        case rel => exact ⟨k + 1, by go_num, by omega, Hst.out, hb3⟩
        case measure => simp [intOf]; omega
      · rw [hd] at hcall
        have Hcall := Lib.hid hcall
        have Hfd := Lib.hid (hfd hd)
        clear hcall hst hfd hd
        go_wp2_with fail
        refine Hcall.out.mono ?_
        rintro e w2 ⟨rfl, hb2⟩
        have hb3 := hb.trans (hb2.mono hb.size)
        go_wp2
        go_ret
        exact ⟨_, Hfd.out, rfl, hb3⟩
    · obtain rfl : k = l.length := by omega
      have Hr : Hid (IdxFound l p (-1)) := .inl ⟨rfl, HA.out⟩
      clear HA
      go_wp2
      go_ret
      exact ⟨_, Hr.out, rfl, hb⟩

theorem flat_setS : ∀ (L : List Sp) (i : Nat) (s : Sp), flat (L.set i s) = ((flat L).set (i * 2) (.int .i64 s.1)).set (i * 2 + 1) (.int .i64 s.2)
  | [], i, s => by simp [flat]
  | a :: L, 0, s => by simp [flat]
  | a :: L, i + 1, s => by
    rw [List.set_cons_succ]
    show [Value.int .i64 a.1, .int .i64 a.2] ++ flat (L.set i s) = (([Value.int .i64 a.1, .int .i64 a.2] ++ flat L).set ((i + 1) * 2) (.int .i64 s.1)).set ((i + 1) * 2 + 1) (.int .i64 s.2)
    rw [flat_setS L i s, show (i + 1) * 2 = i * 2 + 1 + 1 from by omega]
    rfl
structure DelInv (l : List Sp) (p : Sp → Bool) (i j : Nat) (L : List Sp) : Prop where
  len : L.length = l.length
  ij : i < j
  jl : j ≤ l.length
  pre : L.take i = (l.take j).filter fun s => !p s
  post : ∀ k, j ≤ k → k < l.length → sp L k = sp l k
theorem filter_none {l : List Sp} {p : Sp → Bool} : ∀ k, k ≤ l.length → (∀ j, j < k → p (sp l j) = false) → (l.take k).filter (fun s => !p s) = l.take k
  | 0, _, _ => by simp
  | k + 1, hk, h => by
    rw [List.take_succ_eq_append_getElem hk, List.filter_append, filter_none k (by omega) (fun j hj => h j (by omega)), sp_at l k hk]
    have := h k (by omega)
    simp only [sp] at this
    simp [this]
theorem del_start {l : List Sp} {p : Sp → Bool} {i : Nat} (hi : i < l.length) (hp : p (sp l i) = true) (hn : ∀ j, j < i → p (sp l j) = false) : DelInv l p i (i + 1) l := by
  refine ⟨rfl, by omega, hi, ?_, fun _ _ _ => rfl⟩
  rw [List.take_succ_eq_append_getElem hi, List.filter_append, filter_none i (by omega) hn, sp_at l i hi]
  simp only [sp] at hp
  simp [hp]
theorem del_drop {l : List Sp} {p : Sp → Bool} {i j : Nat} {L : List Sp} (h : DelInv l p i j L) (hj : j < l.length) (hp : p (fr l j, tt l j) = true) : DelInv l p i (j + 1) L := by
  refine ⟨h.len, Nat.lt_succ_of_lt h.ij, hj, ?_, fun k h1 h2 => h.post k (by omega) h2⟩
  rw [List.take_succ_eq_append_getElem hj, List.filter_append, h.pre, sp_at l j hj]
  simp [hp]
theorem del_keep {l : List Sp} {p : Sp → Bool} {i j : Nat} {L : List Sp} (h : DelInv l p i j L) (hj : j < l.length) (hp : p (fr l j, tt l j) = false) : DelInv l p (i + 1) (j + 1) (L.set i (fr l j, tt l j)) := by
  have hij := h.ij
  have hl := h.len
  refine ⟨by simp [hl], by omega, hj, ?_, fun k h1 h2 => ?_⟩
  · rw [List.take_succ_eq_append_getElem hj, List.filter_append, ← h.pre, sp_at l j hj]
    rw [List.take_succ_eq_append_getElem (by simp; omega)]
    simp [hp, List.take_set_of_le]
  · have := h.post k (by omega) h2
    rw [← this]
    unfold sp fr tt
    simp [List.getElem?_set_ne (show i ≠ k by omega)]
theorem del_done {l : List Sp} {p : Sp → Bool} {i : Nat} {L : List Sp} (h : DelInv l p i l.length L) : L.take i = l.filter fun s => !p s := by rw [h.pre, List.take_length]

theorem run_clear_spans (w : World) (ty : TypeId) (b o n c : Nat) (hn : 0 < n) (hc : ∀ j, j < n * 2 → (w.cell? ⟨b, o + j, none⟩).isSome = true) (hf : ∀ j, j < n * 2 → w.frozen? ⟨b, o + j, none⟩ = false) :
    (Builtin.clear_ #[22] ty #[.slice (some ⟨b, o, none⟩) n c]).run Try.prog w = .ok (.tuple #[]) (w.setCells b o (List.replicate (n * 2) (.int .i64 0))) := by
  have hzc : (Builtin.zeroCells #[.int .i64 0, .int .i64 0] n).toList = List.replicate (n * 2) (.int .i64 0) := by
    simp [Builtin.zeroCells]
    apply List.ext_getElem
    · simp
    · intro i h1 h2
      rcases (by omega : i % 2 = 0 ∨ i % 2 = 1) with e | e <;> simp [e]
  have hst := run_storeCells_cells (P := Try.prog) b o (List.replicate (n * 2) (.int .i64 0)) 0 w (by simpa using hc) (by simpa using hf) (by intro v hv'; rw [List.eq_of_mem_replicate hv']; rfl)
  simp only [Nat.add_zero] at hst
  have hzv : (zeroValue 31).run Try.prog w = .ok (.agg #[.int .i64 0, .int .i64 0]) w := Try.zeroValue31 w
  obtain ⟨m, rfl⟩ : ∃ m, n = m + 1 := ⟨n - 1, by omega⟩
  simp [Builtin.clear_, run_underlying tSpans, hzv, Value.cells, hzc, hst]
theorem wpList_clear {P : Program} {ops : Array Oper} {rest : List Oper} {o : Oper} {a : Act} {Q : Exit → Act → World → Prop} (hgd : o.guard = none) (s : Operand) (t : TypeId)
    (ho : o.op = .call { callee := .builtin .clear, args := #[s], argTypes := #[t] }) {w w' : World} (v u : Value) (hs : a.eval s = v) (hr : (Builtin.clear_ #[t] o.type #[v]).run P w = .ok u w')
    (h : wpList P ops Q rest (a.put o.dst u) w') : wpList P ops Q (o :: rest) a w := by
  refine wpList_plain hgd fun K hK => ?_
  unfold Oper.wp execOp
  simp only [ho, resolve, invoke, builtin, Sem.run_bind, Sem.run_pure, Result.andThen_ok, List.map_toArray, List.map_cons, List.map_nil, hs, hr]
  exact hK _ _ h
end Go.Proofs.Ytahpcepnagpbdaa
