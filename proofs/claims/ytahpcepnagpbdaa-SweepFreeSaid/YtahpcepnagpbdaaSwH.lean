/- Facts in memory; the sort of events; the walk of sweep.Depth. -/
import Derived.Test.YtahpcepnagpbdaaSwB
import Derived.Test.YtahpcepnagpbdaaDepP
import Derived.Test.YtahpcepnagpbdaaLayA
namespace Go.Proofs.Ytahpcepnagpbdaa
open Go.RowKit Go.Shelf
open Go.Sort (grow SWO PermIn SortedIn Holds grow_grow alloc_eq_grow)

/-- A row of a list of facts: the slice of its values, its number, its span. -/
abbrev FRow := Value × Dep
def flatF (R : List FRow) : List Value := R.flatMap fun r => [r.1, .int .i64 r.2.2.1, .int .i64 r.2.2.2]
theorem flatF_length (R : List FRow) : (flatF R).length = R.length * 3 := by
  induction R with
  | nil => rfl
  | cons r R ih => simp only [flatF, List.flatMap_cons, List.length_append, List.length_cons, List.length_nil] at *; omega
theorem flatF_snoc (R : List FRow) (r : FRow) : flatF (R ++ [r]) = flatF R ++ [r.1, .int .i64 r.2.2.1, .int .i64 r.2.2.2] := by simp [flatF]
/-- A list of one value, a number, in the block b. -/
def IsVal (w : World) (v : Value) (n : Int) (b : Nat) : Prop := ∃ off c, v = .slice (some ⟨b, off, none⟩) 1 c ∧ b < w.heap.size ∧ 1 ≤ c ∧ c ≤ 9223372036854775807 ∧
  w.cell? ⟨b, off, none⟩ = some (.int .i64 1) ∧ w.cell? ⟨b, off + 1, none⟩ = some (.int .i64 n) ∧ w.cell? ⟨b, off + 2, none⟩ = some (.string ⟨#[]⟩)
theorem IsVal.block {w w' : World} {v : Value} {n : Int} {b : Nat} (h : IsVal w v n b) (hb : w'.heap[b]? = w.heap[b]?) : IsVal w' v n b := by
  obtain ⟨off, c, rfl, h1, h2, h3, h4, h5, h6⟩ := h
  have h1' : b < w'.heap.size := by
    rcases Nat.lt_or_ge b w'.heap.size with h | h
    · exact h
    · rw [Array.getElem?_eq_none h, Array.getElem?_eq_getElem h1] at hb; cases hb
  exact ⟨off, c, rfl, h1', h2, h3, (World.cell?_of_block hb).trans h4, (World.cell?_of_block hb).trans h5, (World.cell?_of_block hb).trans h6⟩
theorem IsVal.lt {w : World} {v : Value} {n : Int} {b : Nat} (h : IsVal w v n b) : b < w.heap.size := by
  obtain ⟨off, c, rfl, h1, _⟩ := h; exact h1
/-- All values of a list of facts; none lies in the block x. -/
def AllVal (w : World) (R : List FRow) (x : Option Nat) : Prop := ∀ r ∈ R, ∃ b, IsVal w r.1 r.2.1 b ∧ some b ≠ x
theorem AllVal.below {w w' : World} {R : List FRow} {x : Option Nat} (h : AllVal w R x) (hb : Below w.heap.size w w') : AllVal w' R x := fun r hr => by
  obtain ⟨b, h1, h2⟩ := h r hr
  exact ⟨b, h1.block (hb.block b h1.lt), h2⟩
theorem AllVal.grown {w w' : World} {R : List FRow} {x : Option Nat} (h : AllVal w R x) (hb : w.grownBy w' x) : AllVal w' R x := fun r hr => by
  obtain ⟨b, h1, h2⟩ := h r hr
  exact ⟨b, h1.block (hb.block b h1.lt h2), h2⟩
theorem AllVal.to {w : World} {R : List FRow} {x : Option Nat} (h : AllVal w R x) (y : Option Nat) (hy : y = x ∨ y = some w.heap.size ∨ y = none) : AllVal w R y := fun r hr => by
  obtain ⟨b, h1, h2⟩ := h r hr
  refine ⟨b, h1, ?_⟩
  rcases hy with rfl | rfl | rfl
  · exact h2
  · intro e; have := Option.some.inj e; have := h1.lt; omega
  · simp
theorem AllVal.snoc {w : World} {R : List FRow} {r : FRow} {x : Option Nat} {b : Nat} (h : AllVal w R x) (hr : IsVal w r.1 r.2.1 b) (hb : some b ≠ x) : AllVal w (R ++ [r]) x := fun q hq => by
  rcases List.mem_append.1 hq with hq | hq
  · exact h q hq
  · rw [List.mem_singleton.1 hq]; exact ⟨b, hr, hb⟩
def frow (R : List FRow) (i : Nat) : FRow := R.getD i (undef, (0, (0, 0)))
def factCell (R : List FRow) (i j : Nat) : Value := if j = 0 then (frow R i).1 else if j = 1 then .int .i64 (frow R i).2.2.1 else .int .i64 (frow R i).2.2.2
theorem flatF_get (R : List FRow) : ∀ i j, i < R.length → j < 3 → (flatF R)[i * 3 + j]? = some (factCell R i j) := by
  induction R with
  | nil => intro i j hi; exact absurd hi (by simp)
  | cons r R ih =>
    intro i j hi hj
    rcases i with _ | i
    · rcases j with _ | _ | _ | j
      · simp [flatF, factCell, frow]
      · simp [flatF, factCell, frow]
      · simp [flatF, factCell, frow]
      · omega
    · have h1 := ih i j (by simpa using hi) hj
      have e : flatF (r :: R) = [r.1, .int .i64 r.2.2.1, .int .i64 r.2.2.2] ++ flatF R := rfl
      rw [e, List.getElem?_append_right (by simp; omega)]
      rw [show (i + 1) * 3 + j - [r.1, Value.int .i64 r.2.2.1, .int .i64 r.2.2.2].length = i * 3 + j from by simp; omega, h1]
      simp [factCell, frow]
def IsFacts (w : World) (v : Value) (F : List Dep) : Prop := ∃ R : List FRow, R.map (·.2) = F ∧ RowsIn w v R.length 3 (factCell R) ∧ AllVal w R none
theorem IsFacts.below {w w' : World} {v : Value} {F : List Dep} (h : IsFacts w v F) (hb : Below w.heap.size w w') : IsFacts w' v F := by
  obtain ⟨R, h1, h2, h3⟩ := h
  exact ⟨R, h1, h2.below hb, h3.below hb⟩
theorem facts_of_own {w : World} {base : Nat} {e : TypeId} {v : Value} {R : List FRow} {x : Option Nat} (h : w.ownsRow base e 3 v R.length (flatF R)) (hR : AllVal w R x) : IsFacts w v (R.map (·.2)) := by
  refine ⟨R, rfl, ?_, hR.to none (.inr (.inr rfl))⟩
  rcases h.2 with ⟨rfl, h0⟩ | ⟨g, cap, cur, rfl, hg, hh, h1, h2, h3, h4⟩
  · have : R = [] := List.eq_nil_of_length_eq_zero h0
    subst this
    exact RowsIn.nil
  · refine ⟨_, _, rfl, h1, by unfold maxLen at h2; exact h2, fun hn => ⟨g, 0, rfl, ?_, fun i j hi hj => ?_⟩⟩
    · rcases Nat.lt_or_ge g w.heap.size with hlt | hge
      · exact hlt
      · rw [Array.getElem?_eq_none hge] at hh; cases hh
    · have hc := h.cellAt (i * 3 + j) (by omega)
      rw [flatF_get R i j hi hj] at hc
      simpa [Nat.add_assoc] using hc
theorem IsFacts.nil (w : World) : IsFacts w (.slice none 0 0) [] := ⟨[], rfl, RowsIn.nil, fun r hr => by simp at hr⟩
theorem IsFacts.form {w : World} {v : Value} {F : List Dep} (h : IsFacts w v F) : ∃ A c, v = .slice A F.length c ∧ F.length ≤ c ∧ c ≤ 9223372036854775807 := by
  obtain ⟨R, rfl, h2, _⟩ := h
  have := h2.form
  simpa using this

/-- An own list of facts. -/
def OwnsF (w : World) (base : Nat) (v : Value) (F : List Dep) : Prop := ∃ R : List FRow, R.map (·.2) = F ∧ w.ownsRow base 36 3 v R.length (flatF R) ∧ AllVal w R v.ownBlock
theorem OwnsF.facts {w : World} {base : Nat} {v : Value} {F : List Dep} (h : OwnsF w base v F) : IsFacts w v F := by
  obtain ⟨R, rfl, h1, h2⟩ := h
  exact facts_of_own h1 h2
theorem OwnsF.nil (w : World) (base : Nat) : OwnsF w base (.slice none 0 0) [] := ⟨[], rfl, own_nil _ _ _ _, fun r hr => by simp at hr⟩
theorem OwnsF.below {w w' : World} {base : Nat} {v : Value} {F : List Dep} (h : OwnsF w base v F) (hb : Below w.heap.size w w') : OwnsF w' base v F := by
  obtain ⟨R, h1, h2, h3⟩ := h
  exact ⟨R, h1, own_below h2 hb (Nat.le_refl _), h3.below hb⟩
theorem append_fact {P : Program} {tS tV : TypeId} (hS : P.underlying tS = some (.slice 36)) (hE : (P.info? 36).map (fun i => (i.zero, i.size, i.bytes)) = some (some (.agg #[.slice none 0 0, .int .i64 0, .int .i64 0]), 3, 40))
    {ops : Array Oper} {rest : List Oper} {o : Oper} {a : Act} {Q : Exit → Act → World → Prop} (hgd : o.guard = none) (s x : Operand)
    (ho : o.op = .call { callee := .builtin .append, args := #[s, x], argTypes := #[tS, tS] })
    {w : World} (base : Nat) (v : Value) (F : List Dep) (n f t : Int) (hs : a.eval s = v) (hown : OwnsF w base v F)
    (hx : a.eval x = .slice (some ⟨w.heap.size + 1, 0, none⟩) 1 1) (hlen : F.length < 900000000) (hbase : base ≤ w.heap.size)
    (h : ∀ v' w', OwnsF w' base v' (F ++ [(n, (f, t))]) → Below base w w' → wpList P ops Q rest (a.put o.dst v') w') :
    wpList P ops Q (o :: rest) a ((w.alloc (.cells #[.int .i64 1, .int .i64 n, .string ⟨#[]⟩] tV)).alloc (.cells #[.slice (some ⟨w.heap.size, 0, none⟩) 1 1, .int .i64 f, .int .i64 t] 36)) := by
  obtain ⟨R, rfl, hown, hR⟩ := hown
  obtain ⟨i, hi, hz, hsz, hby⟩ := info_parts hE
  refine wpList_append_own_at _ hgd s x tS ho base 36 i _ 3 40 hS hi hz hsz hby rfl (by omega) v R.length (flatF R) hs ((hown.alloc _).alloc _) ⟨w.heap.size + 1, 0, none⟩ 1 1
    [.slice (some ⟨w.heap.size, 0, none⟩) 1 1, .int .i64 f, .int .i64 t] hx rfl ?_ (by simp [Value.oneCell']) (by unfold maxLen; simp at hlen; omega) (by simp at hlen; omega) (by simp; omega) ?_
  · intro j u hu
    rcases j with _ | _ | _ | j
    · simp at hu; subst hu; simp [Addr.add]
    · simp at hu; subst hu; simp [Addr.add]
    · simp at hu; subst hu; simp [Addr.add]
    · simp at hu
  · intro v' w' hown' hg _ hob
    have b1 : Below w.heap.size w ((w.alloc (.cells #[.int .i64 1, .int .i64 n, .string ⟨#[]⟩] tV)).alloc (.cells #[.slice (some ⟨w.heap.size, 0, none⟩) 1 1, .int .i64 f, .int .i64 t] 36)) := ((Below.refl _ _).alloc (Nat.le_refl _) _).alloc (by simp) _
    have hv : IsVal ((w.alloc (.cells #[.int .i64 1, .int .i64 n, .string ⟨#[]⟩] tV)).alloc (.cells #[.slice (some ⟨w.heap.size, 0, none⟩) 1 1, .int .i64 f, .int .i64 t] 36)) (.slice (some ⟨w.heap.size, 0, none⟩) 1 1) n w.heap.size :=
      ⟨0, 1, rfl, by simp; omega, Nat.le_refl _, by omega, by simp, by simp, by simp⟩
    have hne : some w.heap.size ≠ v.ownBlock := fun e => by
      have := (hown.lt _ e.symm).2; omega
    have hR2 := ((hR.below b1).snoc (r := (.slice (some ⟨w.heap.size, 0, none⟩) 1 1, (n, (f, t)))) hv hne)
    have hR3 := hR2.grown hg
    refine h v' w' ⟨R ++ [(.slice (some ⟨w.heap.size, 0, none⟩) 1 1, (n, (f, t)))], by simp, ?_, ?_⟩ ?_
    · rw [flatF_snoc, List.length_append]; exact hown'
    · rcases hob with e | e
      · rw [e]; exact hR3
      · intro r hr
        obtain ⟨b, h1, h2⟩ := hR2 r hr
        exact ⟨b, h1.block (hg.block b h1.lt h2), fun e' => by rw [e] at e'; have := Option.some.inj e'; have := h1.lt; omega⟩
    · refine (((Below.refl base w).alloc hbase _).alloc (by simp; omega) _).grown hg (by simp; omega) ?_
      intro k hk
      exact (hown.lt k hk).1

theorem tFacts : Try.prog.underlying 32 = some (.slice 36) := Try.underlying32
theorem tFactInfo : (Try.prog.info? 36).map (fun i => (i.zero, i.size, i.bytes)) = some (some (.agg #[.slice none 0 0, .int .i64 0, .int .i64 0]), 3, 40) := by kernel_rfl
theorem tEventInfo : (Try.prog.info? 83).map (fun i => (i.zero, i.size, i.bytes)) = some (some (.agg #[.int .i64 0, .int .i64 0]), 2, 16) := by kernel_rfl

/- The sort of events. -/
instance ev_inh : Inhabited Ev := ⟨(0, 0)⟩
def cfE (x y : Ev) : Int := cmpI x.1 y.1
theorem ltE (x y : Ev) : ltOf cfE x y = decide (x.1 < y.1) := by
  unfold ltOf cfE cmpI
  rw [decide_eq_decide]
  split
  · simp; omega
  · split <;> simp <;> omega
theorem swoE : SWO (ltOf cfE) where
  irrefl x := by rw [ltE]; simp
  trans x y z h1 h2 := by rw [ltE] at *; simp at *; omega
  ntrans x y z h1 h2 := by rw [ltE] at *; simp at *; omega
theorem ent_sDepth1 : ∀ (args : Array Value) (w : World), Sem.run Try.prog (callFunc 52 args) w = .ok (.enter 52 args) w := fun _ _ => by kernel_rfl
theorem sDepth1_c (x y : Ev) (W : World) : Calls Try.prog 52 #[.agg (encSp x).toArray, .agg (encSp y).toArray] W fun e w' => e = .returned (.int .i64 (cfE x y)) ∧ ∃ q os', w' = grow (W.drewN q) os' := by
  obtain ⟨a, b⟩ := x
  obtain ⟨c, d⟩ := y
  simp only [encSp, cfE]
  go_enter Try.func52, Try.ntmps52
  go_wp2_with fail
  refine (cmpCompare_c _ _ _).mono ?_
  rintro e w' ⟨rfl, rfl⟩
  go_wp2
  go_ret
  exact ⟨rfl, 0, _, by rw [alloc_eq_grow, alloc_eq_grow, grow_grow]; rfl⟩
theorem flat_encE (L : List Ev) : L.flatMap encSp = flat L := rfl
theorem sorted_pwE {L : Array Ev} (h : SortedIn (ltOf cfE) 0 L.size L) : L.toList.Pairwise (fun s t => s.1 ≤ t.1) := by
  rw [List.pairwise_iff_getElem]
  intro i j hi hj hij
  have := h i j (Nat.zero_le _) hij (by simpa using hj)
  rw [ltE, getElem!_pos L j (by simpa using hj), getElem!_pos L i (by simpa using hi)] at this
  simp only [Array.getElem_toList]
  simpa using this
def SortERet (base : Nat) (w : World) (v : Value) (l : List Ev) (e : Ending) (w' : World) : Prop :=
  e = .returned (.tuple #[]) ∧ ∃ L, L.Perm l ∧ L.Pairwise (fun s t => s.1 ≤ t.1) ∧ w'.ownsRow base 83 2 v l.length (flat L) ∧ Below base w w'
theorem slSortEvent_c (v : Value) (l : List Ev) (w : World) (base : Nat) (hown : w.ownsRow base 83 2 v l.length (flat l)) (hl : l.length ≤ 100000000) :
    Calls Try.prog 51 #[v, .func (.func 52) #[] #[]] w (SortERet base w v l) := by
  by_cases h0 : 0 < l.length
  · obtain ⟨g, cap, rfl, hgb, hglt, hcap, hcm⟩ := own_form hown h0
    obtain ⟨hH, hblk, _⟩ := holdsK_own (enc := encSp) (k := 2) (fun _ => rfl) hown
    have hcon := AnyQ.slices_SortFunc lay_sortEvent 2 Try.isAgg83 Try.sizeOf83 encSp (fun _ => rfl) (fun x u hu => by simp [encSp] at hu; rcases hu with rfl | rfl <;> rfl) cfE swoE 52 #[] g 0 cap l.toArray w ent_sDepth1
      (fun _ _ _ _ x y => sDepth1_c x y _) hH hblk (by simp; omega)
    change Calls Try.prog 51 _ _ _ at hcon
    have hsz : l.toArray.size = l.length := by simp
    rw [hsz] at hcon
    refine hcon.mono ?_
    rintro e w' ⟨rfl, d', n, os, hp, hs, rfl⟩
    rw [← hsz] at hp
    have hd : d'.size = l.length := by have := hp.1; simpa using this
    obtain ⟨o1, o2⟩ := own_sorted (enc := encSp) (k := 2) (fun _ => rfl) hown n os d' hd
    refine ⟨rfl, d'.toList, permIn_all hp, sorted_pwE (by rw [hd]; exact hs), o1, o2⟩
  · obtain rfl : l = [] := List.length_eq_zero_iff.1 (by omega)
    obtain ⟨A, cap, rfl⟩ : ∃ A cap, v = .slice A 0 cap := by
      rcases hown.2 with ⟨h, _⟩ | ⟨g, cap, cur, h, _⟩
      · exact ⟨_, _, h⟩
      · exact ⟨_, _, h⟩
    have hcon := AnyF.slices_SortFunc_none lay_sortEvent A cap (.func (.func 52) #[] #[]) w
    change Calls Try.prog 51 _ _ _ at hcon
    refine hcon.mono ?_
    rintro e w' ⟨rfl, rfl⟩
    exact ⟨rfl, [], List.Perm.nil, List.Pairwise.nil, hown, Below.refl _ _⟩
end Go.Proofs.Ytahpcepnagpbdaa
