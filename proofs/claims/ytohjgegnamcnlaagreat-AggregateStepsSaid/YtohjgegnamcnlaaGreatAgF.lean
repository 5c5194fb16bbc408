/- Law 39: the events of aggregate.each, and their sort. -/
import Derived.Test.YtohjgegnamcnlaaGreatPre
import Derived.Test.YtohjgegnamcnlaaGreatAgM
namespace Go.Proofs.YtohjgegnamcnlaaGreat
open Go.RowKit Go.Shelf
open Go.Sort (grow SWO PermIn SortedIn Holds grow_grow alloc_eq_grow)

/-- append(own, x, y, ..): m elements of any kind, their cells in the block just built. -/
theorem appendM {P : Program} {tS tE : TypeId} {z : Value} {size bytes : Nat} (hS : P.underlying tS = some (.slice tE)) (hE : (P.info? tE).map (fun i => (i.zero, i.size, i.bytes)) = some (some z, size, bytes))
    (hz : z.cells.size = size) (hsz : 0 < size) (hby : bytes ≤ 64)
    {ops : Array Oper} {rest : List Oper} {o : Oper} {a : Act} {Q : Exit → Act → World → Prop} (hgd : o.guard = none) (s x : Operand)
    (ho : o.op = .call { callee := .builtin .append, args := #[s, x], argTypes := #[tS, tS] })
    {w : World} {cs : Array Value} {t : TypeId} (base : Nat) (v : Value) (n m : Nat) (xs news : List Value) (hs : a.eval s = v) (hown : w.ownsRow base tE size v n xs)
    {b : Nat} (hx : a.eval x = .slice (some ⟨b, 0, none⟩) m m) (hb0 : w.heap.size = b) (hcs : cs.toList = news) (hl : news.length = m * size) (h1 : ∀ u ∈ news, u.oneCell' = true) (hlen : n + m < 900000000) (hbase : base ≤ w.heap.size)
    (h : ∀ v' w', w'.ownsRow base tE size v' (n + m) (xs ++ news) → Below base w w' → wpList P ops Q rest (a.put o.dst v') w') :
    wpList P ops Q (o :: rest) a (w.alloc (.cells cs t)) := by
  subst hb0
  obtain ⟨i, hi, hzz, hss, hbb⟩ := info_parts hE
  have hbb2 : (n + m) * bytes ≤ 140737488355328 := Nat.le_trans (Nat.mul_le_mul_left _ hby) (by omega)
  refine wpList_append_own_at (w.alloc (.cells cs t)) hgd s x tS ho base tE i z size bytes hS hi hzz hss hbb hz hsz v n xs hs (hown.alloc _) ⟨w.heap.size, 0, none⟩ m m news hx hl ?_ h1 (by unfold maxLen; omega) hbb2 (by simp; omega) ?_
  · intro j u hu
    have e2 : (⟨w.heap.size, 0, none⟩ : Addr).add j = ⟨w.heap.size, j, none⟩ := by rw [Addr.add_lit, Nat.zero_add]
    rw [e2, blk_get (heap_alloc_new w _), ← hu, ← hcs, Array.getElem?_toList]
  · intro v' w' hown' hg _ _
    refine h v' w' hown' ?_
    refine ((Below.refl base w).alloc hbase (.cells cs t)).grown hg (by simp; omega) ?_
    intro k hk
    exact (hown.lt k hk).1
/-! ### events -/
/-- An event: the fact's number, and whether it begins. -/
abbrev EvA := Nat × Bool
instance evA_inh : Inhabited EvA := ⟨(0, true)⟩
def evt (F : List Fct) (x : EvA) : Int := if x.2 then (fc F x.1).2.1 else (fc F x.1).2.2
def encEv (F : List Fct) (x : EvA) : List Value := [.int .i64 (evt F x), .int .i64 (x.1 : Int), .bool x.2]
theorem encEv_len (F : List Fct) (x : EvA) : (encEv F x).length = 3 := rfl
def evAll (n : Nat) : List EvA := (List.range n).flatMap fun i => [(i, true), (i, false)]
theorem evAll_succ (n : Nat) : evAll (n + 1) = evAll n ++ [(n, true), (n, false)] := by simp [evAll, List.range_succ]
theorem evAll_len : ∀ n : Nat, (evAll n).length = 2 * n
  | 0 => rfl
  | n + 1 => by rw [evAll_succ, List.length_append, evAll_len n]; rfl
/-- An own list that is not empty. -/
theorem own_formG {w : World} {base n k : Nat} {e : TypeId} {v : Value} {xs : List Value} (h : w.ownsRow base e k v n xs) (hr : 0 < n) : ∃ g cap, v = .slice (some ⟨g, 0, none⟩) n cap ∧ base ≤ g ∧ g < w.heap.size ∧ n ≤ cap ∧ cap ≤ 9223372036854775807 := by
  rcases h.2 with ⟨_, h0⟩ | ⟨g, cap, cur, rfl, hb, hg, hnc, hcm, _⟩
  · omega
  · exact ⟨g, cap, rfl, hb, (Array.getElem?_eq_some_iff.1 hg).1, hnc, by simp only [maxLen] at hcm; omega⟩
/-- The bounds of a list of facts' times. -/
def Near39 (F : List Fct) : Prop := ∀ f ∈ F, -4000000000000000000 ≤ f.2.1 ∧ f.2.1 ≤ 4000000000000000000 ∧ -4000000000000000000 ≤ f.2.2 ∧ f.2.2 ≤ 4000000000000000000
theorem Near39.evt {F : List Fct} (h : Near39 F) (x : EvA) : -4000000000000000000 ≤ evt F x ∧ evt F x ≤ 4000000000000000000 := by
  have key : -4000000000000000000 ≤ (fc F x.1).2.1 ∧ (fc F x.1).2.1 ≤ 4000000000000000000 ∧ -4000000000000000000 ≤ (fc F x.1).2.2 ∧ (fc F x.1).2.2 ≤ 4000000000000000000 := by
    by_cases hx : x.1 < F.length
    · exact h _ (fc_mem hx)
    · have : fc F x.1 = ([], (0, 0)) := by unfold fc; rw [List.getD_eq_getElem?_getD, List.getElem?_eq_none (by omega)]; rfl
      rw [this]
      simp
  unfold Go.Proofs.YtohjgegnamcnlaaGreat.evt
  split
  · exact ⟨key.1, key.2.1⟩
  · exact ⟨key.2.2.1, key.2.2.2⟩
def OwnsEv (F : List Fct) (w : World) (base : Nat) (v : Value) (L : List EvA) : Prop := w.ownsRow base 106 3 v L.length (L.flatMap (encEv F))
def evC (F : List Fct) (L : List EvA) (i j : Nat) : Value := if j = 0 then .int .i64 (evt F (L.getD i (0, true))) else if j = 1 then .int .i64 (((L.getD i (0, true)).1 : Nat) : Int) else .bool (L.getD i (0, true)).2
theorem OwnsEv.rows {F : List Fct} {w : World} {base : Nat} {v : Value} {L : List EvA} (h : OwnsEv F w base v L) : RowsIn w v L.length 3 (evC F L) := rows_of_own h fun i j hi hj => by
  rw [flatK_get (encEv_len F) L i j hi hj]
  unfold evC encEv
  rw [List.getD_eq_getElem?_getD, List.getElem?_eq_getElem hi]
  rcases (by omega : j = 0 ∨ j = 1 ∨ j = 2) with rfl | rfl | rfl <;> rfl
theorem OwnsEv.below {F : List Fct} {w w' : World} {base : Nat} {v : Value} {L : List EvA} (h : OwnsEv F w base v L) (hb : Below w.heap.size w w') : OwnsEv F w' base v L := own_below h hb (Nat.le_refl _)
theorem OwnsEv.glt {F : List Fct} {w : World} {base g n c : Nat} {L : List EvA} (h : OwnsEv F w base (.slice (some ⟨g, 0, none⟩) n c) L) : g < w.heap.size := (World.ownsRow.lt h g rfl).2
theorem OwnsEv.block {F : List Fct} {w w' : World} {base g n c : Nat} {L : List EvA} (h : OwnsEv F w base (.slice (some ⟨g, 0, none⟩) n c) L) (hb : w'.heap[g]? = w.heap[g]?) : OwnsEv F w' base (.slice (some ⟨g, 0, none⟩) n c) L := by
  obtain ⟨h1, h2⟩ := h
  refine ⟨h1, ?_⟩
  rcases h2 with ⟨h0, _⟩ | ⟨g', cap, cur, hv, hg, hh, r⟩
  · cases h0
  · refine .inr ⟨g', cap, cur, hv, hg, ?_, r⟩
    injection hv with e1
    injection e1 with e1
    injection e1 with e1
    subst e1
    exact hb.trans hh
section
variable {F : List Fct} {w : World} {base g c : Nat} {L : List EvA}
theorem OwnsEv.e0 (h : OwnsEv F w base (.slice (some ⟨g, 0, none⟩) L.length c) L) (k : Nat) (hk : k < L.length) : w.cell? ⟨g, k * 3, none⟩ = some (.int .i64 (evt F L[k])) := by
  have := RowsIn.cells h.rows k 0 hk (by omega)
  rw [Nat.zero_add, Nat.add_zero] at this
  rw [this]
  simp [evC, hk]
theorem OwnsEv.e1 (h : OwnsEv F w base (.slice (some ⟨g, 0, none⟩) L.length c) L) (k : Nat) (hk : k < L.length) : w.cell? ⟨g, k * 3 + 1, none⟩ = some (.int .i64 ((L[k].1 : Nat) : Int)) := by
  have := RowsIn.cells h.rows k 1 hk (by omega)
  rw [Nat.zero_add] at this
  rw [this]
  simp [evC, hk]
theorem OwnsEv.e2 (h : OwnsEv F w base (.slice (some ⟨g, 0, none⟩) L.length c) L) (k : Nat) (hk : k < L.length) : w.cell? ⟨g, k * 3 + 2, none⟩ = some (.bool L[k].2) := by
  have := RowsIn.cells h.rows k 2 hk (by omega)
  rw [Nat.zero_add] at this
  rw [this]
  simp [evC, hk]
end
theorem tEvents : Tryz.prog.underlying 104 = some (.slice 106) := Tryz.underlying104
theorem tEventInfoA : (Tryz.prog.info? 106).map (fun i => (i.zero, i.size, i.bytes)) = some (some (.agg #[.int .i64 0, .int .i64 0, .bool false]), 3, 24) := by kernel_rfl
/-! ### the sort -/
def cfA (F : List Fct) (x y : EvA) : Int := evt F x - evt F y
theorem ltA (F : List Fct) (x y : EvA) : ltOf (cfA F) x y = decide (evt F x < evt F y) := by
  unfold ltOf cfA
  rw [decide_eq_decide]
  omega
theorem swoA (F : List Fct) : SWO (ltOf (cfA F)) where
  irrefl x := by rw [ltA]; simp
  trans x y z h1 h2 := by rw [ltA] at *; simp at *; omega
  ntrans x y z h1 h2 := by rw [ltA] at *; simp at *; omega
theorem ent_aeach1 : ∀ (args : Array Value) (w : World), Sem.run Tryz.prog (callFunc 72 args) w = .ok (.enter 72 args) w := fun _ _ => by kernel_rfl
theorem aeach1_c {F : List Fct} (hF : Near39 F) (x y : EvA) (W : World) : Calls Tryz.prog 72 #[.agg (encEv F x).toArray, .agg (encEv F y).toArray] W fun e w' => e = .returned (.int .i64 (cfA F x y)) ∧ ∃ q os', w' = grow (W.drewN q) os' := by
  obtain ⟨h1, h2⟩ := hF.evt x
  obtain ⟨h3, h4⟩ := hF.evt y
  unfold cfA encEv
  generalize evt F x = a at *
  generalize evt F y = b at *
  obtain ⟨i, p⟩ := x
  obtain ⟨j, q⟩ := y
  simp only
  go_enter Tryz.func72, Tryz.ntmps72
  go_wp2_with fail
  go_ret
  exact ⟨rfl, 0, _, by rw [alloc_eq_grow, alloc_eq_grow, grow_grow]; rfl⟩
theorem sorted_pwA {F : List Fct} {L : Array EvA} (h : SortedIn (ltOf (cfA F)) 0 L.size L) : L.toList.Pairwise (fun s t => evt F s ≤ evt F t) := by
  rw [List.pairwise_iff_getElem]
  intro i j hi hj hij
  have := h i j (Nat.zero_le _) hij (by simpa using hj)
  rw [ltA, getElem!_pos L j (by simpa using hj), getElem!_pos L i (by simpa using hi)] at this
  simp only [Array.getElem_toList]
  simpa using this
def SortARet (F : List Fct) (base : Nat) (w : World) (v : Value) (l : List EvA) (e : Ending) (w' : World) : Prop :=
  e = .returned (.tuple #[]) ∧ ∃ L : List EvA, L.Perm l ∧ L.Pairwise (fun s t => evt F s ≤ evt F t) ∧ w'.ownsRow base 106 3 v l.length (L.flatMap (encEv F)) ∧ Below base w w'
theorem slSortEventA_c {F : List Fct} (hF : Near39 F) (v : Value) (l : List EvA) (w : World) (base : Nat) (hown : OwnsEv F w base v l) (hl : l.length ≤ 100000000) :
    Calls Tryz.prog 71 #[v, .func (.func 72) #[] #[]] w (SortARet F base w v l) := by
  unfold OwnsEv at hown
  by_cases h0 : 0 < l.length
  · obtain ⟨g, cap, rfl, hgb, hglt, hcap, hcm⟩ := own_formG hown h0
    obtain ⟨hH, hblk, _⟩ := holdsK_own (enc := encEv F) (k := 3) (fun _ => rfl) hown
    have hcon := AnyQ.slices_SortFunc lay_sortEventA 3 Tryz.isAgg106 Tryz.sizeOf106 (encEv F) (fun _ => rfl) (fun x u hu => by simp [encEv] at hu; rcases hu with rfl | rfl | rfl <;> rfl) (cfA F) (swoA F) 72 #[] g 0 cap l.toArray w ent_aeach1
      (fun _ _ _ _ x y => aeach1_c hF x y _) hH hblk (by simp; omega)
    change Calls Tryz.prog 71 _ _ _ at hcon
    have hsz : l.toArray.size = l.length := by simp
    rw [hsz] at hcon
    refine hcon.mono ?_
    rintro e w' ⟨rfl, d', n, os, hp, hs, rfl⟩
    rw [← hsz] at hp
    have hd : d'.size = l.length := by have := hp.1; simpa using this
    obtain ⟨o1, o2⟩ := own_sorted (enc := encEv F) (k := 3) (fun _ => rfl) hown n os d' hd
    exact ⟨rfl, d'.toList, permIn_all hp, sorted_pwA (by rw [hd]; exact hs), o1, o2⟩
  · obtain rfl : l = [] := List.length_eq_zero_iff.1 (by omega)
    obtain ⟨A, cap, rfl⟩ : ∃ A cap, v = .slice A 0 cap := by
      rcases hown.2 with ⟨h, _⟩ | ⟨g, cap, cur, h, _⟩
      · exact ⟨_, _, h⟩
      · exact ⟨_, _, h⟩
    have hcon := AnyF.slices_SortFunc_none lay_sortEventA A cap (.func (.func 72) #[] #[]) w
    change Calls Tryz.prog 71 _ _ _ at hcon
    refine hcon.mono ?_
    rintro e w' ⟨rfl, rfl⟩
    exact ⟨rfl, [], List.Perm.nil, List.Pairwise.nil, hown, Below.refl _ _⟩
end Go.Proofs.YtohjgegnamcnlaaGreat
