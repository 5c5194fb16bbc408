/- Law 42: the walk of index.walk, which hands its entries to a function value: what a round may change lies in blocks O, read off the world. -/
import Derived.Test.YtgdcgdjlhljbiaaIdxM
import Derived.Test.YtgdcgdjlhljbiaaIdxF
import Derived.Test.YtgdcgdjlhljbiaaIdxB
import Derived.Test.YtgdcgdjlhljbiaaPre
namespace Go.Proofs.Ytgdcgdjlhljbiaa
open Go.RowKit

/-- A domain of blocks that a round may change: it lies at n₀ or above, and what merely makes memory does not enlarge it. -/
structure Dom (n₀ : Nat) (wf : World → Prop) (O : World → Nat → Prop) : Prop where
  grow : ∀ W W', wf W → Below W.heap.size W W' → wf W' ∧ ∀ k, O W' k → O W k
  lt : ∀ W k, wf W → O W k → n₀ ≤ k ∧ k < W.heap.size
/-- What a round keeps: each block of cells outside of the domain. -/
structure Kp (wf : World → Prop) (O : World → Nat → Prop) (W W' : World) : Prop where
  wf : wf W'
  size : W.heap.size ≤ W'.heap.size
  block : ∀ k cs t r, W.heap[k]? = some (.cells cs t r) → ¬ O W k → W'.heap[k]? = some (.cells cs t r)
  dom : ∀ k, O W' k → O W k ∨ W.heap.size ≤ k
def KpW (wf : World → Prop) (O : World → Nat → Prop) (W W' : World) : Prop := wf W → Kp wf O W W'
section
variable {n₀ : Nat} {wf : World → Prop} {O : World → Nat → Prop} {A B C : World}
theorem Dom.keeps (hd : Dom n₀ wf O) (h : wf A) (hb : Below A.heap.size A B) : Kp wf O A B :=
  ⟨(hd.grow A B h hb).1, hb.size, fun k _ _ _ hk _ => (hb.block k (lt_of_block hk)).trans hk, fun k hk => .inl ((hd.grow A B h hb).2 k hk)⟩
theorem Kp.trans (h : Kp wf O A B) (k : Kp wf O B C) : Kp wf O A C :=
  ⟨k.wf, Nat.le_trans h.size k.size, fun i cs t r hi ho => k.block i cs t r (h.block i cs t r hi ho) (fun h2 => (h.dom i h2).elim ho (fun hge => by have := lt_of_block hi; omega)),
    fun i hi => (k.dom i hi).elim (h.dom i) (fun hge => .inr (Nat.le_trans h.size hge))⟩
theorem cell_cells {w : World} {b o : Nat} {v : Value} (h : w.cell? ⟨b, o, none⟩ = some v) : ∃ cs t r, w.heap[b]? = some (.cells cs t r) := by
  unfold World.cell? at h
  cases ho : w.heap[b]? with
  | none => simp [ho] at h
  | some ob =>
    cases ob with
    | cells cs t r => exact ⟨cs, t, r, rfl⟩
    | _ => simp [ho] at h
theorem Kp.cell (h : Kp wf O A B) {b o : Nat} {v : Value} (hc : A.cell? ⟨b, o, none⟩ = some v) (ho : ¬ O A b) : B.cell? ⟨b, o, none⟩ = some v := by
  obtain ⟨cs, t, r, hb⟩ := cell_cells hc
  exact (World.cell?_of_block ((h.block b cs t r hb ho).trans hb.symm)).trans hc
end
/-- Nodes in memory below n₀. -/
def LowNodes (n₀ : Nat) (w : World) (v : Value) (N : List Nd) : Prop := IsNodes w v N ∧ ∀ b o n c, v = .slice (some ⟨b, o, none⟩) n c → 0 < N.length → b < n₀
theorem LowNodes.kp {n₀ : Nat} {wf : World → Prop} {O : World → Nat → Prop} {A B : World} {v : Value} {N : List Nd} (hd : Dom n₀ wf O) (hw : wf A) (h : LowNodes n₀ A v N) (k : Kp wf O A B) : LowNodes n₀ B v N := by
  obtain ⟨⟨A0, c, rfl, h1, h2, h3⟩, h4⟩ := h
  refine ⟨⟨A0, c, rfl, h1, h2, fun hn => ?_⟩, h4⟩
  obtain ⟨b, off, rfl, hb, hc⟩ := h3 hn
  refine ⟨b, off, rfl, Nat.lt_of_lt_of_le hb k.size, fun i j hi hj => k.cell (hc i j hi hj) (fun ho => ?_)⟩
  have := (hd.lt A b hw ho).1
  have := h4 b off N.length c rfl hn
  omega
theorem LowNodes.of {n₀ : Nat} {w : World} {v : Value} {N : List Nd} (h : IsNodes w v N) (hn : w.heap.size ≤ n₀) : LowNodes n₀ w v N := by
  refine ⟨h, fun b o n c hv h0 => ?_⟩
  obtain ⟨A0, c', rfl, h1, h2, h3⟩ := h
  obtain ⟨b', off, rfl, hb, _⟩ := h3 h0
  injection hv with e1 e2 e3
  injection e1 with e1
  injection e1 with e1
  omega
/-- A closure's call whose result is not known ahead. -/
theorem wpList_call_cl2 {P : Program} {ops : Array Oper} {rest : List Oper} {a : Act} {w : World} {Q : Exit → Act → World → Prop} {dst : Option Tmp} {ty : TypeId} {pos : String} {after : Array Edge} {xs : Array Operand} {ats : Array TypeId} {gd : Option (Nat × Bool)}
    {vs cap : Array Value} {R : Ending → World → Prop} (t : Tmp) (f : FuncId) (hv : a.eval (.tmp t) = .func (.func f) #[] cap) (hx : xs.toList.map a.eval ++ cap.toList = vs.toList)
    (hw : Region.wanted { dst := dst, op := .call { callee := .value (.tmp t), args := xs, argTypes := ats }, type := ty, pos := pos, after := after, guard := gd } (yielded ops a.tmps) = true)
    (hent : ∀ (args : Array Value) (w : World), Sem.run P (callFunc f args) w = .ok (.enter f args) w) (hc : Calls P f vs w R)
    (hk : ∀ e w', R e w' → ∃ v, e = .returned v ∧ wpList P ops Q rest (a.put dst v) w') :
    wpList P ops Q ({ dst := dst, op := .call { callee := .value (.tmp t), args := xs, argTypes := ats }, type := ty, pos := pos, after := after, guard := gd } :: rest) a w := by
  refine wpList_step fun K hK => ?_
  rw [if_pos hw]
  unfold Oper.wp
  have he : execOp a.eval { dst := dst, op := .call { callee := .value (.tmp t), args := xs, argTypes := ats }, type := ty, pos := pos, after := after, guard := gd } = callFunc f (#[] ++ xs.map a.eval ++ cap) := by
    simp only [execOp, resolve, hv]
    rfl
  have hx' : xs.map a.eval ++ cap = vs := by rw [← Array.toList_inj, Array.toList_append, Array.toList_map, hx]
  rw [he, hent, Array.empty_append, hx', Oper.upon_enter]
  refine hc.mono ?_
  rintro e w' hR
  obtain ⟨v, rfl, h⟩ := hk e w' hR
  exact hK _ _ h
def WalkRet (wf : World → Prop) (O : World → Nat → Prop) (J Jx : List En → World → Prop) (pre l : List En) (w : World) (e : Ending) (w' : World) : Prop :=
  (e = .returned (.bool true) ∧ J (pre ++ l) w' ∧ Kp wf O w w') ∨ (e = .returned (.bool false) ∧ ∃ q, q <+: l ∧ Jx (pre ++ q) w')
set_option maxRecDepth 100000 in
set_option maxHeartbeats 2000000 in
theorem xwalk_c (G : FuncId) (cap : Array Value) (hent : ∀ (args : Array Value) (w : World), Sem.run Try.prog (callFunc G args) w = .ok (.enter G args) w) (n₀ : Nat) (wf : World → Prop) (O : World → Nat → Prop) (hD : Dom n₀ wf O)
    (J Jx : List En → World → Prop) (hJ : ∀ pre W W', J pre W → Below W.heap.size W W' → J pre W') (M : Nat)
    (hY : ∀ pre (x : En) W, okSpan (x.1, x.2.1) = true → J pre W → wf W → pre.length < M → Calls Try.prog G (#[.agg #[.int .i64 x.1, .int .i64 x.2.1, .int .i64 x.2.2]] ++ cap) W fun e W' =>
      (e = .returned (.bool true) ∧ J (pre ++ [x]) W' ∧ Kp wf O W W') ∨ (e = .returned (.bool false) ∧ Jx (pre ++ [x]) W'))
    {N : List Nd} {i : Int} {L : List Nat} {h m : Int} (hsub : Sub N i L h m) : ∀ (v : Value) (root : Int) (pre : List En) (W : World), LowNodes n₀ W v N → J pre W → wf W → pre.length + L.length ≤ M →
      Calls Try.prog 57 #[.agg #[v, .int .i64 root], .int .i64 i, .func (.func G) #[] cap] W (WalkRet wf O J Jx pre (entsOf N L) W) := by
  induction hsub with
  | nil =>
    intro v root pre W hs hj hw _
    obtain ⟨A, c, rfl, hnc, hc⟩ := hs.1.form
    go_enter Try.func57, Try.ntmps57
    go_wp2_with fail
    go_ret
    have hb := (Below.refl W.heap.size W).alloc (Nat.le_refl _) (.cells #[.slice A N.length c, .int .i64 root] 24)
    exact .inl ⟨rfl, by simpa [entsOf] using hJ _ _ _ hj hb, hD.keeps hw hb⟩
  | @node k L R a b x y hk h1 h2 h3 h4 h5 h6 h7 ih1 ih2 =>
    intro v root pre W hs hj hw hM
    obtain ⟨A, c, rfl, hnc, hc⟩ := hs.1.form
    obtain ⟨b0, off, rfl, hb0⟩ := hs.1.addr (by omega)
    have d0 := hs.1.c0 k hk
    have d1 := hs.1.c1 k hk
    have d2 := hs.1.c2 k hk
    have d3 := hs.1.c3 k hk
    have d4 := hs.1.c4 k hk
    have d5 := hs.1.c5 k hk
    have d6 := hs.1.c6 k hk
    have hbT := (Below.refl W.heap.size W).alloc (Nat.le_refl _) (.cells #[.slice (some ⟨b0, off, none⟩) N.length c, .int .i64 root] 24)
    have hbT2 := hbT.alloc hbT.size (.cells #[.int .i64 (nd N k).f, .int .i64 (nd N k).t, .int .i64 (nd N k).v, .int .i64 (nd N k).l, .int .i64 (nd N k).r, .int .i64 (nd N k).m, .int .i64 (nd N k).h] 60)
    have hT0 : ((W.alloc (.cells #[.slice (some ⟨b0, off, none⟩) N.length c, .int .i64 root] 24)).alloc (.cells #[.int .i64 (nd N k).f, .int .i64 (nd N k).t, .int .i64 (nd N k).v, .int .i64 (nd N k).l, .int .i64 (nd N k).r, .int .i64 (nd N k).m, .int .i64 (nd N k).h] 60)).cell? ⟨W.heap.size, 0, none⟩ = some (.slice (some ⟨b0, off, none⟩) N.length c) := by simp
    have hT1 : ((W.alloc (.cells #[.slice (some ⟨b0, off, none⟩) N.length c, .int .i64 root] 24)).alloc (.cells #[.int .i64 (nd N k).f, .int .i64 (nd N k).t, .int .i64 (nd N k).v, .int .i64 (nd N k).l, .int .i64 (nd N k).r, .int .i64 (nd N k).m, .int .i64 (nd N k).h] 60)).cell? ⟨W.heap.size, 1, none⟩ = some (.int .i64 root) := by simp
    have hn := heap_alloc_new (W.alloc (.cells #[.slice (some ⟨b0, off, none⟩) N.length c, .int .i64 root] 24)) (.cells #[.int .i64 (nd N k).f, .int .i64 (nd N k).t, .int .i64 (nd N k).v, .int .i64 (nd N k).l, .int .i64 (nd N k).r, .int .i64 (nd N k).m, .int .i64 (nd N k).h] 60)
    rw [show (W.alloc (.cells #[.slice (some ⟨b0, off, none⟩) N.length c, .int .i64 root] 24)).heap.size = W.heap.size + 1 from by simp] at hn
    have HT0 := Lib.hid hT0; have HT1 := Lib.hid hT1; have Hn := Lib.hid hn; have HbT2 := Lib.hid hbT2
    clear hT0 hT1 hn hbT2 hbT
    have Hok := Lib.hid h3
    clear h1 h2 h3 h4 h5 h6 h7
    go_enter Try.func57, Try.ntmps57
    go_wp2_with fail
    have hbw := HbT2.out; have hT0 := HT0.out; have hT1 := HT1.out; have hn := Hn.out
    clear HT0 HT1 Hn HbT2 d0 d1 d2 d3 d4 d5 d6
    generalize ((W.alloc (.cells #[.slice (some ⟨b0, off, none⟩) N.length c, .int .i64 root] 24)).alloc (.cells #[.int .i64 (nd N k).f, .int .i64 (nd N k).t, .int .i64 (nd N k).v, .int .i64 (nd N k).l, .int .i64 (nd N k).r, .int .i64 (nd N k).m, .int .i64 (nd N k).h] 60)) = w1 at *
    have p0 : w1.cell? ⟨W.heap.size + 1, 0, none⟩ = some (.int .i64 (nd N k).f) := by simp only [World.cell?, hn]; rfl
    have p1 : w1.cell? ⟨W.heap.size + 1, 1, none⟩ = some (.int .i64 (nd N k).t) := by simp only [World.cell?, hn]; rfl
    have p2 : w1.cell? ⟨W.heap.size + 1, 2, none⟩ = some (.int .i64 (nd N k).v) := by simp only [World.cell?, hn]; rfl
    have p4 : w1.cell? ⟨W.heap.size + 1, 4, none⟩ = some (.int .i64 (nd N k).r) := by simp only [World.cell?, hn]; rfl
    have p3 : w1.cell? ⟨W.heap.size + 1, 3, none⟩ = some (.int .i64 (nd N k).l) := by simp only [World.cell?, hn]; rfl
    obtain ⟨q, hq⟩ : ∃ q, q = W.heap.size + 1 := ⟨_, rfl⟩
    obtain ⟨tb, htb⟩ : ∃ q, q = W.heap.size := ⟨_, rfl⟩
    have kp1 := hD.keeps hw hbw
    have hs1 := hs.kp hD hw kp1
    have hj1 := hJ _ _ _ hj hbw
    have nq : ¬ O w1 q := fun ho => by have := (hD.lt W q hw ((hD.grow W w1 hw hbw).2 q ho)).2; omega
    have nt : ¬ O w1 tb := fun ho => by have := (hD.lt W tb hw ((hD.grow W w1 hw hbw).2 tb ho)).2; omega
    rw [← hq] at p0 p1 p2 p3 p4 ⊢
    rw [← htb] at hT0 hT1 ⊢
    have Hkp1 := Lib.hid kp1
    have hw1 := kp1.wf
    clear hq htb hn hbw kp1 hw hj hs
    have hx : ent (nd N k) = ((nd N k).f, (nd N k).t, (nd N k).v) := rfl
    have H3 : ∀ w3, J (pre ++ entsOf N L ++ [ent (nd N k)]) w3 → Kp wf O w1 w3 → Calls Try.prog 57 #[.agg #[.slice (some ⟨b0, off, none⟩) N.length c, .int .i64 root], .int .i64 (nd N k).r, .func (.func G) #[] cap] w3 (WalkRet wf O J Jx (pre ++ entsOf N L ++ [ent (nd N k)]) (entsOf N R) w3) := fun w3 hj3 k3 =>
      ih2 _ root _ w3 (hs1.kp hD hw1 k3) hj3 k3.wf (by simp [entsOf] at *; omega)
    have H2 : ∀ w2, J (pre ++ entsOf N L) w2 → Kp wf O w1 w2 → Calls Try.prog G (#[.agg #[.int .i64 (nd N k).f, .int .i64 (nd N k).t, .int .i64 (nd N k).v]] ++ cap) w2 fun e w3 =>
        (e = .returned (.bool true) ∧ J (pre ++ entsOf N L ++ [ent (nd N k)]) w3 ∧ Kp wf O w1 w3 ∧ w3.cell? ⟨tb, 0, none⟩ = some (.slice (some ⟨b0, off, none⟩) N.length c) ∧ w3.cell? ⟨tb, 1, none⟩ = some (.int .i64 root) ∧ w3.cell? ⟨q, 4, none⟩ = some (.int .i64 (nd N k).r)) ∨
        (e = .returned (.bool false) ∧ Jx (pre ++ entsOf N L ++ [ent (nd N k)]) w3) := fun w2 hj2 k2 =>
      (hY _ (ent (nd N k)) w2 Hok.out hj2 k2.wf (by simp [entsOf] at *; omega)).mono fun e w3 h => h.imp (fun ⟨he, hj3, k3⟩ =>
        have k13 := k2.trans k3
        ⟨he, hj3, k13, k13.cell hT0 nt, k13.cell hT1 nt, k13.cell p4 nq⟩) id
    have H1 : Calls Try.prog 57 #[.agg #[.slice (some ⟨b0, off, none⟩) N.length c, .int .i64 root], .int .i64 (nd N k).l, .func (.func G) #[] cap] w1 fun e w2 =>
        (e = .returned (.bool true) ∧ J (pre ++ entsOf N L) w2 ∧ Kp wf O w1 w2 ∧ w2.cell? ⟨q, 0, none⟩ = some (.int .i64 (nd N k).f) ∧ w2.cell? ⟨q, 1, none⟩ = some (.int .i64 (nd N k).t) ∧ w2.cell? ⟨q, 2, none⟩ = some (.int .i64 (nd N k).v)) ∨
        (e = .returned (.bool false) ∧ ∃ q, q <+: entsOf N L ∧ Jx (pre ++ q) w2) :=
      (ih1 _ root _ w1 hs1 hj1 hw1 (by simp [entsOf] at *; omega)).mono fun e w2 h => h.imp (fun ⟨he, hj2, k2⟩ => ⟨he, hj2, k2, k2.cell p0 nq, k2.cell p1 nq, k2.cell p2 nq⟩) id
    have HH1 := Lib.hid H1; have HH2 := Lib.hid H2; have HH3 := Lib.hid H3
    clear H1 H2 H3 ih1 ih2 p0 p1 p2 p4 hx hY hJ hD hs1 hj1 nq nt hw1
    go_wp2_with (first
      | (go_at_call 57; (with_reducible refine (HH1.out).mono ?_); clear HH1; rintro e w2 (⟨rfl, hj2, k2, e0, e1, e2⟩ | ⟨rfl, q', hq', hx'⟩))
      | ((with_reducible refine wpList_call_cl2 (cap := cap) 21 G ?_ ?_ ?_ hent (HH2.out _ hj2 k2) ?_); exact rfl; exact (by rw [Array.toList_append]; exact congrArg (· ++ cap.toList) rfl); exact rfl; clear HH2; rintro e w3 (⟨rfl, hj3, k3, f0, f1, f2⟩ | ⟨rfl, hx'⟩) <;> refine ⟨_, rfl, ?_⟩)
      | (go_at_call 57; (with_reducible refine (HH3.out _ hj3 k3).mono ?_); clear HH3; rintro e w4 (⟨rfl, hj4, k4⟩ | ⟨rfl, q', hq', hx'⟩))
      | fail)
    · go_ret
      exact .inl ⟨rfl, by simpa [entsOf, List.append_assoc] using hj4, Hkp1.out.trans (k3.trans k4)⟩
    · go_ret
      obtain ⟨r, hr⟩ := hq'
      exact .inr ⟨rfl, entsOf N L ++ ent (nd N k) :: q', ⟨r, by simp [entsOf] at hr ⊢; exact hr⟩, by simpa [List.append_assoc] using hx'⟩
    · go_ret
      exact .inr ⟨rfl, entsOf N L ++ [ent (nd N k)], ⟨entsOf N R, by simp [entsOf]⟩, by simpa [List.append_assoc] using hx'⟩
    · go_ret
      exact .inr ⟨rfl, q', hq'.trans ⟨entsOf N ([k] ++ R), by simp [entsOf]⟩, hx'⟩
end Go.Proofs.Ytgdcgdjlhljbiaa
