/- Law 42: index.entries: the closure that collects, and the walk with it. -/
import Derived.Test.YtgdcgdjlhljbiaaIdxN
import Derived.Test.YtgdcgdjlhljbiaaIdxS
namespace Go.Proofs.Ytgdcgdjlhljbiaa
open Go.RowKit

theorem tXEntryInfo : (Try.prog.info? 75).map (fun i => (i.zero, i.size, i.bytes)) = some (some (.agg #[.int .i64 0, .int .i64 0, .int .i64 0]), 3, 24) := by kernel_rfl
/-- append(own, one entry) in a list of operations; what it leaves alone. -/
theorem append_entG {P : Program} {tS tE : TypeId} (hS : P.underlying tS = some (.slice tE)) (hE : (P.info? tE).map (fun i => (i.zero, i.size, i.bytes)) = some (some (.agg #[.int .i64 0, .int .i64 0, .int .i64 0]), 3, 24))
    {ops : Array Oper} {rest : List Oper} {o : Oper} {a : Act} {Q : Exit → Act → World → Prop} (hgd : o.guard = none) (s x : Operand)
    (ho : o.op = .call { callee := .builtin .append, args := #[s, x], argTypes := #[tS, tS] })
    {w : World} (base : Nat) (v : Value) (l : List En) (y : En) (hs : a.eval s = v) (hown : OwnsE w base tE v l)
    (hx : a.eval x = .slice (some ⟨w.heap.size, 0, none⟩) 1 1) (hlen : l.length < 900000000) (hbase : base ≤ w.heap.size)
    (h : ∀ v' w', OwnsE w' base tE v' (l ++ [y]) → Below base w w' → (∀ b, b < w.heap.size → v.ownBlock ≠ some b → w'.heap[b]? = w.heap[b]?) → (∀ k, v'.ownBlock = some k → v.ownBlock = some k ∨ w.heap.size ≤ k) → wpList P ops Q rest (a.put o.dst v') w') :
    wpList P ops Q (o :: rest) a (w.alloc (.cells #[.int .i64 y.1, .int .i64 y.2.1, .int .i64 y.2.2] tE)) := by
  obtain ⟨i, hi, hz, hsz, hby⟩ := info_parts hE
  refine wpList_append_own_at (w.alloc (.cells #[.int .i64 y.1, .int .i64 y.2.1, .int .i64 y.2.2] tE)) hgd s x tS ho base tE i _ 3 24 hS hi hz hsz hby rfl (by omega) v l.length (flatE l) hs (OwnsE.alloc hown _) ⟨w.heap.size, 0, none⟩ 1 1
    [.int .i64 y.1, .int .i64 y.2.1, .int .i64 y.2.2] hx rfl ?_ (by simp [Value.oneCell']) (by unfold maxLen; omega) (by omega) (by simp; omega) ?_
  · intro j u hu
    have hj : j < 3 := by
      rcases Nat.lt_or_ge j 3 with hj | hj
      · exact hj
      · rw [List.getElem?_eq_none (by simp; omega)] at hu; cases hu
    have e : (⟨w.heap.size, 0, none⟩ : Addr).add j = ⟨w.heap.size, j, none⟩ := by
      simp [Addr.add]
      exact fun h => h.symm
    rw [e]
    have hn := heap_alloc_new w (.cells #[.int .i64 y.1, .int .i64 y.2.1, .int .i64 y.2.2] tE)
    simp only [World.cell?, hn]
    simpa using hu
  · intro v' w' hown' hg _ hob
    refine h v' w' ?_ ?_ ?_ ?_
    · unfold OwnsE
      rw [flatE_append, List.length_append]
      simpa [flatE] using hown'
    · refine ((Below.refl base w).alloc hbase _).grown hg (by simp; omega) ?_
      intro k hk
      exact (World.ownsRow.lt hown k hk).1
    · intro b hb hne
      exact (hg.block b (by simp; omega) (fun e => hne e.symm)).trans (((Below.refl w.heap.size w).alloc (Nat.le_refl _) _).block b hb)
    · intro k hk
      rcases hob with h1 | h1
      · exact .inl (h1 ▸ hk)
      · rw [h1] at hk
        have := Option.some.inj hk
        simp at this
        exact .inr (by omega)

/-! ### a variable's box that holds a list of the call's own -/
def wfBox (c : Nat) (t : TypeId) (W : World) : Prop := ∃ v, W.heap[c]? = some (.cells #[v] t (0, 0)) ∧ ∀ k, v.ownBlock = some k → c < k ∧ k < W.heap.size
def OBox (c : Nat) (t : TypeId) (W : World) (k : Nat) : Prop := k = c ∨ ∃ v, W.heap[c]? = some (.cells #[v] t (0, 0)) ∧ v.ownBlock = some k
theorem dom_box (c : Nat) (t : TypeId) : Dom c (wfBox c t) (OBox c t) where
  grow W W' h hb := by
    obtain ⟨v, hv, hk⟩ := h
    have hc := (hb.block c (lt_of_block hv)).trans hv
    refine ⟨⟨v, hc, fun k hk' => ⟨(hk k hk').1, Nat.lt_of_lt_of_le (hk k hk').2 hb.size⟩⟩, fun k ho => ho.imp id ?_⟩
    rintro ⟨u, hu, hk'⟩
    rw [hc] at hu
    injection hu with hu
    injection hu with hu
    injection hu with hu
    injection hu with hu
    exact ⟨v, hv, by rw [hu]; exact hk'⟩
  lt W k h ho := by
    obtain ⟨v, hv, hk⟩ := h
    rcases ho with rfl | ⟨u, hu, hk'⟩
    · exact ⟨Nat.le_refl _, lt_of_block hv⟩
    · rw [hv] at hu
      injection hu with hu
      injection hu with hu
      injection hu with hu
      injection hu with hu
      have := hk k (by rw [hu]; exact hk')
      omega
/-- A store of the grown list into its box: what a round that appends keeps. -/
theorem kp_box {c : Nat} {t : TypeId} {W W1 : World} {v v' : Value} (hv : W.heap[c]? = some (.cells #[v] t (0, 0))) (hne : v.ownBlock ≠ some c) (hsz : W.heap.size ≤ W1.heap.size)
    (hk : ∀ b, b < W.heap.size → v.ownBlock ≠ some b → W1.heap[b]? = W.heap[b]?) (hob : ∀ k, v'.ownBlock = some k → v.ownBlock = some k ∨ W.heap.size ≤ k) (hlt : ∀ k, v'.ownBlock = some k → c < k ∧ k < W1.heap.size) :
    Kp (wfBox c t) (OBox c t) W (W1.setCell ⟨c, 0, none⟩ v') := by
  have hc1 : W1.heap[c]? = some (.cells #[v] t (0, 0)) := (hk c (lt_of_block hv) hne).trans hv
  have hc2 : (W1.setCell ⟨c, 0, none⟩ v').heap[c]? = some (.cells #[v'] t (0, 0)) := by simp [World.setCell, Array.getElem?_modify, hc1]
  have hz : (W1.setCell ⟨c, 0, none⟩ v').heap.size = W1.heap.size := by simp [World.setCell]
  refine ⟨⟨v', hc2, fun k h => by rw [hz]; exact hlt k h⟩, by rw [hz]; exact hsz, fun k cs t' r hk' ho => ?_, fun k ho => ?_⟩
  · have hkc : c ≠ k := fun e => ho (.inl e.symm)
    have hkv : v.ownBlock ≠ some k := fun e => ho (.inr ⟨v, hv, e⟩)
    exact ((Below.heap_setCell _ _ _ _ (fun e => hkc e.symm)).trans (hk k (lt_of_block hk') hkv)).trans hk'
  · rcases ho with rfl | ⟨u, hu, hk'⟩
    · exact .inl (.inl rfl)
    · rw [hc2] at hu
      injection hu with hu
      injection hu with hu
      injection hu with hu
      injection hu with hu
      rcases hob k (by rw [hu]; exact hk') with h1 | h1
      · exact .inl (.inr ⟨v, hv, h1⟩)
      · exact .inr h1
theorem OwnsE.kept {w w' : World} {base : Nat} {t : TypeId} {v : Value} {N : List En} (h : OwnsE w base t v N) (hk : ∀ g, v.ownBlock = some g → w'.heap[g]? = w.heap[g]?) : OwnsE w' base t v N := by
  refine ⟨h.1, h.2.imp id ?_⟩
  rintro ⟨g, cap, cur, rfl, hg, hh, r⟩
  exact ⟨g, cap, cur, rfl, hg, (hk g rfl).trans hh, r⟩
theorem OwnsE.own {w : World} {base : Nat} {t : TypeId} {v : Value} {N : List En} (h : OwnsE w base t v N) (k : Nat) (hk : v.ownBlock = some k) : base ≤ k ∧ k < w.heap.size := World.ownsRow.lt h k hk
/-- The entries that have come lie in the box. -/
def JE (c : Nat) (w0 : World) (pre : List En) (W : World) : Prop := (∃ v, W.heap[c]? = some (.cells #[v] 84 (0, 0)) ∧ OwnsE W (c + 1) 75 v pre) ∧ Below c w0 W
theorem je_keep {c : Nat} {w0 : World} (_hc : c ≤ w0.heap.size) (pre : List En) (W W' : World) (h : JE c w0 pre W) (hb : Below W.heap.size W W') : JE c w0 pre W' := by
  obtain ⟨⟨v, hv, ho⟩, hB⟩ := h
  exact ⟨⟨v, (hb.block c (lt_of_block hv)).trans hv, ho.below hb⟩, hB.trans (hb.mono (by have := lt_of_block hv; omega))⟩
theorem ent_xentries1 : ∀ (args : Array Value) (w : World), Sem.run Try.prog (callFunc 77 args) w = .ok (.enter 77 args) w := fun _ _ => by kernel_rfl
set_option maxRecDepth 100000 in
theorem xentries1_c (c : Nat) (w0 : World) (pre : List En) (x : En) (W : World) (hJ : JE c w0 pre W) (hl : pre.length < 100000) :
    Calls Try.prog 77 #[.agg #[.int .i64 x.1, .int .i64 x.2.1, .int .i64 x.2.2], .pointer (some ⟨c, 0, none⟩)] W fun e W' => e = .returned (.bool true) ∧ JE c w0 (pre ++ [x]) W' ∧ Kp (wfBox c 84) (OBox c 84) W W' := by
  obtain ⟨⟨v, hv, ho⟩, hB⟩ := hJ
  obtain ⟨x0, x1, x2⟩ := x
  have hcw := lt_of_block hv
  obtain ⟨A, cap, hf⟩ : ∃ A cap, v = .slice A pre.length cap := by
    obtain ⟨A, cp, e, _⟩ := ho.ents.form
    exact ⟨A, cp, e⟩
  subst hf
  have hbA := (Below.refl W.heap.size W).alloc (Nat.le_refl _) (.cells #[.int .i64 x0, .int .i64 x1, .int .i64 x2] 75)
  have hv1 : (W.alloc (.cells #[.int .i64 x0, .int .i64 x1, .int .i64 x2] 75)).heap[c]? = some (.cells #[.slice A pre.length cap] 84 (0, 0)) := (hbA.block c hcw).trans hv
  have c0 : (W.alloc (.cells #[.int .i64 x0, .int .i64 x1, .int .i64 x2] 75)).cell? ⟨c, 0, none⟩ = some (.slice A pre.length cap) := by simp [World.cell?, hv1]
  have hn := heap_alloc_new W (.cells #[.int .i64 x0, .int .i64 x1, .int .i64 x2] 75)
  have e0 : (W.alloc (.cells #[.int .i64 x0, .int .i64 x1, .int .i64 x2] 75)).cell? ⟨W.heap.size, 0, none⟩ = some (.int .i64 x0) := by simp
  have e1 : (W.alloc (.cells #[.int .i64 x0, .int .i64 x1, .int .i64 x2] 75)).cell? ⟨W.heap.size, 1, none⟩ = some (.int .i64 x1) := by simp
  have e2 : (W.alloc (.cells #[.int .i64 x0, .int .i64 x1, .int .i64 x2] 75)).cell? ⟨W.heap.size, 2, none⟩ = some (.int .i64 x2) := by simp
  have hz : (W.alloc (.cells #[.int .i64 x0, .int .i64 x1, .int .i64 x2] 75)).heap.size = W.heap.size + 1 := by simp
  have ho1 := ho.below hbA
  go_enter Try.func77, Try.ntmps77
  have hne : (Value.slice A pre.length cap).ownBlock ≠ some c := fun e => by have := (ho.own c e).1; omega
  have Ho := Lib.hid ho; have HB := Lib.hid hB; have HbA := Lib.hid hbA; have Hne := Lib.hid hne; have Ho1 := Lib.hid ho1; have Hv := Lib.hid hv; have Hv1 := Lib.hid hv1
  clear ho hB hbA hne ho1 hn hv hv1
  go_wp2_with (at_builtin; refine append_entG Try.underlying84 tXEntryInfo rfl _ _ rfl (c + 1) (.slice A pre.length cap) pre (x0, x1, x2) rfl Ho1.out (by rw [hz]; rfl) (by omega) (by rw [hz]; omega) ?_; intro v' w' h1 h2 h3 h4; have q0 : w'.heap[c]? = some (.cells #[.slice A pre.length cap] 84 (0, 0)) := (h3 c (by rw [hz]; omega) Hne.out).trans Hv1.out; have q1 : w'.cell? ⟨c, 0, none⟩ = some (.slice A pre.length cap) := (by simp [World.cell?, q0]); have q2 : w'.frozen? ⟨c, 0, none⟩ = false := (by simp [World.frozen?, q0]); have Q0 := Lib.hid q0; have H1 := Lib.hid h1; have H2 := Lib.hid h2; have H3 := Lib.hid h3; have H4 := Lib.hid h4; obtain ⟨g', cap', rfl, hg1, hg2, _, _⟩ := own_formE h1 (by simp); clear h1 h2 h3 h4 q0)
  go_ret
  have h1 := H1.out
  have e : (pre ++ [(x0, x1, x2)]).length = pre.length + 1 := by simp
  rw [e] at h1
  have hc2 : (w'.setCell ⟨c, 0, none⟩ (.slice (some ⟨g', 0, none⟩) (pre.length + 1) cap')).heap[c]? = some (.cells #[.slice (some ⟨g', 0, none⟩) (pre.length + 1) cap'] 84 (0, 0)) := by
    have := Q0.out
    simp [World.setCell, Array.getElem?_modify, this]
  have hsz := H2.out.size
  rw [hz] at hsz
  refine ⟨rfl, ⟨⟨_, hc2, h1.kept fun g hg => Below.heap_setCell _ _ _ _ (fun e => ?_)⟩, ((HB.out.trans (HbA.out.mono (by omega))).trans (H2.out.mono (by omega))).setCell (p := ⟨c, 0, none⟩) (Nat.le_refl _) _⟩,
    kp_box Hv.out Hne.out (by omega) (fun b hb hn => (H3.out b (by rw [hz]; omega) hn).trans (HbA.out.block b hb)) (fun k hk => (H4.out k (by rw [e]; exact hk)).imp id (fun h => by rw [hz] at h; omega)) (fun k hk => by have := h1.own k hk; omega)⟩
  have h5 := (h1.own g hg).1
  simp only at e
  omega
set_option maxRecDepth 100000 in
theorem xentries_c {N : List Nd} {root : Int} {L : List Nat} {h m : Int} (hsub : Sub N root L h m) (v : Value) (w : World) (hs : IsNodes w v N) (hl : L.length ≤ 100000) : Calls Try.prog 64 #[.agg #[v, .int .i64 root]] w (EntsRet 75 w.heap.size w w (entsOf N L)) := by
  obtain ⟨A, cp, rfl, hnc, hc⟩ := hs.form
  have hb1 := (Below.refl w.heap.size w).alloc (Nat.le_refl _) (.cells #[.slice A N.length cp, .int .i64 root] 24)
  have hz1 : (w.alloc (.cells #[.slice A N.length cp, .int .i64 root] 24)).heap.size = w.heap.size + 1 := by simp
  have hb2 := hb1.alloc (by rw [hz1]; omega) (.cells #[.slice none 0 0] 84)
  have hz2 : ((w.alloc (.cells #[.slice A N.length cp, .int .i64 root] 24)).alloc (.cells #[.slice none 0 0] 84)).heap.size = w.heap.size + 2 := by simp
  have hC : ((w.alloc (.cells #[.slice A N.length cp, .int .i64 root] 24)).alloc (.cells #[.slice none 0 0] 84)).heap[w.heap.size + 1]? = some (.cells #[.slice none 0 0] 84 (0, 0)) := by
    have := heap_alloc_new (w.alloc (.cells #[.slice A N.length cp, .int .i64 root] 24)) (.cells #[.slice none 0 0] 84)
    rwa [hz1] at this
  have t0 : ((w.alloc (.cells #[.slice A N.length cp, .int .i64 root] 24)).alloc (.cells #[.slice none 0 0] 84)).cell? ⟨w.heap.size, 0, none⟩ = some (.slice A N.length cp) := by simp
  have t1 : ((w.alloc (.cells #[.slice A N.length cp, .int .i64 root] 24)).alloc (.cells #[.slice none 0 0] 84)).cell? ⟨w.heap.size, 1, none⟩ = some (.int .i64 root) := by simp
  have hlow : LowNodes (w.heap.size + 1) ((w.alloc (.cells #[.slice A N.length cp, .int .i64 root] 24)).alloc (.cells #[.slice none 0 0] 84)) (.slice A N.length cp) N := ⟨hs.below hb2, fun b o n c' hv h0 => by
    have := (LowNodes.of (n₀ := w.heap.size) hs (Nat.le_refl _)).2 b o n c' hv h0
    omega⟩
  have hg := xwalk_c 77 #[.pointer (some ⟨w.heap.size + 1, 0, none⟩)] ent_xentries1 (w.heap.size + 1) (wfBox (w.heap.size + 1) 84) (OBox (w.heap.size + 1) 84) (dom_box _ _)
    (JE (w.heap.size + 1) ((w.alloc (.cells #[.slice A N.length cp, .int .i64 root] 24)).alloc (.cells #[.slice none 0 0] 84))) (fun _ _ => False) (je_keep (by rw [hz2]; omega)) L.length
    (fun pre x W _ hj _ hlt => (xentries1_c _ _ pre x W hj (by omega)).mono fun _ _ h => .inl h) hsub (.slice A N.length cp) root [] _ hlow ⟨⟨_, hC, OwnsE.nil⟩, Below.refl _ _⟩ ⟨_, hC, fun k hk => by simp [Value.ownBlock] at hk⟩ (by simp)
  have Hg := Lib.hid hg; have Hb2 := Lib.hid hb2
  clear hg hb2 hb1 hC hlow hs
  go_enter Try.func64, Try.ntmps64
  go_wp2_with fail
  refine Hg.out.mono ?_
  rintro e w3 (⟨rfl, ⟨⟨v3, hv3, ho3⟩, hB3⟩, _⟩ | ⟨_, _, _, hf⟩)
  · rw [List.nil_append] at ho3
    obtain ⟨A3, c3, rfl, _, _⟩ := ho3.ents.form
    have q : w3.cell? ⟨w.heap.size + 1, 0, none⟩ = some (.slice A3 (entsOf N L).length c3) := by simp [World.cell?, hv3]
    have Ho := Lib.hid ho3; have HB := Lib.hid hB3
    clear ho3 hB3 hv3 t0 t1
    go_wp2_with fail
    go_ret
    have hbF : Below w.heap.size w w3 := Hb2.out.trans (HB.out.mono (by omega))
    exact ⟨_, rfl, Ho.out.mono (by omega), hbF, hbF⟩
  · exact hf.elim
end Go.Proofs.Ytgdcgdjlhljbiaa
