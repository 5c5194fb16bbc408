/- The walks of sweep.sorted and sweep.Pack. -/
import Derived.Test.YtahpcepnagpbdaaSwA
namespace Go.Proofs.Ytahpcepnagpbdaa
open Go.RowKit Go.Shelf
open Go.Sort (grow)

/-- A closure that tells of a span whether it counts, in whatever world grown from w. -/
def PredFn (g : FuncId) (cs : Array Value) (p : Sp → Bool) (w : World) : Prop :=
  (∀ (args : Array Value) (w : World), Sem.run Try.prog (callFunc g args) w = .ok (.enter g args) w) ∧ ∀ (W : World) x y, Below w.heap.size w W → Calls Try.prog g (#[.agg #[.int .i64 x, .int .i64 y]] ++ cs) W (Ret W (.bool (p (x, y))))
theorem PredFn.below {g : FuncId} {cs : Array Value} {p : Sp → Bool} {w w' : World} (h : PredFn g cs p w) (hb : Below w.heap.size w w') : PredFn g cs p w' := ⟨h.1, fun W x y hW => h.2 W x y (hb.trans (hW.mono hb.size))⟩
def pickL (l : List Sp) (p : Sp → Bool) (k : Nat) : List Nat := (List.range k).filter fun i => p (sp l i)
theorem pickL_zero (l : List Sp) (p : Sp → Bool) : pickL l p 0 = [] := rfl
theorem pickL_yes {l : List Sp} {p : Sp → Bool} {k : Nat} (h : p (fr l k, tt l k) = true) : idx (pickL l p k) ++ [(k : Int)] = idx (pickL l p (k + 1)) := by
  rw [idx_snoc]; congr 1
  unfold pickL
  rw [List.range_succ, List.filter_append, List.filter_cons, if_pos (by exact h)]; rfl
theorem pickL_no {l : List Sp} {p : Sp → Bool} {k : Nat} (h : p (fr l k, tt l k) = false) : pickL l p (k + 1) = pickL l p k := by
  unfold pickL
  rw [List.range_succ, List.filter_append, List.filter_cons, if_neg (by rw [show p (sp l k) = false from h]; exact Bool.false_ne_true)]; simp
theorem pickL_len (l : List Sp) (p : Sp → Bool) (k : Nat) : (pickL l p k).length ≤ k := by
  have := List.length_filter_le (fun i => p (sp l i)) (List.range k)
  simpa [pickL] using this
theorem pickL_lt {l : List Sp} {p : Sp → Bool} {k : Nat} : ∀ i ∈ pickL l p k, i < k := fun _ hi => List.mem_range.1 (List.mem_filter.1 hi).1

/-! ### indices in memory -/
def ix (M : List Nat) (k : Nat) : Nat := M.getD k 0
theorem ix_at {M : List Nat} {k : Nat} (hk : k < M.length) : M[k] = ix M k := by simp [ix, hk]
theorem ix_mem {L : List Nat} {k : Nat} (hk : k < L.length) : ix L k ∈ L := by rw [← ix_at hk]; exact List.getElem_mem hk
theorem iv_ix {M : List Nat} {k : Nat} (hk : k < M.length) : iv (idx M) k = ((ix M k : Nat) : Int) := by rw [iv_idx M k hk, ix_at hk]
theorem take_ix {M : List Nat} {k : Nat} (hk : k < M.length) : M.take (k + 1) = M.take k ++ [ix M k] := by rw [take_snocN hk, ix_at hk]
theorem rows_idx {w : World} {v : Value} {M : List Nat} (h : IsInts w v (idx M)) : RowsIn w v M.length 1 (intCell (idx M)) := by
  have := h
  unfold IsInts at this
  rwa [idx_len] at this
theorem RowsIn.i0 {w : World} {b off n c : Nat} {E : List Int} (h : RowsIn w (.slice (some ⟨b, off, none⟩) n c) n 1 (intCell E)) (i : Nat) (hi : i < n) : w.cell? ⟨b, off + i, none⟩ = some (.int .i64 (iv E i)) := by
  have := RowsIn.cells h i 0 hi (by omega)
  simpa [intCell] using this
/-- An own row of indices. -/
def OwnsIx (w : World) (base : Nat) (v : Value) (P : List Nat) : Prop := w.ownsRow base 3 1 v P.length (flatI (idx P))
theorem OwnsIx.below {w w' : World} {base : Nat} {v : Value} {P : List Nat} (h : OwnsIx w base v P) (hb : Below w.heap.size w w') : OwnsIx w' base v P := own_below h hb (Nat.le_refl _)
theorem OwnsIx.alloc {w : World} {base : Nat} {v : Value} {P : List Nat} (h : OwnsIx w base v P) (o : Obj) : OwnsIx (w.alloc o) base v P := h.below ((Below.refl _ _).alloc (Nat.le_refl _) o)
theorem OwnsIx.ints {w : World} {base : Nat} {v : Value} {P : List Nat} (h : OwnsIx w base v P) : IsInts w v (idx P) := by
  refine ints_of_own (base := base) (e := 3) ?_
  rw [idx_len]; exact h
theorem OwnsIx.form {w : World} {base : Nat} {v : Value} {P : List Nat} (h : OwnsIx w base v P) (hP : 0 < P.length) : ∃ g cap, v = .slice (some ⟨g, 0, none⟩) P.length cap ∧ base ≤ g ∧ g < w.heap.size ∧ P.length ≤ cap ∧ cap ≤ 9223372036854775807 := by
  have h' : w.ownsRow base 3 1 v (idx P).length (flatI (idx P)) := by rw [idx_len]; exact h
  have := own_formI h' (by rw [idx_len]; exact hP)
  rwa [idx_len] at this
theorem own_formX {w : World} {base : Nat} {v : Value} {P : List Nat} (h : OwnsIx w base v P) : ∃ A cap, v = .slice A P.length cap ∧ P.length ≤ cap := by
  rcases h.2 with ⟨h1, h2⟩ | ⟨g, cap, cur, h1, _, _, h2, _⟩
  · exact ⟨none, 0, by rw [h2]; exact h1, by omega⟩
  · exact ⟨_, _, h1, h2⟩
theorem OwnsIx.cell {w : World} {base g cap : Nat} {P : List Nat} (h : OwnsIx w base (.slice (some ⟨g, 0, none⟩) P.length cap) P) (k : Nat) (hk : k < P.length) : w.cell? ⟨g, k, none⟩ = some (.int .i64 ((ix P k : Nat) : Int)) := by
  have := World.ownsRow.cellAt h k (by omega)
  rw [this, flatI_get (idx P) k (by rw [idx_len]; exact hk), iv_ix hk]
theorem append_ix {P : Program} (hS : P.underlying 25 = some (.slice 3)) (hE : (P.info? 3).map (fun i => (i.zero, i.size, i.bytes)) = some (some (.int .i64 0), 1, 8))
    {ops : Array Oper} {rest : List Oper} {o : Oper} {a : Act} {Q : Exit → Act → World → Prop} (hgd : o.guard = none) (s x : Operand)
    (ho : o.op = .call { callee := .builtin .append, args := #[s, x], argTypes := #[25, 25] })
    {w : World} (base : Nat) (v : Value) (l : List Nat) (j : Nat) (hs : a.eval s = v) (hown : OwnsIx w base v l)
    (hx : a.eval x = .slice (some ⟨w.heap.size, 0, none⟩) 1 1) (hlen : l.length < 900000000) (hbase : base ≤ w.heap.size)
    (h : ∀ v' w', OwnsIx w' base v' (l ++ [j]) → Below base w w' → wpList P ops Q rest (a.put o.dst v') w') :
    wpList P ops Q (o :: rest) a (w.alloc (.cells #[.int .i64 (j : Int)] 3)) := by
  refine append_int hS hE hgd s x ho base v (idx l) (j : Int) hs (by rw [idx_len]; exact hown) hx (by rw [idx_len]; exact hlen) hbase ?_
  intro v' w' hown' hb
  refine h v' w' ?_ hb
  rw [idx_snoc, idx_len] at hown'
  exact hown'
theorem own_base {w : World} {b base size n : Nat} {e : TypeId} {v : Value} {xs : List Value} (h : w.ownsRow base e size v n xs) (hb : b ≤ base) : w.ownsRow b e size v n xs := by
  obtain ⟨h1, h2⟩ := h
  refine ⟨h1, h2.imp id ?_⟩
  rintro ⟨g, cap, cur, hv, hg, r⟩
  exact ⟨g, cap, cur, hv, Nat.le_trans hb hg, r⟩
/-- An own row of indices handed back. -/
def OwnIdx (w : World) (S : List Nat → Prop) (e : Ending) (w' : World) : Prop := ∃ M v', S M ∧ e = .returned v' ∧ OwnsIx w' w.heap.size v' M ∧ Below w.heap.size w w'
set_option maxRecDepth 100000 in
set_option maxHeartbeats 1000000 in
theorem ssorted_c (gs : FuncId) (cs : Array Value) (p : Sp → Bool) (g : FuncId) (key : Sp → Int) (hg : KeyFn g key) (v : Value) (l : List Sp) (w : World) (hs : IsSpans w v l) (hp : PredFn gs cs p w) (hl : l.length ≤ 100000) :
    Calls Try.prog 46 #[v, .func (.func gs) #[] cs, .func (.func g) #[] #[]] w (OwnIdx w (OrdOf (fun j => key (sp l j)) (pickL l p l.length))) := by
  obtain ⟨A, c, rfl, hnc, hc⟩ := hs.form
  have Hg := Lib.hid hg; clear hg
  go_enter Try.func46, Try.ntmps46
  go_wp2_with fail
  have b0 : Below w.heap.size w ((w.alloc (.cells #[.slice A l.length c] 22)).alloc (.cells #[.func (.func g) #[] #[]] 77)) := ((Below.refl _ _).alloc (Nat.le_refl _) _).alloc (by simp) _
  have x3 : ((w.alloc (.cells #[.slice A l.length c] 22)).alloc (.cells #[.func (.func g) #[] #[]] 77)).cell? ⟨w.heap.size, 0, none⟩ = some (.slice A l.length c) := by simp
  have x5 : ((w.alloc (.cells #[.slice A l.length c] 22)).alloc (.cells #[.func (.func g) #[] #[]] 77)).cell? ⟨w.heap.size + 1, 0, none⟩ = some (.func (.func g) #[] #[]) := by simp
  have z : ((w.alloc (.cells #[.slice A l.length c] 22)).alloc (.cells #[.func (.func g) #[] #[]] 77)).heap.size = w.heap.size + 2 := by simp
  generalize (w.alloc (.cells #[.slice A l.length c] 22)).alloc (.cells #[.func (.func g) #[] #[]] 77) = w0 at *
  have hs0 := hs.below b0
  have hp0 := hp.below b0
  have Hz := Lib.hid z
  have hlt3 : w.heap.size < w0.heap.size := by omega
  have hlt5 : w.heap.size + 1 < w0.heap.size := by omega
  clear hs hp z
  obtain ⟨es, hp0⟩ := hp0
  have Hp := Lib.hid hp0; clear hp0
  go_loopw [7, 12] (fun v7 i wr => ∃ k : Nat, i = .int .i64 k ∧ k ≤ l.length ∧ wr.ownsRow w0.heap.size 3 1 v7 (idx (pickL l p k)).length (flatI (idx (pickL l p k))) ∧ Below w0.heap.size w0 wr) (fun _ i _ => l.length - (intOf i).toNat)
  case atStart => exact ⟨0, rfl, Nat.zero_le _, own_nilI _ _ _, Below.refl _ _⟩
  case round =>
    obtain ⟨k, rfl, hk, hown, hbw⟩ := hrel
    by_cases hlt : k < l.length
    · obtain ⟨b, off, rfl, hbk⟩ := hs0.addr (by omega)
      have c0 := (hs0.below hbw).c0 k hlt
      have c1 := (hs0.below hbw).c1 k hlt
      have hyes := fun h => pickL_yes (l := l) (p := p) (k := k) h
      have hno := fun h => pickL_no (l := l) (p := p) (k := k) h
      have hpl := pickL_len l p k
      generalize fr l k = s1 at *
      generalize tt l k = s2 at *
      have hown1 := hown.alloc (.cells #[.int .i64 s1, .int .i64 s2] 31)
      have hal : Below w0.heap.size w0 (wr.alloc (.cells #[.int .i64 s1, .int .i64 s2] 31)) := hbw.alloc hbw.size _
      have hcall := Hp.out _ s1 s2 hal
      cases hd : p (s1, s2)
      all_goals
        rw [hd] at hcall
        have Hcall := Lib.hid hcall; clear hcall
      · have Hno := Lib.hid (hno hd); clear hno hyes hd
        go_wp2_with fail
        refine Hcall.out.mono ?_
        rintro e w2 ⟨rfl, hb2⟩
        have hown2 := own_below hown1 hb2 (Nat.le_refl _)
        have hbw2 := hal.trans (hb2.mono hal.size)
        go_wp2
        go_roundw
        case rel => exact ⟨k + 1, by go_num, by omega, by rw [Hno.out]; exact hown2, hbw2⟩
        case measure => simp [intOf]; omega
      · have Hyes := Lib.hid (hyes hd); clear hno hyes hd
        go_wp2_with fail
        refine Hcall.out.mono ?_
        rintro e w2 ⟨rfl, hb2⟩
        have hown2 := own_below hown1 hb2 (Nat.le_refl _)
        have hbw2 := hal.trans (hb2.mono hal.size)
        go_wp2_with (at_builtin; refine append_int tInts tIntInfo (by rfl) (.tmp 20) (.tmp 22) (by rfl) w0.heap.size _ (idx (pickL l p k)) _ (by rfl) hown2 (by rfl) (by rw [idx_len]; omega) hbw2.size ?_; intro v3 w3 hown3 hb3; have hbw3 := hbw2.trans hb3)
        go_roundw
        case rel => exact ⟨k + 1, by go_num, by omega, by rw [← Hyes.out]; exact hown3, hbw3⟩
        case measure => simp [intOf]; omega
    · obtain rfl : k = l.length := by omega
      have hmf : ∀ (fn : Fn) (first cap : Array Value) (w : World), (Instr.makeFunc fn first cap).run Try.prog w = .ok (.func fn first cap) w := fun _ _ _ _ => rfl
      rw [idx_len] at hown
      have hcon := slSortIdx_c g key Hg.out (.slice A l.length c) l (w.heap.size + 1) w.heap.size w0 wr hbw hs0 x5 x3 (by omega) (by omega) u7 (pickL l p l.length) hown pickL_lt (List.Pairwise.filter _ List.nodup_range) (by have := pickL_len l p l.length; omega)
      have Hcon := Lib.hid hcon; clear hcon x3 x5
      go_wp2_with fail
      refine Hcon.out.mono ?_
      rintro e w2 ⟨rfl, M, hM, hown2, hb2⟩
      have Hfin := Lib.hid (b0.trans ((hbw.trans hb2).mono (by omega)))
      have HM := Lib.hid hM; clear hM
      have hz := Hz.out
      go_wp2
      go_ret
      exact ⟨M, _, HM.out, rfl, own_base hown2 (by omega), Hfin.out⟩

theorem pk_pos {l : List Sp} {P : List Nat} {j : Nat} (h : 0 < P.length) : pk l P j = if tt l (ix P (P.length - 1)) ≤ fr l j then P ++ [j] else P := by
  unfold pk pkOk
  have e : (P.length == 0) = false := by rw [beq_eq_false_iff_ne]; omega
  rw [e, Bool.false_or]
  simp only [decide_eq_true_iff]
  rfl

/-! ### Pack -/
theorem key_from : KeyFn 47 (·.1) := ⟨fun _ _ => by kernel_rfl, fun p q w => by
  go_enter Try.func47, Try.ntmps47
  go_wp2
  go_ret
  exact ⟨rfl, grown_alloc _ _⟩⟩
theorem key_to : KeyFn 56 (·.2) := ⟨fun _ _ => by kernel_rfl, fun p q w => by
  go_enter Try.func56, Try.ntmps56
  go_wp2
  go_ret
  exact ⟨rfl, grown_alloc _ _⟩⟩
theorem pred_all (w : World) : PredFn 45 #[] (fun _ => true) w := ⟨fun _ _ => by kernel_rfl, fun W x y _ => by
  show Calls Try.prog 45 #[.agg #[.int .i64 x, .int .i64 y]] W _
  go_enter Try.func45, Try.ntmps45
  go_wp2
  go_ret
  exact ⟨rfl, (Below.refl _ _).alloc (Nat.le_refl _) _⟩⟩
theorem pred_inside {w : World} {g : Nat} {p q : Int} (h0 : w.cell? ⟨g, 0, none⟩ = some (.int .i64 p)) (h1 : w.cell? ⟨g, 1, none⟩ = some (.int .i64 q)) (hg : g < w.heap.size) : PredFn 55 #[.pointer (some ⟨g, 0, none⟩)] (insideB (p, q)) w :=
  ⟨fun _ _ => by kernel_rfl, fun W x y hW => by
    show Calls Try.prog 55 #[.agg #[.int .i64 x, .int .i64 y], .pointer (some ⟨g, 0, none⟩)] W _
    have c0 := (hW.cell (p := ⟨g, 0, none⟩) hg).trans h0
    have c1 := (hW.cell (p := ⟨g, 1, none⟩) hg).trans h1
    have hlt : g < W.heap.size := Nat.lt_of_lt_of_le hg hW.size
    have hne : g ≠ W.heap.size := by omega
    clear h0 h1
    unfold insideB
    cases h2 : decide (p ≤ x)
    · have h2' : x < p := by simpa using h2
      clear h2
      go_enter Try.func55, Try.ntmps55
      go_wp2
      go_ret
      exact ⟨rfl, (Below.refl _ _).alloc (Nat.le_refl _) _⟩
    · have h2' : p ≤ x := by simpa using h2
      clear h2
      go_enter Try.func55, Try.ntmps55
      go_wp2
      go_ret
      exact ⟨ret_bool (Bool.true_and _).symm, (Below.refl _ _).alloc (Nat.le_refl _) _⟩⟩
/-- Indices and an error number handed back. -/
def IdxE (w : World) (S : List Nat → Int → Prop) (e : Ending) (w' : World) : Prop := ∃ r k v, S r k ∧ e = .returned (.tuple #[v, .int .i64 k]) ∧ IsInts w' v (idx r) ∧ Below w.heap.size w w'
def PackSpec (l : List Sp) (s : Sp) (r : List Nat) (k : Int) : Prop :=
  if (rightB l && okSpan s) = true then ∃ M, OrdOf (fun j => (sp l j).2) (pickL l (insideB s) l.length) M ∧ r = packL l M ∧ k = 0 else r = [] ∧ k = 1
theorem pack_bad {l : List Sp} {s : Sp} (h : (rightB l && okSpan s) = false) : PackSpec l s [] 1 := by
  rw [PackSpec, if_neg (by rw [h]; exact Bool.false_ne_true)]; exact ⟨rfl, rfl⟩
theorem pack_good {l : List Sp} {s : Sp} {M P : List Nat} (hr : rightB l = true) (ho : okSpan s = true) (hM : OrdOf (fun j => (sp l j).2) (pickL l (insideB s) l.length) M) (hP : P = packL l M) : PackSpec l s P 0 := by
  rw [PackSpec, if_pos (by rw [hr, ho]; rfl)]; exact ⟨M, hM, hP, rfl⟩
theorem rightB_len {l : List Sp} (h : rightB l = true) : l.length ≤ 1000 := by
  unfold rightB at h; rw [Bool.and_eq_true] at h; exact of_decide_eq_true h.1
theorem rightB_ok {l : List Sp} (h : rightB l = true) : l.all okSpan = true := by
  unfold rightB at h; rw [Bool.and_eq_true] at h; exact h.2

set_option maxRecDepth 100000 in
set_option maxHeartbeats 1000000 in
theorem sPack_c (v : Value) (l : List Sp) (p q : Int) (w : World) (hs : IsSpans w v l) : Calls Try.prog 20 #[v, .agg #[.int .i64 p, .int .i64 q]] w (IdxE w (PackSpec l (p, q))) := by
  obtain ⟨A, c, rfl, hnc, hc⟩ := hs.form
  cases hr : rightB l
  · have Hb := Lib.hid (pack_bad (l := l) (s := (p, q)) (by rw [hr]; rfl))
    go_enter Try.func20, Try.ntmps20
    go_wp2_with fail
    refine (sright_c _ l _ (hs.alloc _)).mono ?_
    rw [hr]
    rintro e w1 ⟨rfl, hb⟩
    go_wp2
    go_ret2
    exact ⟨[], 1, _, Hb.out, rfl, IsInts.nil, ((Below.refl _ _).alloc (Nat.le_refl _) _).trans (hb.mono (by simp))⟩
  · cases ho : okSpan (p, q)
    · have Hb := Lib.hid (pack_bad (l := l) (s := (p, q)) (by rw [hr, ho]; rfl))
      go_enter Try.func20, Try.ntmps20
      go_wp2_with fail
      refine (sright_c _ l _ (hs.alloc _)).mono ?_
      rw [hr]
      rintro e w1 ⟨rfl, hb⟩
      have x0 : w1.cell? ⟨w.heap.size, 0, none⟩ = some (.int .i64 p) := (hb.cell (p := ⟨w.heap.size, 0, none⟩) (by simp)).trans (by simp)
      have x1 : w1.cell? ⟨w.heap.size, 1, none⟩ = some (.int .i64 q) := (hb.cell (p := ⟨w.heap.size, 1, none⟩) (by simp)).trans (by simp)
      go_wp2_with fail
      refine (ivValid_c _ _ _).mono ?_
      rw [ho]
      rintro e w2 ⟨rfl, hb2⟩
      go_wp2
      go_ret2
      exact ⟨[], 1, _, Hb.out, rfl, IsInts.nil, ((Below.refl _ _).alloc (Nat.le_refl _) _).trans ((hb.trans (hb2.mono hb.size)).mono (by simp))⟩
    · have hl := rightB_len hr
      have hmf : ∀ (fn : Fn) (first cap : Array Value) (w : World), (Instr.makeFunc fn first cap).run Try.prog w = .ok (.func fn first cap) w := fun _ _ _ _ => rfl
      go_enter Try.func20, Try.ntmps20
      go_wp2_with fail
      refine (sright_c _ l _ (hs.alloc _)).mono ?_
      rw [hr]
      rintro e w1 ⟨rfl, hb⟩
      have x0 : w1.cell? ⟨w.heap.size, 0, none⟩ = some (.int .i64 p) := (hb.cell (p := ⟨w.heap.size, 0, none⟩) (by simp)).trans (by simp)
      have x1 : w1.cell? ⟨w.heap.size, 1, none⟩ = some (.int .i64 q) := (hb.cell (p := ⟨w.heap.size, 1, none⟩) (by simp)).trans (by simp)
      have hlt : w.heap.size < w1.heap.size := by have := hb.size; simp at this; omega
      have hB : Below w.heap.size w w1 := ((Below.refl _ _).alloc (Nat.le_refl _) _).trans (hb.mono (by simp))
      clear hb
      go_wp2_with fail
      refine (ivValid_c _ _ _).mono ?_
      rw [ho]
      rintro e w2 ⟨rfl, hb2⟩
      have x0 := (hb2.cell (p := ⟨w.heap.size, 0, none⟩) hlt).trans x0
      have x1 := (hb2.cell (p := ⟨w.heap.size, 1, none⟩) hlt).trans x1
      have hlt : w.heap.size < w2.heap.size := Nat.lt_of_lt_of_le hlt hb2.size
      have hB := hB.trans (hb2.mono hB.size)
      have hs2 := hs.below hB
      have hpi := pred_inside x0 x1 hlt
      clear x0 x1
      go_wp2_with fail
      refine (ssorted_c 55 _ (insideB (p, q)) 56 (·.2) key_to _ l _ hs2 hpi (by omega)).mono ?_
      rintro e w3 ⟨M, v3, hM, rfl, hv3, hb3⟩
      have hv3 := hv3.ints
      have hB := hB.trans (hb3.mono hB.size)
      have hs3 := hs2.below hb3
      have hr3 := rows_idx hv3
      obtain ⟨B, cb, rfl, hcb, hcb2⟩ := hr3.form
      have hMl : M.length ≤ 1000 := by have := hM.perm.length_eq; have := pickL_len l (insideB (p, q)) l.length; omega
      have hMlt : ∀ j ∈ M, j < l.length := fun j hj => pickL_lt j (hM.perm.mem_iff.1 hj)
      have HMlt := Lib.hid hMlt; clear hMlt
      have HM := Lib.hid hM; clear hM hv3 hs hs2 hpi hmf
      go_wp2_with fail
      go_loopw [7, 23] (fun v7 i wr => ∃ (k : Nat) (P : List Nat), i = .int .i64 k ∧ k ≤ M.length ∧ Hid (P = packL l (M.take k)) ∧ OwnsIx wr w3.heap.size v7 P ∧ Below w3.heap.size w3 wr) (fun _ i _ => M.length - (intOf i).toNat)
      case atStart => exact ⟨0, [], rfl, Nat.zero_le _, rfl, own_nilI _ _ _, Below.refl _ _⟩
      case round =>
        obtain ⟨k, P, rfl, hk, HP, hown, hbw⟩ := hrel
        by_cases hlt : k < M.length
        · obtain ⟨b, off, rfl, hbk⟩ := hr3.addr (by omega)
          have c0 := (hr3.below hbw).i0 k hlt
          rw [iv_ix hlt] at c0
          have hj := HMlt.out _ (ix_mem hlt)
          have hstep : packL l (M.take (k + 1)) = pk l P (ix M k) := by rw [take_ix hlt, packL_snoc, HP.out]
          have hPlt : ∀ j ∈ P, j < l.length := fun j hj => HMlt.out _ (List.mem_of_mem_take (packL_mem (HP.out ▸ hj)))
          have hPl : P.length ≤ k := by rw [HP.out]; have := packL_len (l := l) (L := M.take k); simp at this; omega
          generalize ix M k = j at *
          obtain ⟨b2, off2, rfl, hb2⟩ := hs3.addr (by omega)
          by_cases hP0 : P.length = 0
          · obtain rfl := List.length_eq_zero_iff.1 hP0
            have hok : pk l [] j = [] ++ [j] := if_pos rfl
            rw [hok] at hstep
            have Hst := Lib.hid hstep; clear hstep hok hP0
            obtain ⟨C, cc, rfl, hcc⟩ := own_formX hown
            go_wp2_with fail
            refine wp_region_below (by kernel_rfl) (by kernel_rfl) ?_
            repeat (go_big_quiet_step (fail))
            refine wpQuiet_nil ?_
            rintro w5 ⟨⟨_, hb5⟩, rfl⟩
            have hown5 := hown.below hb5
            have hbw5 := hbw.trans (hb5.mono hbw.size)
            go_wp2_with (at_builtin; refine append_ix tInts tIntInfo (by rfl) (.tmp 48) (.tmp 50) (by rfl) w3.heap.size _ [] j (by rfl) hown5 (by rfl) (by simp) hbw5.size ?_; intro v6 w6 hown6 hb6; have hbw6 := hbw5.trans hb6)
            go_roundw
            case rel => exact ⟨k + 1, [j], by go_num, hlt, Hst.out.symm, hown6, hbw6⟩
            case measure => simp [intOf]; omega
          · obtain ⟨g, cap, rfl, hgb, hglt, hcap, hcm⟩ := hown.form (by omega)
            have hlast := hPlt _ (ix_mem (L := P) (k := P.length - 1) (by omega))
            have d0 := hown.cell (P.length - 1) (by omega)
            have hpk : pk l P j = if tt l (ix P (P.length - 1)) ≤ fr l j then P ++ [j] else P := pk_pos (by omega)
            rw [hpk] at hstep
            clear hpk
            have d1 := (hs3.below hbw).c1 _ hlast
            have d2 := (hs3.below hbw).c0 _ hj
            generalize ix P (P.length - 1) = t at *
            have hb2' : b2 < wr.heap.size := Nat.lt_of_lt_of_le hb2 hbw.size
            have e0 := fun x : BW wr => bw_cell x d0 hglt
            have e1 := fun x : BW wr => bw_cell x d1 hb2'
            have e2 := fun x : BW wr => bw_cell x d2 hb2'
            generalize tt l t = T at *
            generalize fr l j = F at *
            clear d0 d1 d2
            have hz : ((P.length : Int) == 0) = false := by rw [beq_eq_false_iff_ne]; omega
            by_cases hd : T ≤ F
            · rw [if_pos hd] at hstep
              have Hst := Lib.hid hstep; clear hstep
              go_wp2_with fail
              refine wp_region_below (by kernel_rfl) (by kernel_rfl) ?_
              repeat (go_big_quiet_step (fail))
              refine wpQuiet_nil ?_
              rintro w5 ⟨⟨_, hb5⟩, rfl⟩
              have hown5 := hown.below hb5
              have hbw5 := hbw.trans (hb5.mono hbw.size)
              clear e0 e1 e2
              go_wp2_with (at_builtin; refine append_ix tInts tIntInfo (by rfl) (.tmp 48) (.tmp 50) (by rfl) w3.heap.size _ P j (by rfl) hown5 (by rfl) (by omega) hbw5.size ?_; intro v6 w6 hown6 hb6; have hbw6 := hbw5.trans hb6)
              go_roundw
              case rel => exact ⟨k + 1, _, by go_num, hlt, Hst.out.symm, hown6, hbw6⟩
              case measure => simp [intOf]; omega
            · rw [if_neg hd] at hstep
              have Hst := Lib.hid hstep; clear hstep
              have hd2 : F < T := by omega
              clear hd
              go_wp2_with fail
              refine wp_region_below (by kernel_rfl) (by kernel_rfl) ?_
              repeat (go_big_quiet_step (fail))
              refine wpQuiet_nil ?_
              rintro w5 ⟨⟨_, hb5⟩, rfl⟩
              have hown5 := hown.below hb5
              have hbw5 := hbw.trans (hb5.mono hbw.size)
              clear e0 e1 e2
              go_wp2
              go_roundw
              case rel => exact ⟨k + 1, _, by go_num, hlt, Hst.out.symm, hown5, hbw5⟩
              case measure => simp [intOf]; omega
        · obtain rfl : k = M.length := by omega
          have hP := HP.out
          rw [List.take_length] at hP
          have HP2 := Lib.hid hP; clear hP HP
          have hfin := hB.trans (hbw.mono hB.size)
          go_wp2
          go_ret2
          exact ⟨P, 0, _, pack_good hr ho HM.out HP2.out, rfl, hown.ints, hfin⟩
end Go.Proofs.Ytahpcepnagpbdaa
