/- The pairs of a join: the walks of sweep.pairs, Join, Overlaps and of the reference's. -/
import Derived.Test.YtahpcepnagpbdaaSwN
namespace Go.Proofs.Ytahpcepnagpbdaa
open Go.RowKit Go.Shelf

theorem append_spanG {P : Program} {tS tE : TypeId} (hS : P.underlying tS = some (.slice tE)) (hE : (P.info? tE).map (fun i => (i.zero, i.size, i.bytes)) = some (some (.agg #[.int .i64 0, .int .i64 0]), 2, 16))
    {ops : Array Oper} {rest : List Oper} {o : Oper} {a : Act} {Q : Exit → Act → World → Prop} (hgd : o.guard = none) (s x : Operand)
    (ho : o.op = .call { callee := .builtin .append, args := #[s, x], argTypes := #[tS, tS] })
    {w : World} (base : Nat) (v : Value) (l : List Sp) (p q : Int) (hs : a.eval s = v) (hown : w.ownsRow base tE 2 v l.length (flat l))
    (hx : a.eval x = .slice (some ⟨w.heap.size, 0, none⟩) 1 1) (hlen : l.length < 1000000000) (hbase : base ≤ w.heap.size)
    (h : ∀ v' w', w'.ownsRow base tE 2 v' (l ++ [(p, q)]).length (flat (l ++ [(p, q)])) → Below base w w' → (∀ b, b < w.heap.size → v.ownBlock ≠ some b → w'.heap[b]? = w.heap[b]? ∧ v'.ownBlock ≠ some b) → w.heap.size ≤ w'.heap.size → wpList P ops Q rest (a.put o.dst v') w') :
    wpList P ops Q (o :: rest) a (w.alloc (.cells #[.int .i64 p, .int .i64 q] tE)) := by
  obtain ⟨i, hi, hz, hsz, hby⟩ := info_parts hE
  refine wpList_append_own_at (w.alloc (.cells #[.int .i64 p, .int .i64 q] tE)) hgd s x tS ho base tE i _ 2 16 hS hi hz hsz hby rfl (by omega) v l.length (flat l) hs (hown.alloc _) ⟨w.heap.size, 0, none⟩ 1 1
    [.int .i64 p, .int .i64 q] hx rfl ?_ (by simp [Value.oneCell']) (by unfold maxLen; omega) (by omega) (by simp; omega) ?_
  · intro j u hu
    rcases j with _ | _ | j <;> simp at hu
    · subst hu; simp [Addr.add]
    · subst hu; simp [Addr.add]
  · intro v' w' hown' hg _ hob
    refine h v' w' ?_ ?_ ?_ ?_
    · rw [flat_snoc]; simpa using hown'
    · refine ((Below.refl base w).alloc hbase _).grown hg (by simp; omega) ?_
      intro k hk
      exact (hown.lt k hk).1
    · intro b hb hne
      refine ⟨?_, ?_⟩
      · exact (hg.block b (by simp; omega) (fun e => hne e.symm)).trans (((Below.refl w.heap.size w).alloc (Nat.le_refl _) _).block b hb)
      · rcases hob with e | e
        · rw [e]; exact hne
        · rw [e]; intro e'; have := Option.some.inj e'; simp at this; omega
    · have := hg.size; simp at this; omega
abbrev Rel2 := Sp → Sp → Bool
def rowP (f : Rel2) (a b : List Sp) (i k : Nat) : List Sp := ((List.range k).filter fun k => f (sp a i) (sp b k)).map fun k : Nat => ((i : Int), (k : Int))
def joinP (f : Rel2) (a b : List Sp) (i : Nat) : List Sp := (List.range i).flatMap fun i => rowP f a b i b.length
theorem rowP_zero (f : Rel2) (a b : List Sp) (i : Nat) : rowP f a b i 0 = [] := rfl
theorem rowP_yes {f : Rel2} {a b : List Sp} {i k : Nat} (h : f (sp a i) (sp b k) = true) : rowP f a b i (k + 1) = rowP f a b i k ++ [((i : Int), (k : Int))] := by
  simp [rowP, List.range_succ, h]
theorem rowP_no {f : Rel2} {a b : List Sp} {i k : Nat} (h : f (sp a i) (sp b k) = false) : rowP f a b i (k + 1) = rowP f a b i k := by
  simp [rowP, List.range_succ, h]
theorem joinP_succ (f : Rel2) (a b : List Sp) (i : Nat) : joinP f a b (i + 1) = joinP f a b i ++ rowP f a b i b.length := by
  simp [joinP, List.range_succ]
theorem rowP_len (f : Rel2) (a b : List Sp) (i : Nat) {k m : Nat} (h : k ≤ m) : (rowP f a b i k).length ≤ (rowP f a b i m).length := by
  induction m with
  | zero => obtain rfl : k = 0 := by omega
            exact Nat.le_refl _
  | succ m ih =>
    rcases Nat.eq_or_lt_of_le h with rfl | h
    · exact Nat.le_refl _
    · have := ih (by omega)
      cases hf : f (sp a i) (sp b m)
      · rw [rowP_no hf]; exact this
      · rw [rowP_yes hf]; simp; omega
theorem joinP_len (f : Rel2) (a b : List Sp) {i n : Nat} (h : i ≤ n) : (joinP f a b i).length ≤ (joinP f a b n).length := by
  induction n with
  | zero => obtain rfl : i = 0 := by omega
            exact Nat.le_refl _
  | succ n ih =>
    rcases Nat.eq_or_lt_of_le h with rfl | h
    · exact Nat.le_refl _
    · have := ih (by omega)
      rw [joinP_succ]; simp; omega
theorem joinP_full {f : Rel2} {a b : List Sp} {i k : Nat} (hi : i < a.length) (hk : k < b.length) (hf : f (sp a i) (sp b k) = true) : (joinP f a b i ++ rowP f a b i k).length < (joinP f a b a.length).length := by
  have h1 := joinP_len f a b (show i + 1 ≤ a.length from hi)
  have h2 := rowP_len f a b i (show k + 1 ≤ b.length from hk)
  rw [joinP_succ] at h1
  rw [rowP_yes hf] at h2
  simp at h1 h2 ⊢
  omega
theorem own_formS {w : World} {base n : Nat} {e : TypeId} {v : Value} {xs : List Value} (h : w.ownsRow base e 2 v n xs) : ∃ A cap, v = .slice A n cap ∧ n ≤ cap := by
  rcases h.2 with ⟨h, h0⟩ | ⟨g, cap, cur, h, _, _, h1, _⟩
  · exact ⟨none, 0, by rw [h, h0], by omega⟩
  · exact ⟨_, cap, h, h1⟩
def PairsSpec (f : Rel2) (a b : List Sp) (r : List Sp) (k : Int) : Prop := if (joinP f a b a.length).length ≤ 10000 then r = joinP f a b a.length ∧ k = 0 else r = [] ∧ k = 5
theorem pairs_one {f : Rel2} {a b : List Sp} {r r' : List Sp} {k k' : Int} (h : PairsSpec f a b r k) (h' : PairsSpec f a b r' k') : r = r' ∧ k = k' := by
  unfold PairsSpec at h h'
  split at h
  · rename_i hl; rw [if_pos hl] at h'; exact ⟨h.1.trans h'.1.symm, h.2.trans h'.2.symm⟩
  · rename_i hl; rw [if_neg hl] at h'; exact ⟨h.1.trans h'.1.symm, h.2.trans h'.2.symm⟩
def PairE (w : World) (S : List Sp → Int → Prop) (e : Ending) (w' : World) : Prop := ∃ r k v, S r k ∧ e = .returned (.tuple #[v, .int .i64 k]) ∧ IsSpans w' v r ∧ Below w.heap.size w w'
def PredFn2 (g : FuncId) (cs : Array Value) (f : Rel2) (w : World) : Prop :=
  (∀ (args : Array Value) (w : World), Sem.run Try.prog (callFunc g args) w = .ok (.enter g args) w) ∧
    ∀ W p q r s, Below w.heap.size w W → okSpan (p, q) = true → okSpan (r, s) = true → Calls Try.prog g (#[.agg #[.int .i64 p, .int .i64 q], .agg #[.int .i64 r, .int .i64 s]] ++ cs) W (Ret W (.bool (f (p, q) (r, s))))
theorem ok_at {l : List Sp} (h : l.all okSpan = true) {i : Nat} (hi : i < l.length) : okSpan (fr l i, tt l i) = true := List.all_eq_true.1 h _ (idx_mem hi)
theorem tPairInfo : (Try.prog.info? 59).map (fun i => (i.zero, i.size, i.bytes)) = some (some (.agg #[.int .i64 0, .int .i64 0]), 2, 16) := by kernel_rfl

set_option maxRecDepth 100000 in
set_option maxHeartbeats 4000000 in
theorem spairs_c (g : FuncId) (cs : Array Value) (f : Rel2) (va vb : Value) (a b : List Sp) (w : World) (hp : PredFn2 g cs f w) (ha : IsSpans w va a) (hb : IsSpans w vb b) (hoa : a.all okSpan = true) (hob : b.all okSpan = true) (hla : a.length ≤ 1000) (hlb : b.length ≤ 1000) :
    Calls Try.prog 60 #[va, vb, .func (.func g) #[] cs] w (PairE w (PairsSpec f a b)) := by
  obtain ⟨A, ca, rfl, hna, hca⟩ := ha.form
  obtain ⟨B, cb, rfl, hnb, hcb⟩ := hb.form
  obtain ⟨es, hp⟩ := hp
  have Hp := Lib.hid hp; have Hoa := Lib.hid hoa; have Hob := Lib.hid hob
  clear hp hoa hob
  go_enter Try.func60, Try.ntmps60
  go_wp2
  go_loopw [8, 15] (fun o i wr => ∃ (k : Nat) (P : List Sp), i = .int .i64 k ∧ k ≤ a.length ∧ Hid (P = joinP f a b k) ∧ P.length ≤ 10000 ∧ wr.ownsRow w.heap.size 59 2 o P.length (flat P) ∧ Below w.heap.size w wr) (fun _ i _ => a.length - (intOf i).toNat)
  case atStart => exact ⟨0, [], rfl, Nat.zero_le _, rfl, by simp, own_nil _ _ _ _, Below.refl _ _⟩
  case round =>
    obtain ⟨i, P, rfl, hi, HP, hPl, hown, hbw⟩ := hrel
    obtain ⟨wo, rfl⟩ : ∃ wo : World, wo = wr := ⟨_, rfl⟩
    by_cases hlt : i < a.length
    · obtain ⟨g1, o1, rfl, hg1⟩ := ha.addr (by omega)
      have d0 := (ha.below hbw).c0 i hlt
      have d1 := (ha.below hbw).c1 i hlt
      have hok1 := ok_at Hoa.out hlt
      have Hok1 := Lib.hid hok1
      have Hsp0 : Hid (sp a i = (fr a i, tt a i)) := rfl
      clear hok1
      generalize fr a i = s0 at *
      generalize tt a i = s1 at *
      have hown1 := hown.alloc (.cells #[.int .i64 s0, .int .i64 s1] 31)
      have hbw1 := hbw.alloc hbw.size (.cells #[.int .i64 s0, .int .i64 s1] 31)
      have x0 : (wo.alloc (.cells #[.int .i64 s0, .int .i64 s1] 31)).cell? ⟨wo.heap.size, 0, none⟩ = some (.int .i64 s0) := by simp
      have x1 : (wo.alloc (.cells #[.int .i64 s0, .int .i64 s1] 31)).cell? ⟨wo.heap.size, 1, none⟩ = some (.int .i64 s1) := by simp
      have hxs : wo.heap.size < (wo.alloc (.cells #[.int .i64 s0, .int .i64 s1] 31)).heap.size := by simp
      have hxw : w.heap.size ≤ wo.heap.size := hbw.size
      generalize hw3 : wo.alloc (.cells #[.int .i64 s0, .int .i64 s1] 31) = w3 at *
      have hnb : ∀ k, Value.ownBlock _ = some k → k < wo.heap.size := fun k hk => (hown.lt k hk).2
      go_wp2
      clear hw3 hown d0 d1
      go_loopw [8, 22] (fun o j wr => ∃ (k : Nat) (P : List Sp), j = .int .i64 k ∧ k ≤ b.length ∧ Hid (P = joinP f a b i ++ rowP f a b i k) ∧ P.length ≤ 10000 ∧ wr.ownsRow w.heap.size 59 2 o P.length (flat P) ∧ Below w.heap.size w wr ∧ wr.cell? ⟨wo.heap.size, 0, none⟩ = some (.int .i64 s0) ∧ wr.cell? ⟨wo.heap.size, 1, none⟩ = some (.int .i64 s1) ∧ wo.heap.size < wr.heap.size ∧ o.ownBlock ≠ some wo.heap.size) (fun _ j _ => b.length - (intOf j).toNat)
      case atStart =>
        exact ⟨0, P, rfl, Nat.zero_le _, by rw [rowP_zero, List.append_nil]; exact HP.out, hPl, hown1, hbw1, x0, x1, hxs, fun e => absurd (hnb _ e) (Nat.lt_irrefl _)⟩
      case round =>
        obtain ⟨k, P2, rfl, hk, HP2, hPl2, hown2, hbw2, y0, y1, hys, hob⟩ := hrel
        by_cases hlk : k < b.length
        · obtain ⟨g2, o2, rfl, hg2⟩ := hb.addr (by omega)
          have e0 := (hb.below hbw2).c0 k hlk
          have e1 := (hb.below hbw2).c1 k hlk
          have hok2 := ok_at Hob.out hlk
          have hyes : Hid (f (s0, s1) (fr b k, tt b k) = true → rowP f a b i (k + 1) = rowP f a b i k ++ [((i : Int), (k : Int))]) := fun h => rowP_yes (by rw [Hsp0.out]; exact h)
          have hno : Hid (f (s0, s1) (fr b k, tt b k) = false → rowP f a b i (k + 1) = rowP f a b i k) := fun h => rowP_no (by rw [Hsp0.out]; exact h)
          have hful : Hid (f (s0, s1) (fr b k, tt b k) = true → P2.length < (joinP f a b a.length).length) := fun h => by rw [HP2.out]; exact joinP_full hlt hlk (by rw [Hsp0.out]; exact h)
          generalize fr b k = t0 at *
          generalize tt b k = t1 at *
          have hown4 := hown2.alloc (.cells #[.int .i64 t0, .int .i64 t1] 31)
          have hal := (Below.refl wr.heap.size wr).alloc (Nat.le_refl _) (.cells #[.int .i64 t0, .int .i64 t1] 31)
          have hbw4 := hbw2.alloc hbw2.size (.cells #[.int .i64 t0, .int .i64 t1] 31)
          have b0 : (wr.alloc (.cells #[.int .i64 t0, .int .i64 t1] 31)).cell? ⟨wr.heap.size, 0, none⟩ = some (.int .i64 t0) := by simp
          have b1 : (wr.alloc (.cells #[.int .i64 t0, .int .i64 t1] 31)).cell? ⟨wr.heap.size, 1, none⟩ = some (.int .i64 t1) := by simp
          have y0' := (hal.cell (p := ⟨wo.heap.size, 0, none⟩) hys).trans y0
          have y1' := (hal.cell (p := ⟨wo.heap.size, 1, none⟩) hys).trans y1
          have hys4 : wo.heap.size < (wr.alloc (.cells #[.int .i64 t0, .int .i64 t1] 31)).heap.size := by simp; omega
          have hcall := Hp.out _ s0 s1 t0 t1 hbw4 Hok1.out hok2
          generalize hw4 : wr.alloc (.cells #[.int .i64 t0, .int .i64 t1] 31) = w4 at *
          clear hok2
          cases hf : f (s0, s1) (t0, t1)
          · rw [hf] at hcall
            have Hcall := Lib.hid hcall
            have Hno := Lib.hid (hno.out hf)
            clear hcall hf hyes hno hful y0 y1
            go_wp2_with fail
            refine Hcall.out.mono ?_
            rintro e w5 ⟨rfl, hb5⟩
            have hown5 := own_below hown4 hb5 (Nat.le_refl _)
            have hbw5 := hbw4.trans (hb5.mono hbw4.size)
            have z0 := (hb5.cell (p := ⟨wo.heap.size, 0, none⟩) hys4).trans y0'
            have z1 := (hb5.cell (p := ⟨wo.heap.size, 1, none⟩) hys4).trans y1'
            have hys5 := Nat.lt_of_lt_of_le hys4 hb5.size
            clear hw4 e0 e1 b0 b1 y0' y1'
            go_wp2
            go_roundw
            case rel => exact ⟨k + 1, P2, by go_num, hlk, by rw [Hno.out]; exact HP2.out, hPl2, hown5, hbw5, z0, z1, hys5, hob⟩
            case measure => simp [intOf]; omega
          · rw [hf] at hcall
            have Hcall := Lib.hid hcall
            have Hyes := Lib.hid (hyes.out hf)
            have Hful := Lib.hid (hful.out hf)
            clear hcall hf hyes hno hful y0 y1
            obtain ⟨Ao, co, rfl, hco⟩ := own_formS hown4
            by_cases hL : P2.length = 10000
            · have hL' : ((P2.length : Int) == 10000) = true := by rw [beq_iff_eq]; omega
              have hres : PairsSpec f a b [] 5 := by rw [PairsSpec, if_neg (by have := Hful.out; omega)]; exact ⟨rfl, rfl⟩
              have Hres := Lib.hid hres
              clear hL hres
              go_wp2_with fail
              refine Hcall.out.mono ?_
              rintro e w5 ⟨rfl, hb5⟩
              have hbw5 := hbw4.trans (hb5.mono hbw4.size)
              clear hw4 e0 e1 b0 b1 y0' y1'
              go_wp2
              go_ret2
              exact ⟨[], 5, _, Hres.out, rfl, IsSpans.nil, hbw5⟩
            · have hL' : ((P2.length : Int) == 10000) = false := by rw [beq_eq_false_iff_ne]; omega
              go_wp2_with fail
              refine Hcall.out.mono ?_
              rintro e w5 ⟨rfl, hb5⟩
              have hown5 := own_below hown4 hb5 (Nat.le_refl _)
              have hbw5 := hbw4.trans (hb5.mono hbw4.size)
              have z0 := (hb5.cell (p := ⟨wo.heap.size, 0, none⟩) hys4).trans y0'
              have z1 := (hb5.cell (p := ⟨wo.heap.size, 1, none⟩) hys4).trans y1'
              have hys5 := Nat.lt_of_lt_of_le hys4 hb5.size
              clear hw4 e0 e1 b0 b1 y0' y1'
              go_wp2_with (at_builtin; refine append_spanG Try.underlying53 tPairInfo (by rfl) (.tmp 35) (.tmp 39) (by rfl) w.heap.size _ P2 (i : Int) (k : Int) (by rfl) hown5 (by rfl) (by omega) hbw5.size ?_; intro v7 w7 hown7 hb7 hblk hsz7)
              obtain ⟨q1, q2⟩ := hblk wo.heap.size hys5 hob
              have hbw7 := hbw5.trans hb7
              have zz0 := (World.cell?_of_block (a := ⟨wo.heap.size, 0, none⟩) q1).trans z0
              have zz1 := (World.cell?_of_block (a := ⟨wo.heap.size, 1, none⟩) q1).trans z1
              have hys7 := Nat.lt_of_lt_of_le hys5 hsz7
              clear z0 z1
              go_roundw
              case rel => exact ⟨k + 1, P2 ++ [((i : Int), (k : Int))], by go_num, hlk, by rw [Hyes.out, ← List.append_assoc, ← HP2.out]; exact rfl, by simp; omega, hown7, hbw7, zz0, zz1, hys7, q2⟩
              case measure => simp [intOf]; omega
        · obtain rfl : k = b.length := by omega
          have HP3 : Hid (P2 = joinP f a b (i + 1)) := by rw [joinP_succ]; exact HP2.out
          clear HP2 y0 y1
          go_wp2
          go_roundw
          case rel => exact ⟨i + 1, P2, by go_num, hlt, HP3, hPl2, hown2, hbw2⟩
          case measure => simp [intOf]; omega
    · obtain rfl : i = a.length := by omega
      have hres : PairsSpec f a b P 0 := by rw [PairsSpec, if_pos (by rw [← HP.out]; exact hPl)]; exact ⟨HP.out, rfl⟩
      have Hres := Lib.hid hres
      clear hres HP
      go_wp2
      go_ret2
      exact ⟨P, 0, _, Hres.out, rfl, spans_of_own hown, hbw⟩
end Go.Proofs.Ytahpcepnagpbdaa
