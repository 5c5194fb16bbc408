/- Law 39: the table with an entry more, or with an entry turned. -/
import Derived.Test.YtohjgegnamcnlaaGreatAgK
namespace Go.Proofs.YtohjgegnamcnlaaGreat
open Go.RowKit Go.Shelf

def updI (U : Nat → Value) (i : Nat) (v : Value) : Nat → Value := fun j => if j = i then v else U j
theorem updI_at (U : Nat → Value) (i : Nat) (v : Value) : updI U i v i = v := if_pos rfl
theorem updI_ne (U : Nat → Value) {i j : Nat} (v : Value) (h : j ≠ i) : updI U i v j = U j := if_neg h
theorem ent_app {E : List Ent} {e : Ent} {i : Nat} (h : i < E.length) : ent (E ++ [e]) i = ent E i := by
  unfold ent
  simp [List.getElem?_append_left h]
theorem ent_last (E : List Ent) (e : Ent) : ent (E ++ [e]) E.length = e := by simp [ent]
theorem ent_set {E : List Ent} {i : Nat} (e : Ent) (h : i < E.length) : ent (E.set i e) i = e := by simp [ent, h]
theorem ent_set_ne {E : List Ent} {i j : Nat} (e : Ent) (h : j ≠ i) : ent (E.set i e) j = ent E j := by
  unfold ent
  simp [List.getElem?_set_ne (fun e => h e.symm)]
theorem EntOk.look {E : List Ent} (h : EntOk E) (U : Nat → Value) {i : Nat} (hi : i < E.length) : lookE E U (codeE E i) = some (U i) := by unfold lookE; rw [h.idx hi]; rfl
theorem lookE_none {E : List Ent} (U : Nat → Value) {s : ByteArray} (h : ∀ i, i < E.length → codeE E i ≠ s) : lookE E U s = none := by
  unfold lookE
  cases q : idxE E s with
  | none => rfl
  | some i => exact absurd (idxE_some q).2 (h i (idxE_some q).1)
theorem EntOk.app {E : List Ent} (h : EntOk E) {r : VRow} {ss : List Sp} (hr : okR r ∧ 1 ≤ r.length ∧ r.length ≤ 100) (hnew : idxE E (encR r) = none) : EntOk (E ++ [(r, ss)]) := by
  have hno : ∀ i, i < E.length → (ent E i).1 ≠ r := fun i hi e => idxE_none hnew i hi (by unfold codeE; rw [e])
  refine ⟨fun e he => ?_, fun i j hi hj he => ?_⟩
  · rcases List.mem_append.1 he with q | q
    · exact h.ok e q
    · rw [List.mem_singleton] at q; subst q; exact hr
  · rw [List.length_append, List.length_singleton] at hi hj
    rcases Nat.lt_or_ge i E.length with h1 | h1 <;> rcases Nat.lt_or_ge j E.length with h2 | h2
    · rw [ent_app h1, ent_app h2] at he
      exact h.inj i j h1 h2 he
    · obtain rfl : j = E.length := by omega
      rw [ent_app h1, ent_last] at he
      exact absurd he (hno i h1)
    · obtain rfl : i = E.length := by omega
      rw [ent_app h2, ent_last] at he
      exact absurd he.symm (hno j h2)
    · omega
theorem EntOk.set {E : List Ent} (h : EntOk E) {i : Nat} (hi : i < E.length) (ss : List Sp) : EntOk (E.set i ((ent E i).1, ss)) := by
  have h1 : ∀ j, (ent (E.set i ((ent E i).1, ss)) j).1 = (ent E j).1 := fun j => by
    by_cases e : j = i
    · subst e; rw [ent_set _ hi]
    · rw [ent_set_ne _ e]
  refine ⟨fun e he => ?_, fun j k hj hk he => ?_⟩
  · obtain ⟨j, hj, rfl⟩ := List.getElem_of_mem he
    rw [ent_at hj, h1 j]
    rw [List.length_set] at hj
    exact h.ok _ (ent_mem hj)
  · rw [List.length_set] at hj hk
    rw [h1, h1] at he
    exact h.inj j k hj hk he
theorem lookE_app {E : List Ent} {U : Nat → Value} {r : VRow} {ss : List Sp} (h : EntOk E) (h2 : EntOk (E ++ [(r, ss)])) (v : Value) (s : ByteArray) : updF (lookE E U) (encR r) (some v) s = lookE (E ++ [(r, ss)]) (updI U E.length v) s := by
  have hl : (E ++ [(r, ss)]).length = E.length + 1 := by simp
  unfold updF
  by_cases e : s = encR r
  · subst e
    rw [if_pos rfl]
    have := h2.look (updI U E.length v) (i := E.length) (by omega)
    unfold codeE at this
    rw [ent_last, updI_at] at this
    exact this.symm
  · rw [if_neg e]
    by_cases q : ∃ i, i < E.length ∧ codeE E i = s
    · obtain ⟨i, hi, rfl⟩ := q
      rw [h.look U hi]
      have := h2.look (updI U E.length v) (i := i) (by omega)
      unfold codeE at this ⊢
      rw [ent_app hi, updI_ne _ _ (by omega)] at this
      exact this.symm
    · rw [lookE_none U (fun i hi e => q ⟨i, hi, e⟩), lookE_none _ (fun i hi e2 => ?_)]
      rcases Nat.lt_or_ge i E.length with h1 | h1
      · refine q ⟨i, h1, ?_⟩
        unfold codeE at e2 ⊢
        rw [ent_app h1] at e2
        exact e2
      · obtain rfl : i = E.length := by omega
        unfold codeE at e2
        rw [ent_last] at e2
        exact e e2.symm
theorem lookE_set {E : List Ent} {U : Nat → Value} (h : EntOk E) {i : Nat} (hi : i < E.length) (ss : List Sp) (v : Value) (s : ByteArray) : updF (lookE E U) (encR (ent E i).1) (some v) s = lookE (E.set i ((ent E i).1, ss)) (updI U i v) s := by
  have h2 := h.set hi ss
  have h1 : ∀ j, codeE (E.set i ((ent E i).1, ss)) j = codeE E j := fun j => by
    unfold codeE
    by_cases e : j = i
    · subst e; rw [ent_set _ hi]
    · rw [ent_set_ne _ e]
  by_cases q : ∃ j, j < E.length ∧ codeE E j = s
  · obtain ⟨j, hj, rfl⟩ := q
    have := h2.look (updI U i v) (i := j) (by simpa using hj)
    rw [h1] at this
    rw [this]
    unfold updF
    by_cases e : j = i
    · subst e; rw [updI_at]; exact if_pos rfl
    · rw [h.look U hj, updI_ne _ _ e]; exact if_neg (fun e2 => e (h.code hj hi e2))
  · rw [lookE_none _ (fun j hj e => q ⟨j, by simpa using hj, by rw [h1] at e; exact e⟩)]
    unfold updF
    rw [if_neg (fun e => q ⟨i, hi, e.symm⟩), lookE_none U (fun i hi e => q ⟨i, hi, e⟩)]
section
variable {base zs z1 p bv bs n : Nat} {w : World} {E : List Ent} {U T : Nat → Value}
theorem TabAt.sp_blk (h : TabAt base zs z1 w p bv bs n E U T) {i : Nat} (hi : i < E.length) {g : Nat} (hg : (T i).ownBlock = some g) : z1 ≤ g ∧ g < w.heap.size := World.ownsRow.lt (h.own i hi) g hg
theorem TabAt.row_blk (h : TabAt base zs z1 w p bv bs n E U T) {i : Nat} (hi : i < E.length) {g : Nat} (hg : sblk (U i) = some g) : g < w.heap.size := (h.rowIn i hi).blk_lt (by have := (h.eok.ok _ (ent_mem hi)).2.1; omega) g hg
theorem TabAt.row_ne (h : TabAt base zs z1 w p bv bs n E U T) (_hbz : base ≤ zs) (hz1 : zs ≤ z1) {i : Nat} (hi : i < E.length) {g : Nat} (hg : sblk (U i) = some g) : g ≠ bv ∧ g ≠ bs ∧ g ≠ p := by
  have h1 := h.lo; have h2 := h.hi
  rcases h.rowAt i hi g hg with e | e <;> omega
theorem TabAt.p_ne (h : TabAt base zs z1 w p bv bs n E U T) : p ≠ bv ∧ p ≠ bs := by
  have hc : w.cell? ⟨p, 0, none⟩ = some (.map (some bv)) := blk_get h.blk 0
  refine ⟨fun e => ?_, fun e => ?_⟩
  · have := h.vals.cell 0
    rw [← e, hc] at this
    cases this
  · have := h.spans.cell 0
    rw [← e, hc] at this
    cases this
theorem TabAt.sp_ne (h : TabAt base zs z1 w p bv bs n E U T) (hz1 : zs ≤ z1) {i : Nat} (hi : i < E.length) {g : Nat} (hg : (T i).ownBlock = some g) : g ≠ bv ∧ g ≠ bs ∧ g ≠ p := by
  have := h.hi
  have := (h.sp_blk hi hg).1
  omega
theorem TabAt.put_new (h : TabAt base zs z1 w p bv bs n E U T) (hbz : base ≤ zs) (hz1 : zs ≤ z1) {v : Value} {r : VRow} (hv : IsVals w v r) (hr : okR r ∧ 1 ≤ r.length ∧ r.length ≤ 100) (s : Sp)
    (hnew : idxE E (encR r) = none) (hvb : ∀ b, sblk v = some b → b < base ∨ z1 ≤ b) (hoff : ∀ j, j < E.length → ∀ b, sblk v = some b → (T j).ownBlock ≠ some b)
    {W : World} {v7 : Value} (hsz : w.heap.size ≤ W.heap.size) (hoth : ∀ b, b < w.heap.size → b ≠ bv → b ≠ bs → W.heap[b]? = w.heap[b]?)
    (m1 : MapIs W bv (n + 1) (updF (lookE E U) (encR r) (some v))) (m2 : MapIs W bs (n + 1) (updF (lookE E T) (encR r) (some v7)))
    (hown : W.ownsRow z1 34 2 v7 1 (flat [s])) (hnb : ∀ b, v7.ownBlock = some b → w.heap.size ≤ b) :
    TabAt base zs z1 W p bv bs (n + 1) (E ++ [(r, [s])]) (updI U E.length v) (updI T E.length v7) := by
  have h2 := h.eok.app (ss := [s]) hr hnew
  have hpn := h.p_ne
  have hlo := h.lo; have hhi := h.hi
  have hvlt : ∀ b, sblk v = some b → b < w.heap.size := hv.blk_lt (by omega)
  have hsp : ∀ {i}, i < E.length → W.ownsRow z1 34 2 (T i) (ent E i).2.length (flat (ent E i).2) := fun {i} hi => own_blocks (h.own i hi) fun g hg => by
    have e := h.sp_ne hz1 hi hg
    exact hoth g (h.sp_blk hi hg).2 e.1 e.2.1
  have hrow : ∀ {i}, i < E.length → IsVals W (U i) (ent E i).1 := fun {i} hi => (h.rowIn i hi).blocks hsz fun g hg => by
    have e := h.row_ne hbz hz1 hi hg
    exact hoth g (h.row_blk hi hg) e.1 e.2.1
  have cas : ∀ {i}, i < (E ++ [(r, [s])]).length → i < E.length ∨ i = E.length := fun {i} hi => by simp at hi; omega
  refine ⟨(hoth p (blk_lt h.blk) hpn.1 hpn.2).trans h.blk, m1.congr fun x _ => lookE_app h.eok h2 v x, m2.congr fun x _ => lookE_app h.eok h2 v7 x, h.ne, h.lo, h.hi, h2, fun i hi => ?_, fun i hi b hb => ?_, fun i hi => ?_, fun i hi => ?_, fun i j hi hj hij => ?_, fun i j hi hj => ?_⟩
  · rcases cas hi with e | e
    · rw [updI_ne _ _ (by omega), ent_app e]; exact hrow e
    · subst e
      rw [updI_at, ent_last]
      exact hv.blocks hsz fun g hg => hoth g (hvlt g hg) (by rcases hvb g hg with q | q <;> omega) (by rcases hvb g hg with q | q <;> omega)
  · rcases cas hi with e | e
    · rw [updI_ne _ _ (by omega)] at hb; exact h.rowAt i e b hb
    · subst e
      rw [updI_at] at hb
      exact hvb b hb
  · rcases cas hi with e | e
    · rw [updI_ne _ _ (by omega), ent_app e]; exact hsp e
    · subst e
      rw [updI_at, ent_last]
      exact hown
  · rcases cas hi with e | e
    · rw [ent_app e]; exact h.some_ i e
    · subst e
      rw [ent_last]; simp
  · have new : ∀ k, k < E.length → (T k).ownBlock ≠ v7.ownBlock := fun k hk e => by
      rcases hown.2 with ⟨_, h0⟩ | ⟨g, cap, cur, hv7, _⟩
      · omega
      · subst hv7
        have e2 : (T k).ownBlock = some g := e
        have q1 := (h.sp_blk hk e2).2
        have q2 := hnb g rfl
        omega
    rcases cas hi with e | e <;> rcases cas hj with e2 | e2
    · rw [updI_ne _ _ (by omega), updI_ne _ _ (by omega)]; exact h.apart i j e e2 hij
    · subst e2
      rw [updI_ne _ _ (by omega), updI_at]
      exact new i e
    · subst e
      rw [updI_at, updI_ne _ _ (by omega)]
      exact fun q => new j e2 q.symm
    · omega
  · rcases cas hi with e | e <;> rcases cas hj with e2 | e2
    · rw [updI_ne _ _ (by omega), updI_ne _ _ (by omega)]; exact h.off i j e e2
    · subst e2
      rw [updI_ne _ _ (by omega), updI_at]
      intro q
      obtain ⟨A, c, hU, _, _, h3⟩ := h.rowIn i e
      have hp := (h.eok.ok _ (ent_mem e)).2.1
      obtain ⟨b, off, rfl, hlt, _⟩ := h3 (by omega)
      rw [hU] at q
      have := hnb b q.symm
      omega
    · subst e
      rw [updI_at, updI_ne _ _ (by omega)]
      intro q
      obtain ⟨A, c, hU, _, _, h3⟩ := hv
      obtain ⟨b, off, rfl, hlt, _⟩ := h3 (by omega)
      rw [hU] at q
      exact hoff j e2 b (by rw [hU]; rfl) q.symm
    · subst e; subst e2
      rw [updI_at, updI_at]
      intro q
      obtain ⟨A, c, hU, _, _, h3⟩ := hv
      obtain ⟨b, off, rfl, hlt, _⟩ := h3 (by omega)
      rw [hU] at q
      have := hnb b q.symm
      omega
/-- The entry i turned: its row's slice is v, its spans are ss in v7. -/
theorem TabAt.turn (h : TabAt base zs z1 w p bv bs n E U T) (hbz : base ≤ zs) (hz1 : zs ≤ z1) {i : Nat} (hi : i < E.length) {v : Value} (hv : IsVals w v (ent E i).1) {ss : List Sp} (hss : 0 < ss.length)
    (hvb : ∀ b, sblk v = some b → b < base ∨ z1 ≤ b) (hoff : ∀ j, j < E.length → ∀ b, sblk v = some b → (T j).ownBlock ≠ some b)
    {W : World} {v7 : Value} {n' : Nat} (hsz : w.heap.size ≤ W.heap.size) (hoth : ∀ b, b < w.heap.size → b ≠ bv → b ≠ bs → (T i).ownBlock ≠ some b → W.heap[b]? = w.heap[b]?)
    (m1 : MapIs W bv n' (lookE (E.set i ((ent E i).1, ss)) (updI U i v))) (m2 : MapIs W bs n' (lookE (E.set i ((ent E i).1, ss)) (updI T i v7)))
    (hown : W.ownsRow z1 34 2 v7 ss.length (flat ss)) (hnb : ∀ b, v7.ownBlock = some b → (T i).ownBlock = some b ∨ w.heap.size ≤ b) :
    TabAt base zs z1 W p bv bs n' (E.set i ((ent E i).1, ss)) (updI U i v) (updI T i v7) := by
  have h2 := h.eok.set hi ss
  have hpn := h.p_ne
  have hlo := h.lo; have hhi := h.hi
  have hlen : 0 < (ent E i).1.length := by have := (h.eok.ok _ (ent_mem hi)).2.1; omega
  have hvlt : ∀ b, sblk v = some b → b < w.heap.size := hv.blk_lt hlen
  have tpos : ∀ {j}, j < E.length → ∃ g, (T j).ownBlock = some g := fun {j} hj => by
    rcases (h.own j hj).2 with ⟨_, h0⟩ | ⟨g, cap, cur, hv7, _⟩
    · have := h.some_ j hj
      omega
    · exact ⟨g, by rw [hv7]; rfl⟩
  have upos : ∀ {j}, j < E.length → ∃ b, sblk (U j) = some b := fun {j} hj => by
    obtain ⟨A, c, hU, _, _, h3⟩ := h.rowIn j hj
    have hp := (h.eok.ok _ (ent_mem hj)).2.1
    obtain ⟨b, off, rfl, hlt, _⟩ := h3 (by omega)
    exact ⟨b, by rw [hU]; rfl⟩
  have vpos : ∃ b, sblk v = some b := by
    obtain ⟨A, c, hU, _, _, h3⟩ := hv
    obtain ⟨b, off, rfl, hlt, _⟩ := h3 hlen
    exact ⟨b, by rw [hU]; rfl⟩
  have v7pos : ∃ b, v7.ownBlock = some b := by
    rcases hown.2 with ⟨_, h0⟩ | ⟨g, cap, cur, hv7, _⟩
    · omega
    · exact ⟨g, by rw [hv7]; rfl⟩
  have hsp : ∀ {j}, j < E.length → j ≠ i → W.ownsRow z1 34 2 (T j) (ent E j).2.length (flat (ent E j).2) := fun {j} hj hji => own_blocks (h.own j hj) fun g hg => by
    have e := h.sp_ne hz1 hj hg
    exact hoth g (h.sp_blk hj hg).2 e.1 e.2.1 fun q => h.apart j i hj hi hji (hg.trans q.symm)
  have hrow : ∀ {j}, j < E.length → IsVals W (U j) (ent E j).1 := fun {j} hj => (h.rowIn j hj).blocks hsz fun g hg => by
    have e := h.row_ne hbz hz1 hj hg
    exact hoth g (h.row_blk hj hg) e.1 e.2.1 fun q => h.off j i hj hi (hg.trans q.symm)
  have hl : ∀ {j}, j < (E.set i ((ent E i).1, ss)).length → j < E.length := fun {j} hj => by simpa using hj
  have offv : ∀ j, j < E.length → sblk v ≠ (T j).ownBlock := fun j hj q => by
    obtain ⟨b, hb⟩ := vpos
    exact hoff j hj b hb (by rw [← q, hb])
  have off7 : ∀ x, (∃ b, sblk x = some b) → (∀ b, sblk x = some b → b < w.heap.size) → sblk x ≠ (T i).ownBlock → sblk x ≠ v7.ownBlock := fun x hx hxl hxo q => by
    obtain ⟨b, hb⟩ := hx
    rw [hb] at q hxo
    rcases hnb b q.symm with e | e
    · exact hxo e.symm
    · have := hxl b hb
      omega
  refine ⟨(hoth p (blk_lt h.blk) hpn.1 hpn.2 fun q => by have := (h.sp_ne hz1 hi q).2.2; omega).trans h.blk, m1, m2, h.ne, h.lo, h.hi, h2, fun j hj => ?_, fun j hj b hb => ?_, fun j hj => ?_, fun j hj => ?_, fun j k hj hk hjk => ?_, fun j k hj hk => ?_⟩
  · replace hj := hl hj
    by_cases e : j = i
    · subst e
      rw [updI_at, ent_set _ hi]
      refine hv.blocks hsz fun g hg => hoth g (hvlt g hg) ?_ ?_ (hoff j hi g hg)
      · rcases hvb g hg with q | q <;> omega
      · rcases hvb g hg with q | q <;> omega
    · rw [updI_ne _ _ e, ent_set_ne _ e]; exact hrow hj
  · replace hj := hl hj
    by_cases e : j = i
    · subst e
      rw [updI_at] at hb
      exact hvb b hb
    · rw [updI_ne _ _ e] at hb; exact h.rowAt j hj b hb
  · replace hj := hl hj
    by_cases e : j = i
    · subst e
      rw [updI_at, ent_set _ hi]
      exact hown
    · rw [updI_ne _ _ e, ent_set_ne _ e]; exact hsp hj e
  · replace hj := hl hj
    by_cases e : j = i
    · subst e
      rw [ent_set _ hi]; exact hss
    · rw [ent_set_ne _ e]; exact h.some_ j hj
  · replace hj := hl hj; replace hk := hl hk
    have new : ∀ k, k < E.length → k ≠ i → (T k).ownBlock ≠ v7.ownBlock := fun k hk hki e => by
      obtain ⟨b, hb⟩ := v7pos
      rw [hb] at e
      rcases hnb b hb with q | q
      · exact h.apart k i hk hi hki (e.trans q.symm)
      · have q1 := (h.sp_blk hk e).2
        omega
    by_cases e : j = i
    · subst e
      rw [updI_at, updI_ne _ _ (fun q => hjk q.symm)]
      exact fun q => new k hk (fun q => hjk q.symm) q.symm
    · rw [updI_ne _ _ e]
      by_cases e2 : k = i
      · subst e2
        rw [updI_at]
        exact new j hj e
      · rw [updI_ne _ _ e2]
        exact h.apart j k hj hk hjk
  · replace hj := hl hj; replace hk := hl hk
    by_cases e : j = i
    · subst e
      rw [updI_at]
      by_cases e2 : k = j
      · subst e2
        rw [updI_at]
        exact off7 v vpos hvlt (offv k hk)
      · rw [updI_ne _ _ e2]
        exact offv k hk
    · rw [updI_ne _ _ e]
      by_cases e2 : k = i
      · subst e2
        rw [updI_at]
        exact off7 (U j) (upos hj) (fun b hb => h.row_blk hj hb) (h.off j k hj hk)
      · rw [updI_ne _ _ e2]
        exact h.off j k hj hk
end
/-! ### what a table holds -/
/-- The spans with one more, which begins where the last one ends, or later. -/
def joinS (ss : List Sp) (s : Sp) : List Sp :=
  match ss.getLast? with
  | some x => if x.2 = s.1 then ss.dropLast ++ [(x.1, s.2)] else ss ++ [s]
  | none => [s]
theorem joinS_nil (s : Sp) : joinS [] s = [s] := rfl
theorem joinS_snoc (ss : List Sp) (x s : Sp) : joinS (ss ++ [x]) s = if x.2 = s.1 then ss ++ [(x.1, s.2)] else ss ++ [x] ++ [s] := by
  unfold joinS
  rw [List.getLast?_concat, List.dropLast_concat]
/-- The table with a span more. -/
def addE (E : List Ent) (r : VRow) (s : Sp) : List Ent :=
  match idxE E (encR r) with
  | some i => E.set i ((ent E i).1, joinS (ent E i).2 s)
  | none => E ++ [(r, [s])]
/-- A is what was added. -/
structure TabOk (E : List Ent) (A : List Fct) : Prop where
  can : ∀ e ∈ E, Canon e.2
  pts : ∀ r t, (∃ e ∈ E, e.1 = r ∧ mem e.2 t = true) ↔ ∃ a ∈ A, a.1 = r ∧ a.2.1 ≤ t ∧ t < a.2.2
  ends : ∀ e ∈ E, ∀ x ∈ e.2, ∃ a ∈ A, a.1 = e.1 ∧ x.2 = a.2.2
theorem TabOk.nil : TabOk [] [] := ⟨fun e he => absurd he (by simp), fun r t => by simp, fun e he => absurd he (by simp)⟩
theorem joinS_can {ss : List Sp} {s : Sp} (h : Canon ss) (hs : OkSp s) (hl : ∀ x ∈ ss, x.2 ≤ s.1) : Canon (joinS ss s) ∧ (∀ t, mem (joinS ss s) t = (mem ss t || (decide (s.1 ≤ t) && decide (t < s.2)))) ∧ ∀ x ∈ joinS ss s, x ∈ ss ∨ x.2 = s.2 := by
  rcases List.eq_nil_or_concat ss with rfl | ⟨S, x, rfl⟩
  · rw [joinS_nil]
    refine ⟨canon_snoc canon_nil hs (by simp), fun t => by simp [mem], fun x hx => ?_⟩
    rw [List.mem_singleton] at hx
    subst hx
    exact .inr rfl
  · rw [List.concat_eq_append] at h hl ⊢
    rw [joinS_snoc]
    have hx := hl x (by simp)
    have hp := List.pairwise_append.1 h.2
    have hS : ∀ t ∈ S, t.2 < x.1 := fun t ht => hp.2.2 t ht x (by simp)
    have okx := h.1 x (by simp)
    have cS : Canon S := ⟨fun t ht => h.1 t (by simp [ht]), hp.1⟩
    unfold OkSp at okx hs
    by_cases e : x.2 = s.1
    · rw [if_pos e]
      refine ⟨canon_snoc cS (by unfold OkSp; simp only; omega) hS, fun t => ?_, fun y hy => ?_⟩
      · rw [mem_append, mem_append]
        have e1 : mem [(x.1, s.2)] t = (mem [x] t || (decide (s.1 ≤ t) && decide (t < s.2))) := by
          unfold mem
          simp only [List.any_cons, List.any_nil, Bool.or_false]
          rw [Bool.eq_iff_iff]
          simp only [Bool.and_eq_true, Bool.or_eq_true, decide_eq_true_eq]
          omega
        rw [e1, Bool.or_assoc]
      · rcases List.mem_append.1 hy with q | q
        · exact .inl (by simp [q])
        · rw [List.mem_singleton] at q
          subst q
          exact .inr rfl
    · rw [if_neg e]
      refine ⟨canon_snoc h (by unfold OkSp; omega) fun t ht => ?_, fun t => ?_, fun y hy => ?_⟩
      · rcases List.mem_append.1 ht with q | q
        · have := hS t q
          omega
        · rw [List.mem_singleton] at q
          subst q
          omega
      · rw [mem_append (S ++ [x]) [s]]
        simp [mem]
      · rcases List.mem_append.1 hy with q | q
        · exact .inl q
        · rw [List.mem_singleton] at q
          subst q
          exact .inr rfl
theorem TabOk.add {E : List Ent} {A : List Fct} (h : TabOk E A) (hE : EntOk E) {r : VRow} (hr : okR r) {s : Sp} (hs : OkSp s) (hl : ∀ a ∈ A, a.1 = r → a.2.2 ≤ s.1) : TabOk (addE E r s) (A ++ [(r, s)]) := by
  have app : ∀ r' t, (∃ a ∈ A ++ [(r, s)], a.1 = r' ∧ a.2.1 ≤ t ∧ t < a.2.2) ↔ (∃ a ∈ A, a.1 = r' ∧ a.2.1 ≤ t ∧ t < a.2.2) ∨ (r = r' ∧ s.1 ≤ t ∧ t < s.2) := fun r' t => by
    constructor
    · rintro ⟨a, ha, q⟩
      rcases List.mem_append.1 ha with e | e
      · exact .inl ⟨a, e, q⟩
      · rw [List.mem_singleton] at e
        subst e
        exact .inr q
    · rintro (⟨a, ha, q⟩ | q)
      · exact ⟨a, List.mem_append_left _ ha, q⟩
      · exact ⟨(r, s), by simp, q⟩
  unfold addE
  cases q : idxE E (encR r) with
  | none =>
    have hno : ∀ e ∈ E, e.1 ≠ r := fun e he => by
      obtain ⟨j, hj, rfl⟩ := List.getElem_of_mem he
      rw [ent_at hj]
      intro e2
      exact idxE_none q j hj (by unfold codeE; rw [e2])
    refine ⟨fun e he => ?_, fun r' t => ?_, fun e he x hx => ?_⟩
    · rcases List.mem_append.1 he with e1 | e1
      · exact h.can e e1
      · rw [List.mem_singleton] at e1
        subst e1
        exact canon_snoc canon_nil hs (by simp)
    · rw [app, ← h.pts]
      constructor
      · rintro ⟨e, he, e2, e3⟩
        rcases List.mem_append.1 he with e1 | e1
        · exact .inl ⟨e, e1, e2, e3⟩
        · rw [List.mem_singleton] at e1
          subst e1
          refine .inr ⟨e2, ?_⟩
          simpa [mem] using e3
      · rintro (⟨e, he, e2⟩ | ⟨e2, e3⟩)
        · exact ⟨e, List.mem_append_left _ he, e2⟩
        · exact ⟨(r, [s]), by simp, e2, by simpa [mem] using e3⟩
    · rcases List.mem_append.1 he with e1 | e1
      · obtain ⟨a, ha, e2⟩ := h.ends e e1 x hx
        exact ⟨a, List.mem_append_left _ ha, e2⟩
      · rw [List.mem_singleton] at e1
        subst e1
        rw [List.mem_singleton] at hx
        subst hx
        exact ⟨(r, x), by simp, rfl, rfl⟩
  | some i =>
    obtain ⟨hi, hc⟩ := idxE_some q
    have hri : (ent E i).1 = r := encR_inj (hE.ok _ (ent_mem hi)).1 hr hc
    have hlast : ∀ x ∈ (ent E i).2, x.2 ≤ s.1 := fun x hx => by
      obtain ⟨a, ha, e1, e2⟩ := h.ends _ (ent_mem hi) x hx
      have := hl a ha (by rw [e1, hri])
      omega
    obtain ⟨j1, j2, j3⟩ := joinS_can (h.can _ (ent_mem hi)) hs hlast
    have hmem : ∀ e, e ∈ E.set i ((ent E i).1, joinS (ent E i).2 s) → e = ((ent E i).1, joinS (ent E i).2 s) ∨ ∃ j, j < E.length ∧ j ≠ i ∧ e = ent E j := fun e he => by
      obtain ⟨j, hj, rfl⟩ := List.getElem_of_mem he
      rw [ent_at hj]
      rw [List.length_set] at hj
      by_cases e1 : j = i
      · rw [e1]
        exact .inl (ent_set _ hi)
      · exact .inr ⟨j, hj, e1, ent_set_ne _ e1⟩
    have hin : ((ent E i).1, joinS (ent E i).2 s) ∈ E.set i ((ent E i).1, joinS (ent E i).2 s) := List.mem_set hi _
    have hin2 : ∀ j, j < E.length → j ≠ i → ent E j ∈ E.set i ((ent E i).1, joinS (ent E i).2 s) := fun j hj e1 => by
      rw [← ent_set_ne ((ent E i).1, joinS (ent E i).2 s) e1]
      exact ent_mem (by rw [List.length_set]; exact hj)
    refine ⟨fun e he => ?_, fun r' t => ?_, fun e he x hx => ?_⟩
    · rcases hmem e he with rfl | ⟨j, hj, _, rfl⟩
      · exact j1
      · exact h.can _ (ent_mem hj)
    · rw [app, ← h.pts]
      constructor
      · rintro ⟨e, he, e2, e3⟩
        rcases hmem e he with rfl | ⟨j, hj, _, rfl⟩
        · rw [j2, Bool.or_eq_true] at e3
          rcases e3 with e3 | e3
          · exact .inl ⟨_, ent_mem hi, e2, e3⟩
          · refine .inr ⟨hri.symm.trans e2, ?_⟩
            simpa using e3
        · exact .inl ⟨_, ent_mem hj, e2, e3⟩
      · rintro (⟨e, he, e2, e3⟩ | ⟨e2, e3⟩)
        · obtain ⟨j, hj, rfl⟩ := List.getElem_of_mem he
          rw [ent_at hj] at e2 e3
          by_cases e1 : j = i
          · rw [e1] at e2 e3
            exact ⟨_, hin, e2, by rw [j2, e3]; rfl⟩
          · exact ⟨_, hin2 j hj e1, e2, e3⟩
        · refine ⟨_, hin, hri.trans e2, ?_⟩
          rw [j2, decide_eq_true e3.1, decide_eq_true e3.2, Bool.and_true, Bool.or_true]
    · rcases hmem e he with rfl | ⟨j, hj, _, rfl⟩
      · rcases j3 x hx with e1 | e1
        · obtain ⟨a, ha, e2⟩ := h.ends _ (ent_mem hi) x e1
          exact ⟨a, List.mem_append_left _ ha, e2⟩
        · exact ⟨(r, s), by simp, hri.symm, e1⟩
      · obtain ⟨a, ha, e2⟩ := h.ends _ (ent_mem hj) x hx
        exact ⟨a, List.mem_append_left _ ha, e2⟩
end Go.Proofs.YtohjgegnamcnlaaGreat
