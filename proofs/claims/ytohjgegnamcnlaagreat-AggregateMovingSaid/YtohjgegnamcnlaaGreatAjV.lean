/- Law 39: the reference's result in one; facts whose rows are one's own; what Group answers. -/
import Derived.Test.YtohjgegnamcnlaaGreatZae
import Derived.Test.YtohjgegnamcnlaaGreatAjU
namespace Go.Proofs.YtohjgegnamcnlaaGreat
open Go.RowKit Go.Shelf

def ColX (fn col : Int) (R : List VRow) : Prop := fn = 1 ∨ (0 ≤ col ∧ ∀ r ∈ R, col.toNat < r.length ∧ I64 (va r col.toNat) ∧ (va r col.toNat).2.2.size ≤ 1000000000)
theorem r39result_c (v vk vv : Value) (R : List VRow) (ks : List Int) (k : VRow) (fn col : Int) (w : World) (hs : IsRv w v R) (hk : IsInts w vk ks) (hv : IsVals w vv k) (hok : ∀ r ∈ R, keysIn r.length ks) (hl : ks.length ≤ 100000) (hR : R.length ≤ 1000000) (hfn : FnOk fn) (hc : ColX fn col R) (hne : ∃ r ∈ R, pickR r ks = k) :
    Calls Tryz.prog 46 #[v, vk, vv, .int .i64 fn, .int .i64 col] w (Ret w (.tuple #[encV (resR fn col.toNat (memG ks R k)).1, .bool (decide ((resR fn col.toNat (memG ks R k)).2 = 0))])) := by
  by_cases h1 : fn = 1
  · subst h1
    have e : resR 1 col.toNat (memG ks R k) = ((1, ((memG ks R k).length : Int), ⟨#[]⟩), 0) := by unfold resR; rw [if_pos rfl]
    rw [e]
    exact r39result_count v vk vv R ks k col w hs hk hv hok hl hR
  · rcases hc with hc | ⟨h0, hc⟩
    · exact absurd hc h1
    obtain ⟨m, rfl⟩ : ∃ m : Nat, col = (m : Int) := ⟨col.toNat, by omega⟩
    have hm : (m : Int).toNat = m := by omega
    rw [hm] at hc ⊢
    by_cases h2 : fn = 2
    · subst h2
      have e : resR 2 m (memG ks R k) = ((1, (resS (colN (memG ks R k) m)).1, ⟨#[]⟩), (resS (colN (memG ks R k) m)).2) := by unfold resR; rw [if_neg (by decide), if_pos rfl]
      rw [e]
      exact r39result_sum v vk vv R ks k m w hs hk hv hok hl hR fun r hr => ⟨(hc r hr).1, (hc r hr).2.1⟩
    · have e : resR fn m (memG ks R k) = (bestV fn (colV (memG ks R k) m), 0) := by unfold resR; rw [if_neg h1, if_neg h2]
      rw [e]
      exact r39result_best v vk vv R ks k m fn w hs hk hv hok hl hR (fun r hr => ⟨(hc r hr).1, (hc r hr).2.2⟩) (by unfold FnOk at hfn; omega) hne
/-- A list of facts whose rows are one's own. -/
structure FxT (base : Nat) (X : World) (v : Value) (G : List Fx) : Prop where
  own : X.ownsRow base 49 3 v G.length (G.flatMap encFx)
  row : ∀ x ∈ G, OwnsV X base x.1 x.2.1
theorem own_sblk {v : Value} {b : Nat} (h : sblk v = some b) : v.ownBlock = some b := by
  unfold sblk at h
  unfold Value.ownBlock
  split at h
  · exact h
  · cases h
section
variable {base : Nat} {X Y : World} {v : Value} {G : List Fx}
theorem FxT.fx (h : FxT base X v G) : OwnsFx X base v G :=
  ⟨h.own, fun x hx => ⟨(h.row x hx).vals, fun b hb => ⟨(World.ownsRow.lt (h.row x hx) b (own_sblk hb)).2, fun e => own_tag h.own (h.row x hx) (by decide) e (own_sblk hb)⟩⟩⟩
theorem FxT.below (h : FxT base X v G) (hb : Below X.heap.size X Y) : FxT base Y v G :=
  ⟨own_below h.own hb (Nat.le_refl _), fun x hx => (h.row x hx).below hb⟩
theorem FxT.nil (base : Nat) (X : World) : FxT base X (.slice none 0 0) [] := ⟨own_nil _ _ _ _, fun x hx => absurd hx (by simp)⟩
theorem FxT.oth {n k c : Nat} {e : TypeId} {ts : Value} {xs : List Value} (h : FxT base X v G) (ht : X.ownsRow c e k ts n xs) (he : 51 ≠ e) (he2 : 49 ≠ e) (hk : ∀ b, b < X.heap.size → ts.ownBlock ≠ some b → Y.heap[b]? = X.heap[b]?) : FxT base Y v G :=
  ⟨own_blocks h.own fun g hg => hk g (World.ownsRow.lt h.own g hg).2 fun e2 => own_tag h.own ht he2 hg e2, fun x hx => (h.row x hx).oth ht he hk⟩
/-- A fact more. -/
theorem FxT.snoc {v' u : Value} {f : Fct} (h : FxT base X v G) (hu : OwnsV X base u f.1) (hn : OwnsFx Y base v' (G ++ [(u, f)])) (hk : ∀ b, b < X.heap.size → v.ownBlock ≠ some b → Y.heap[b]? = X.heap[b]?) : FxT base Y v' (G ++ [(u, f)]) := by
  refine ⟨hn.own, fun x hx => ?_⟩
  rcases List.mem_append.1 hx with q | q
  · exact (h.row x q).oth h.own (by decide) hk
  · rw [List.mem_singleton] at q
    subst q
    exact hu.oth h.own (by decide) hk
end
/-! ### what Group answers -/
def RGrpOut (F : List Fct) (ks : List Int) (fn colI : Int) (c : Int) (v : Value) (w' : World) : Prop :=
  ((∃ t, ErrIn ks fn colI.toNat (rowsAt F t)) ∧ c = 9 ∧ v = .slice none 0 0) ∨
  ((¬ ∃ t, ErrIn ks fn colI.toNat (rowsAt F t)) ∧ ∃ A, NormOf A (DGrp F ks fn colI.toNat) ∧ ((1000 < A.length ∧ c = 5 ∧ v = .slice none 0 0) ∨ (A.length ≤ 1000 ∧ c = 0 ∧ IsFs w' v A)))
def RGrpSpec (F : List Fct) (ks : List Int) (fn colI : Int) (c : Int) (v : Value) (w' : World) : Prop :=
  if bad1 F fn colI = true then c = 1 ∧ v = .slice none 0 0
  else if F.length = 0 then c = 0 ∧ v = .slice none 0 0
  else if keyedB (row0 F).length ks = false then c = 1 ∧ v = .slice none 0 0
  else if 8 ≤ ks.length then c = 5 ∧ v = .slice none 0 0
  else if fn = 2 ∧ (va (row0 F) colI.toNat).1 ≠ 1 then c = 13 ∧ v = .slice none 0 0
  else RGrpOut F ks fn colI c v w'
def RGrpRet (F : List Fct) (ks : List Int) (fn colI : Int) (w : World) (e : Ending) (w' : World) : Prop := ∃ v c, e = .returned (.tuple #[v, .int .i64 c]) ∧ Below w.heap.size w w' ∧ RGrpSpec F ks fn colI c v w'
/-- The code's answer and the reference's. -/
theorem grp_eq {F : List Fct} {ks : List Int} {fn col c d : Int} {v u : Value} {w1 w2 : World} (h : GrpSpec F ks fn col c v w1) (g : RGrpSpec F ks fn col d u w2) : c = d ∧ ∃ B, IsFs w1 v B ∧ IsFs w2 u B := by
  have key : ∀ x : Int, c = x ∧ v = .slice none 0 0 → d = x ∧ u = .slice none 0 0 → c = d ∧ ∃ B, IsFs w1 v B ∧ IsFs w2 u B := fun x h1 h2 => by
    obtain ⟨rfl, rfl⟩ := h1
    obtain ⟨rfl, rfl⟩ := h2
    exact ⟨rfl, [], IsFs.nil, IsFs.nil⟩
  unfold GrpSpec at h
  unfold RGrpSpec at g
  split at h
  · rename_i q; rw [if_pos q] at g; exact key 1 h g
  rename_i q; rw [if_neg q] at g
  split at h
  · rename_i q; rw [if_pos q] at g; exact key 0 h g
  rename_i q; rw [if_neg q] at g
  split at h
  · rename_i q; rw [if_pos q] at g; exact key 1 h g
  rename_i q; rw [if_neg q] at g
  split at h
  · rename_i q; rw [if_pos q] at g; exact key 5 h g
  rename_i q; rw [if_neg q] at g
  split at h
  · rename_i q; rw [if_pos q] at g; exact key 13 h g
  rename_i q; rw [if_neg q] at g
  rcases h with ⟨a1, a2⟩ | ⟨a1, B, a2, _, a3⟩
  · rcases g with ⟨b1, b2⟩ | ⟨b1, _⟩
    · exact key 9 a2 b2
    · exact absurd a1 b1
  · rcases g with ⟨b1, _⟩ | ⟨b1, B', b2, b3⟩
    · exact absurd b1 a1
    · obtain rfl := norm_unique a2 b2
      rcases a3 with ⟨c1, c2⟩ | ⟨c1, c2, c3⟩ <;> rcases b3 with ⟨d1, d2⟩ | ⟨d1, d2, d3⟩
      · exact key 5 c2 d2
      · omega
      · omega
      · exact ⟨by omega, B, c3, d3⟩
end Go.Proofs.YtohjgegnamcnlaaGreat
