/- First-fit rooms kept in a map from the rooms that are taken to the ends: plain laws on the map's entries, on the list of rooms and on their number. No program in sight. -/
import Derived.Test.YtahpcepnagpbdaaOrd
import Derived.Test.YtahpcepnagpbdaaInts
import Derived.Maps.Views
import Derived.Lib.SlMapFilter
namespace Go.Proofs.Ytahpcepnagpbdaa
open Go.RowKit

abbrev Ents := List (Lit × DataW Unit)
def rKey (r : Nat) : Lit := .int .i64 (r : Int)
def rEnd (x : Int) : DataW Unit := .lit (.int .i64 x)
theorem rKey_inj {r q : Nat} (h : rKey r = rKey q) : r = q := by
  unfold rKey at h; injection h with _ h; omega
theorem rKey_is (r : Nat) : WideAt.IsKeyLit (rKey r) := trivial
structure OpenInv (l : List Sp) (A : List (Nat × Nat)) (x : Int) (es : Ents) : Prop where
  a : ∀ q ∈ es, ∃ p ∈ A, q.1 = rKey p.2 ∧ q.2 = rEnd (tt l p.1) ∧ ∀ p' ∈ A, p'.2 = p.2 → tt l p'.1 ≤ tt l p.1
  b : ∀ p ∈ A, x < tt l p.1 → ∃ q ∈ es, q.1 = rKey p.2
def endLe (x : Int) (_ : Lit) (d : DataW Unit) : Bool := match d with | .lit (.int _ e) => decide (e ≤ x) | _ => false
theorem endLe_at (x e : Int) (k : Lit) : endLe x k (rEnd e) = decide (e ≤ x) := rfl
def swept (x : Int) (es : Ents) : Ents := es.filter fun p => !endLe x p.1 p.2
theorem open_nil (l : List Sp) (x : Int) : OpenInv l [] x [] := ⟨fun q hq => by simp at hq, fun p hp => by simp at hp⟩
theorem open_swept {l : List Sp} {A : List (Nat × Nat)} {x y : Int} {es : Ents} (h : OpenInv l A x es) (hxy : x ≤ y) : OpenInv l A y (swept y es) ∧ ∀ q ∈ swept y es, ∀ e, q.2 = rEnd e → y < e := by
  refine ⟨⟨fun q hq => h.a q (List.mem_filter.1 hq).1, fun p hp hlt => ?_⟩, fun q hq e he => ?_⟩
  · obtain ⟨q, hq, hk⟩ := h.b p hp (by omega)
    obtain ⟨p0, hp0, hk0, he0, hmx⟩ := h.a q hq
    have hr : p.2 = p0.2 := rKey_inj (hk.symm.trans hk0)
    have h1 := hmx p hp hr
    refine ⟨q, List.mem_filter.2 ⟨hq, ?_⟩, hk⟩
    rw [he0, endLe_at, decide_eq_false (by omega)]; rfl
  · have := (List.mem_filter.1 hq).2
    rw [he, endLe_at] at this
    simp at this
    exact this
theorem taken_swept {l : List Sp} {A : List (Nat × Nat)} {x : Int} {es : Ents} {i : Nat} (h : OpenInv l A x es) (hx : x ≤ fr l i) (hA : ∀ p ∈ A, fr l p.1 ≤ fr l i) (hi : fr l i < tt l i) (r : Nat) :
    Maps.has (.map (swept (fr l i) es)) (rKey r) = rTaken l A i r := by
  obtain ⟨h1, h2⟩ := open_swept h hx
  rw [Maps.has_eq, Bool.eq_iff_iff, List.any_eq_true]
  unfold rTaken
  rw [List.any_eq_true]
  constructor
  · rintro ⟨q, hq, hk⟩
    obtain ⟨p, hp, hk0, he0, _⟩ := h1.a q hq
    have hr : p.2 = r := rKey_inj (hk0.symm.trans (WideAt.sameKey_eq hk))
    have h3 := h2 q hq _ he0
    have h4 := hA p hp
    refine ⟨p, hp, ?_⟩
    rw [hr]
    show (r == r && comSp (fr l p.1, tt l p.1) (fr l i, tt l i)) = true
    unfold comSp
    simp only [beq_self_eq_true, Bool.true_and, Bool.and_eq_true, decide_eq_true_eq]
    omega
  · rintro ⟨p, hp, hc⟩
    rw [Bool.and_eq_true, beq_iff_eq] at hc
    obtain ⟨rfl, hc⟩ := hc
    have hc : comSp (fr l p.1, tt l p.1) (fr l i, tt l i) = true := hc
    unfold comSp at hc
    simp only [Bool.and_eq_true, decide_eq_true_eq] at hc
    obtain ⟨q, hq, hk⟩ := h1.b p hp hc.2
    exact ⟨q, hq, by rw [hk]; exact WideAt.sameKey_self (rKey_is _)⟩
theorem put_mem {es : Ents} {r : Nat} {d : DataW Unit} {es' : Ents} (h : (DataW.map es).put (rKey r) d = .map es') (q : Lit × DataW Unit) : q ∈ es' ↔ q = (rKey r, d) ∨ (q ∈ es ∧ q.1 ≠ rKey r) := by
  have e : es' = DataW.insert (rKey r, d) (es.filter fun p => !p.1.sameKey (rKey r)) := by
    injection h with h; exact h.symm
  rw [e, Go.ChangeMaps.mem_insert_iff, List.mem_filter]
  refine or_congr Iff.rfl (and_congr Iff.rfl ?_)
  cases hs : q.1.sameKey (rKey r)
  · simp only [Bool.not_false, true_iff]
    intro e1
    rw [e1, WideAt.sameKey_self (rKey_is r)] at hs
    cases hs
  · simp only [Bool.not_true, Bool.false_eq_true, false_iff, ne_eq]
    exact fun h => h (WideAt.sameKey_eq hs)
theorem open_put {l : List Sp} {A : List (Nat × Nat)} {x : Int} {es es' : Ents} {i r : Nat} (h : OpenInv l A x es) (hx : x ≤ fr l i) (hA : ∀ p ∈ A, fr l p.1 ≤ fr l i) (hi : fr l i < tt l i) (hr : rTaken l A i r = false)
    (hp : (DataW.map (swept (fr l i) es)).put (rKey r) (rEnd (tt l i)) = .map es') : OpenInv l (A ++ [(i, r)]) (fr l i) es' := by
  obtain ⟨h1, h2⟩ := open_swept h hx
  have hroom : ∀ p ∈ A, p.2 = r → tt l p.1 ≤ fr l i := fun p hpA hpr => by
    unfold rTaken at hr
    rw [List.any_eq_false] at hr
    have := hr p hpA
    have h5 := hA p hpA
    rw [hpr] at this
    have this : ¬ (r == r && comSp (fr l p.1, tt l p.1) (fr l i, tt l i)) = true := this
    unfold comSp at this
    simp only [beq_self_eq_true, Bool.true_and, Bool.and_eq_true, decide_eq_true_eq] at this
    omega
  refine ⟨fun q hq => ?_, fun p hpA hlt => ?_⟩
  · rcases (put_mem hp q).1 hq with rfl | ⟨hq, hne⟩
    · refine ⟨(i, r), by simp, rfl, rfl, fun p' hp' he => ?_⟩
      rcases List.mem_append.1 hp' with hp' | hp'
      · have := hroom p' hp' he; simp only; omega
      · rw [List.mem_singleton.1 hp']; exact Int.le_refl _
    · obtain ⟨p, hpA, hk, he, hmx⟩ := h1.a q hq
      refine ⟨p, by simp [hpA], hk, he, fun p' hp' hpe => ?_⟩
      rcases List.mem_append.1 hp' with hp' | hp'
      · exact hmx p' hp' hpe
      · rw [List.mem_singleton.1 hp'] at hpe
        exact absurd (by rw [hk, ← hpe]) hne
  · rcases List.mem_append.1 hpA with hpA | hpA
    · obtain ⟨q, hq, hk⟩ := h1.b p hpA hlt
      by_cases hpr : p.2 = r
      · exact ⟨_, (put_mem hp _).2 (.inl rfl), by rw [hpr]⟩
      · exact ⟨q, (put_mem hp q).2 (.inr ⟨hq, fun e => hpr (rKey_inj (hk.symm.trans e))⟩), hk⟩
    · rw [List.mem_singleton.1 hpA]
      exact ⟨_, (put_mem hp _).2 (.inl rfl), rfl⟩

/-! ### the list of rooms and their number -/
def roomArr (n : Nat) (A : List (Nat × Nat)) : List Int := A.foldl (fun R p => R.set p.1 (p.2 : Int)) (List.replicate n 0)
theorem roomArr_snoc (n : Nat) (A : List (Nat × Nat)) (i r : Nat) : roomArr n (A ++ [(i, r)]) = (roomArr n A).set i (r : Int) := by simp [roomArr]
theorem roomArr_len (n : Nat) : ∀ A : List (Nat × Nat), (roomArr n A).length = n := by
  intro A
  induction A using snocRec with
  | nil => simp [roomArr]
  | snoc A p ih => obtain ⟨i, r⟩ := p; rw [roomArr_snoc, List.length_set, ih]
theorem roomArr_get {n : Nat} : ∀ {A : List (Nat × Nat)}, (A.map (·.1)).Nodup → (∀ p ∈ A, p.1 < n) → ∀ p ∈ A, iv (roomArr n A) p.1 = (p.2 : Int) := by
  intro A
  induction A using snocRec with
  | nil => intro _ _ p hp; simp at hp
  | snoc A q ih =>
    obtain ⟨i, r⟩ := q
    intro hnd hlt p hp
    rw [List.map_append, List.nodup_append] at hnd
    have hpn := hlt p hp
    rw [roomArr_snoc, ← iv_at (by rw [List.length_set, roomArr_len]; exact hpn)]
    rcases List.mem_append.1 hp with hp | hp
    · have hne : i ≠ p.1 := fun e => hnd.2.2 p.1 (List.mem_map.2 ⟨p, hp, rfl⟩) i (by simp) e.symm
      rw [List.getElem_set, if_neg hne, iv_at (by rw [roomArr_len]; exact hpn)]
      exact ih hnd.1 (fun p hp => hlt p (by simp [hp])) p hp
    · obtain rfl := List.mem_singleton.1 hp
      rw [List.getElem_set, if_pos rfl]
def cntR (A : List (Nat × Nat)) : Int := A.foldl (fun c p => max c ((p.2 : Int) + 1)) 0
theorem cntR_snoc (A : List (Nat × Nat)) (i r : Nat) : cntR (A ++ [(i, r)]) = max (cntR A) ((r : Int) + 1) := by simp [cntR]
theorem cntR_bd : ∀ (A : List (Nat × Nat)) (n : Nat), (∀ p ∈ A, p.2 < n) → 0 ≤ cntR A ∧ cntR A ≤ n := by
  intro A
  induction A using snocRec with
  | nil => intro n _; simp [cntR]
  | snoc A p ih =>
    obtain ⟨i, r⟩ := p
    intro n h
    have h1 := ih n fun p hp => h p (by simp [hp])
    have h2 := h (i, r) (by simp)
    rw [cntR_snoc]
    simp only at h2
    omega
theorem rooms_lt {l : List Sp} {L : List Nat} {A : List (Nat × Nat)} (h : RoomsOf l L A) : A.length = L.length ∧ ∀ p ∈ A, p.2 < L.length := by
  induction h with
  | nil => exact ⟨rfl, fun p hp => by simp at hp⟩
  | @snoc L A i r h1 h2 ih =>
    refine ⟨by simp [ih.1], fun p hp => ?_⟩
    rcases List.mem_append.1 hp with hp | hp
    · have := ih.2 p hp; simp; omega
    · rw [List.mem_singleton.1 hp]
      have := room_bound h2.least
      simp; omega
/-- What Rooms hands back: the list, and the number. -/
def RoomsRes (l : List Sp) (R : List Int) (c : Int) : Prop := ∃ L A, OrdOf (fun j => (sp l j).1) (List.range l.length) L ∧ RoomsOf l L A ∧ R = roomArr l.length A ∧ c = cntR A
theorem rooms_res_one {l : List Sp} {R R' : List Int} {c c' : Int} (h : RoomsRes l R c) (h' : RoomsRes l R' c') : R = R' ∧ c = c' := by
  obtain ⟨L, A, h1, h2, rfl, rfl⟩ := h
  obtain ⟨L', A', h1', h2', rfl, rfl⟩ := h'
  obtain rfl := ord_one h1 h1'
  obtain rfl := rooms_one h2 h2'
  exact ⟨rfl, rfl⟩
end Go.Proofs.Ytahpcepnagpbdaa
