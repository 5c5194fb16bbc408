/- Law 42: trees of nodes; what the recursive check answers. Plain law (no program). -/
import Derived.Test.YtgdcgdjlhljbiaaPre
namespace Go.Proofs.Ytgdcgdjlhljbiaa

structure Nd where
  f : Int
  t : Int
  v : Int
  l : Int
  r : Int
  m : Int
  h : Int
def nd (N : List Nd) (i : Nat) : Nd := N.getD i ⟨0, 0, 0, 0, 0, 0, 0⟩
/-- An entry: its span, its value. -/
abbrev En := Int × Int × Int
def ent (n : Nd) : En := (n.f, n.t, n.v)
def enLt (a b : En) : Prop := a.1 < b.1 ∨ (a.1 = b.1 ∧ (a.2.1 < b.2.1 ∨ (a.2.1 = b.2.1 ∧ a.2.2 < b.2.2)))
instance (a b : En) : Decidable (enLt a b) := by unfold enLt; infer_instance
theorem enLt_trans {a b c : En} (h : enLt a b) (k : enLt b c) : enLt a c := by unfold enLt at *; omega
theorem enLt_irrefl (a : En) : ¬ enLt a a := by unfold enLt; omega

/-- The state of the check: the nodes seen, the last entry, if there is one. -/
structure VSt where
  seen : List Bool
  last : En
  some : Bool
/-- What visit answers: height, most, and whether all is well; the state behind it. -/
def visitF (N : List Nd) : Nat → Int → VSt → (Int × Int × Bool) × VSt
  | 0, _, s => ((0, 0, false), s)
  | fuel + 1, i, s =>
    if i = -1 then ((0, -4398046511104, true), s)
    else if i < 0 ∨ (N.length : Int) ≤ i ∨ s.seen.getD i.toNat false = true then ((0, 0, false), s)
    else
      let n := nd N i.toNat
      let x := visitF N fuel n.l { s with seen := s.seen.set i.toNat true }
      if x.1.2.2 = false then ((0, 0, false), x.2)
      else if okSpan (n.f, n.t) = false ∨ (x.2.some = true ∧ ¬ enLt x.2.last (ent n)) then ((0, 0, false), x.2)
      else
        let y := visitF N fuel n.r { x.2 with last := ent n, some := true }
        if y.1.2.2 = false ∨ n.h ≠ 1 + max x.1.1 y.1.1 ∨ x.1.1 - y.1.1 > 1 ∨ y.1.1 - x.1.1 > 1 ∨ n.m ≠ max (max x.1.2.1 y.1.2.1) n.t then ((0, 0, false), y.2)
        else ((n.h, n.m, true), y.2)

/-- The subtree at i: its nodes in order, its height, its most. -/
inductive Sub (N : List Nd) : Int → List Nat → Int → Int → Prop
  | nil : Sub N (-1) [] 0 (-4398046511104)
  | node {i : Nat} {L R : List Nat} {a b x y : Int} : i < N.length → Sub N (nd N i).l L a x → Sub N (nd N i).r R b y → okSpan ((nd N i).f, (nd N i).t) = true → (nd N i).h = 1 + max a b → a - b ≤ 1 → b - a ≤ 1 → (nd N i).m = max (max x y) (nd N i).t →
      Sub N i (L ++ [i] ++ R) (nd N i).h (nd N i).m
/-- The entries of some nodes come strictly one after the other, and behind the last one. -/
def Chain (N : List Nd) (s : VSt) (L : List Nat) : Prop := (L.map fun i => ent (nd N i)).Pairwise enLt ∧ (s.some = true → ∀ i ∈ L, enLt s.last (ent (nd N i)))
def markAll (S : List Bool) (L : List Nat) : List Bool := L.foldl (fun S i => S.set i true) S
theorem markAll_append (S : List Bool) (L R : List Nat) : markAll S (L ++ R) = markAll (markAll S L) R := by simp [markAll]
theorem markAll_len (L : List Nat) : ∀ S : List Bool, (markAll S L).length = S.length := by
  induction L with
  | nil => intro S; rfl
  | cons i L ih => intro S; show (markAll (S.set i true) L).length = _; rw [ih]; simp
theorem markAll_get (L : List Nat) : ∀ (S : List Bool) (j : Nat), j < S.length → ((markAll S L).getD j false = true ↔ S.getD j false = true ∨ j ∈ L) := by
  induction L with
  | nil => intro S j _; simp [markAll]
  | cons i L ih =>
    intro S j hj
    show (markAll (S.set i true) L).getD j false = true ↔ _
    rw [ih _ _ (by simpa using hj)]
    by_cases e : i = j
    · subst e; simp [hj]
    · simp [Ne.symm e, List.getElem?_set_ne e]
theorem visit_sound (N : List Nd) : ∀ (fuel : Nat) (i : Int) (s : VSt) (h m : Int) (s' : VSt), s.seen.length = N.length → visitF N fuel i s = ((h, m, true), s') →
    ∃ L, Sub N i L h m ∧ s'.seen.length = N.length ∧ (∀ j, j < N.length → (s'.seen.getD j false = true ↔ s.seen.getD j false = true ∨ j ∈ L)) ∧ (∀ j ∈ L, j < N.length ∧ s.seen.getD j false = false) ∧ L.Nodup ∧ Chain N s L ∧
      s'.some = (s.some || !L.isEmpty) ∧ (L = [] → s'.last = s.last) ∧ (∀ j ∈ L, ¬ enLt s'.last (ent (nd N j))) ∧ (L ≠ [] → ∃ j ∈ L, s'.last = ent (nd N j)) := by
  intro fuel
  induction fuel with
  | zero => intro i s h m s' _ hv; simp [visitF] at hv
  | succ fuel ih =>
    intro i s h m s' hl hv
    rw [visitF] at hv
    split at hv
    · rename_i hi
      simp only [Prod.mk.injEq] at hv
      obtain ⟨⟨rfl, rfl, _⟩, rfl⟩ := hv
      subst hi
      exact ⟨[], .nil, hl, fun j _ => by simp, by simp, List.nodup_nil, ⟨List.Pairwise.nil, by simp⟩, by simp, fun _ => rfl, by simp, fun h => absurd rfl h⟩
    · split at hv
      · simp at hv
      · rename_i hi hb
        simp only [not_or, Int.not_lt, Int.not_le] at hb
        obtain ⟨hb1, hb2, hb3⟩ := hb
        obtain ⟨k, rfl⟩ := Int.eq_ofNat_of_zero_le hb1
        have hk : k < N.length := by omega
        simp only [Int.toNat_natCast] at hv hb3
        generalize hx : visitF N fuel (nd N k).l { s with seen := s.seen.set k true } = X at hv
        obtain ⟨⟨a, x1, ok1⟩, s2⟩ := X
        split at hv
        · simp at hv
        · rename_i hok1
          have hok1 : ok1 = true := by simpa using hok1
          subst hok1
          obtain ⟨L1, q1, q2, q3, q4, q5, q6, q7, q8, q9, q10⟩ := ih _ _ _ _ _ (by simpa using hl) hx
          split at hv
          · simp at hv
          · rename_i hord
            simp only [not_or, not_and, Classical.not_not] at hord
            obtain ⟨hsp, hord⟩ := hord
            simp only at hord hv q2 q3 q4 q6 q7 q8 q9 q10
            generalize hy : visitF N fuel (nd N k).r { s2 with last := ent (nd N k), some := true } = Y at hv
            obtain ⟨⟨b, y1, ok2⟩, s4⟩ := Y
            obtain ⟨R, r⟩ : ∃ R, ok2 = true → _ := ⟨(), fun h => by subst h; exact ih _ _ _ _ _ (by simpa using q2) hy⟩
            split at hv
            · simp at hv
            · rename_i hfin
              simp only [not_or, Classical.not_not, Int.not_lt] at hfin
              obtain ⟨g1, g2, g3, g4, g5⟩ := hfin
              have hok2 : ok2 = true := by simpa using g1
              obtain ⟨R, r1, r2, r3, r4, r5, r6, r7, r8, r9, r10⟩ := r hok2
              simp only [Prod.mk.injEq] at hv
              obtain ⟨⟨rfl, rfl, _⟩, rfl⟩ := hv
              simp only at r2 r3 r4 r6 r7 r8 r9 r10 g2 g3 g4 g5
              have hkS : s.seen.getD k false = false := by simpa using hb3
              have tot : ∀ {a b : En}, ¬ enLt a b → enLt b a ∨ a = b := fun {a b} h => by
                obtain ⟨a1, a2, a3⟩ := a
                obtain ⟨b1, b2, b3⟩ := b
                simp only [enLt, Prod.mk.injEq] at *
                omega
              have s1get : ∀ j, j < N.length → ((s.seen.set k true).getD j false = true ↔ s.seen.getD j false = true ∨ j = k) := fun j hj => by
                by_cases e : k = j
                · subst e; simp [hl, hk]
                · simp [Ne.symm e, List.getElem?_set_ne e]
              have notk : ∀ j ∈ L1, j ≠ k ∧ s.seen.getD j false = false := fun j hj => by
                obtain ⟨c1, c2⟩ := q4 j hj
                have := s1get j c1
                refine ⟨fun e => ?_, ?_⟩
                · rw [this.2 (.inr e)] at c2; cases c2
                · cases hs : s.seen.getD j false
                  · rfl
                  · rw [this.2 (.inl hs)] at c2; cases c2
              have seen2 : ∀ j, j < N.length → (s2.seen.getD j false = true ↔ s.seen.getD j false = true ∨ j = k ∨ j ∈ L1) := fun j hj => by
                rw [q3 j hj, s1get j hj, or_assoc]
              have inR : ∀ j ∈ R, j < N.length ∧ s.seen.getD j false = false ∧ j ≠ k ∧ j ∉ L1 := fun j hj => by
                obtain ⟨c1, c2⟩ := r4 j hj
                have h2 := seen2 j c1
                refine ⟨c1, ?_, fun e => ?_, fun e => ?_⟩
                · cases hs : s.seen.getD j false
                  · rfl
                  · rw [h2.2 (.inl hs)] at c2; cases c2
                · rw [h2.2 (.inr (.inl e))] at c2; cases c2
                · rw [h2.2 (.inr (.inr e))] at c2; cases c2
              have Lk : ∀ j ∈ L1, enLt (ent (nd N j)) (ent (nd N k)) := fun j hj => by
                have hne : L1 ≠ [] := List.ne_nil_of_mem hj
                have hs2 : s2.some = true := by rw [q7]; simp [hne]
                have h1 := hord hs2
                rcases tot (q9 j hj) with h | h
                · exact enLt_trans h h1
                · rw [← h]; exact h1
              have kR : ∀ j ∈ R, enLt (ent (nd N k)) (ent (nd N j)) := fun j hj => r6.2 rfl j hj
              have sk : s.some = true → enLt s.last (ent (nd N k)) := fun hs => by
                have hs2 : s2.some = true := by rw [q7, hs]; rfl
                by_cases hne : L1 = []
                · have := hord hs2; rw [q8 hne] at this; exact this
                · obtain ⟨j, hj, _⟩ := q10 hne
                  exact enLt_trans (q6.2 hs j hj) (Lk j hj)
              refine ⟨L1 ++ [k] ++ R, .node hk q1 r1 (by simpa using hsp) g2 (by omega) (by omega) g5, r2, fun j hj => ?_, fun j hj => ?_, ?_, ⟨?_, fun hs j hj => ?_⟩, ?_, fun h => ?_, fun j hj => ?_, fun _ => ?_⟩
              · rw [r3 j hj, seen2 j hj]; simp only [List.mem_append, List.mem_singleton]
                constructor
                · rintro ((h | h | h) | h)
                  · exact .inl h
                  · exact .inr (.inl (.inr h))
                  · exact .inr (.inl (.inl h))
                  · exact .inr (.inr h)
                · rintro (h | (h | h) | h)
                  · exact .inl (.inl h)
                  · exact .inl (.inr (.inr h))
                  · exact .inl (.inr (.inl h))
                  · exact .inr h
              · simp only [List.mem_append, List.mem_singleton] at hj
                rcases hj with (h | rfl) | h
                · exact ⟨(q4 j h).1, (notk j h).2⟩
                · exact ⟨hk, hkS⟩
                · exact ⟨(inR j h).1, (inR j h).2.1⟩
              · rw [List.nodup_append, List.nodup_append]
                refine ⟨⟨q5, by simp, fun x hx y hy => ?_⟩, r5, fun x hx y hy e => ?_⟩
                · rw [List.mem_singleton.1 hy]; exact (notk x hx).1
                · subst e
                  obtain ⟨_, _, c1, c2⟩ := inR x hy
                  rcases List.mem_append.1 hx with h | h
                  · exact c2 h
                  · exact c1 (List.mem_singleton.1 h)
              · rw [List.map_append, List.map_append, List.pairwise_append, List.pairwise_append]
                refine ⟨⟨q6.1, by simp, fun x hx y hy => ?_⟩, r6.1, fun x hx y hy => ?_⟩
                · obtain ⟨j, hj, rfl⟩ := List.mem_map.1 hx
                  simp only [List.map_cons, List.map_nil, List.mem_singleton] at hy
                  subst hy; exact Lk j hj
                · obtain ⟨j, hj, rfl⟩ := List.mem_map.1 hy
                  rcases List.mem_append.1 hx with h | h
                  · obtain ⟨i, hi, rfl⟩ := List.mem_map.1 h
                    exact enLt_trans (Lk i hi) (kR j hj)
                  · simp only [List.map_cons, List.map_nil, List.mem_singleton] at h
                    subst h; exact kR j hj
              · simp only [List.mem_append, List.mem_singleton] at hj
                rcases hj with (h | rfl) | h
                · exact q6.2 hs j h
                · exact sk hs
                · exact enLt_trans (sk hs) (kR j h)
              · rw [r7]; simp
              · simp at h
              · by_cases hR : R = []
                · rw [r8 hR]
                  simp only [List.mem_append, List.mem_singleton] at hj
                  rcases hj with (h | rfl) | h
                  · exact fun hl => enLt_irrefl _ (enLt_trans hl (Lk j h))
                  · exact enLt_irrefl _
                  · rw [hR] at h; simp at h
                · obtain ⟨z, hz, he⟩ := r10 hR
                  simp only [List.mem_append, List.mem_singleton] at hj
                  rcases hj with (h | rfl) | h
                  · rw [he]; exact fun hl => enLt_irrefl _ (enLt_trans hl (enLt_trans (Lk j h) (kR z hz)))
                  · rw [he]; exact fun hl => enLt_irrefl _ (enLt_trans hl (kR z hz))
                  · exact r9 j h
              · by_cases hR : R = []
                · exact ⟨k, by simp, r8 hR⟩
                · obtain ⟨z, hz, he⟩ := r10 hR
                  exact ⟨z, by simp [hz], he⟩

theorem sub_one {N : List Nd} {i : Int} {L : List Nat} {h m : Int} (hs : Sub N i L h m) : ∀ {L' : List Nat} {h' m' : Int}, Sub N i L' h' m' → L = L' ∧ h = h' ∧ m = m' := by
  induction hs with
  | nil =>
    intro L' h' m' hs'
    generalize hi : (-1 : Int) = i at hs'
    cases hs' with
    | nil => exact ⟨rfl, rfl, rfl⟩
    | node => omega
  | @node k L R a b x y hk h1 h2 h3 h4 h5 h6 h7 ih1 ih2 =>
    intro L' h' m' hs'
    generalize hi : (k : Int) = i at hs'
    cases hs' with
    | nil => omega
    | @node k' L' R' a' b' x' y' hk' g1 g2 g3 g4 g5 g6 g7 =>
      obtain rfl : k = k' := by omega
      obtain ⟨rfl, _, _⟩ := ih1 g1
      obtain ⟨rfl, _, _⟩ := ih2 g2
      exact ⟨rfl, rfl, rfl⟩
theorem visit_complete {N : List Nd} {i : Int} {L : List Nat} {h m : Int} (hs : Sub N i L h m) : ∀ (fuel : Nat) (s : VSt), L.length < fuel → s.seen.length = N.length → (∀ j ∈ L, s.seen.getD j false = false) → L.Nodup → Chain N s L → ∃ s', visitF N fuel i s = ((h, m, true), s') := by
  induction hs with
  | nil =>
    intro fuel s hf _ _ _ _
    obtain ⟨f, rfl⟩ : ∃ f, fuel = f + 1 := ⟨fuel - 1, by omega⟩
    exact ⟨s, by rw [visitF, if_pos rfl]⟩
  | @node k L R a b x y hk h1 h2 h3 h4 h5 h6 h7 ih1 ih2 =>
    intro fuel s hf hl hun hnd hch
    obtain ⟨f, rfl⟩ : ∃ f, fuel = f + 1 := ⟨fuel - 1, by omega⟩
    have hlen : (L ++ [k] ++ R).length = L.length + 1 + R.length := by simp; omega
    have hnd1 := List.nodup_append.1 hnd
    have hnd2 := List.nodup_append.1 hnd1.1
    have hkL : k ∉ L := fun hi => hnd2.2.2 k hi k (by simp) rfl
    have hpw := hch.1
    rw [List.map_append, List.map_append, List.pairwise_append, List.pairwise_append] at hpw
    obtain ⟨⟨p1, _, p2⟩, p3, p4⟩ := hpw
    have sget : ∀ j, (s.seen.set k true).getD j false = true → s.seen.getD j false = true ∨ j = k := fun j hj => by
      by_cases e : k = j
      · exact .inr e.symm
      · rw [List.getD_eq_getElem?_getD, List.getElem?_set_ne e] at hj; exact .inl (by simpa using hj)
    obtain ⟨s2, e1⟩ := ih1 f { s with seen := s.seen.set k true } (by omega) (by simpa using hl) (fun j hj => by
      have hu := hun j (by simp [hj])
      show (s.seen.set k true).getD j false = false
      cases hg : (s.seen.set k true).getD j false
      · rfl
      · rcases sget j hg with h | h
        · rw [hu] at h; cases h
        · subst h; exact absurd hj hkL) hnd2.1 ⟨p1, fun hs j hj => hch.2 hs j (by simp [hj])⟩
    obtain ⟨L1, q1, q2, q3, q4, q5, q6, q7, q8, q9, q10⟩ := visit_sound N _ _ _ _ _ _ (by simpa using hl) e1
    obtain ⟨rfl, _, _⟩ := sub_one h1 q1
    simp only at q3 q7 q8
    have hord : s2.some = true → enLt s2.last (ent (nd N k)) := fun hs => by
      by_cases hne : L = []
      · rw [q8 hne]
        refine hch.2 ?_ k (by simp)
        rw [q7, hne] at hs; simpa using hs
      · obtain ⟨j, hj, he⟩ := q10 hne
        rw [he]
        exact p2 _ (List.mem_map.2 ⟨j, hj, rfl⟩) _ (by simp)
    obtain ⟨s4, e2⟩ := ih2 f { s2 with last := ent (nd N k), some := true } (by omega) q2 (fun j hj => by
      have hu := hun j (by simp [hj])
      have hjk : j ≠ k := fun e => by subst e; exact hnd1.2.2 j (by simp) j hj rfl
      have hjL : j ∉ L := fun e => hnd1.2.2 j (by simp [e]) j hj rfl
      show s2.seen.getD j false = false
      cases hg : s2.seen.getD j false
      · rfl
      · by_cases hjn : j < N.length
        · rcases (q3 j hjn).1 hg with h | h
          · rcases sget j h with h | h
            · rw [hu] at h; cases h
            · exact absurd h hjk
          · exact absurd h hjL
        · rw [List.getD_eq_getElem?_getD, List.getElem?_eq_none (by omega)] at hg; simp at hg) hnd1.2.1 ⟨p3, fun _ j hj => p4 _ (by simp) _ (List.mem_map.2 ⟨j, hj, rfl⟩)⟩
    refine ⟨s4, ?_⟩
    have hks : ¬ (s.seen.getD k false = true) := by rw [hun k (by simp)]; simp
    have hnb : ¬ ((k : Int) < 0 ∨ (N.length : Int) ≤ (k : Int) ∨ s.seen.getD (k : Int).toNat false = true) := by
      rw [Int.toNat_natCast]
      rintro (h | h | h)
      · omega
      · omega
      · exact hks h
    rw [visitF, if_neg (by omega), if_neg hnb]
    simp only [Int.toNat_natCast, e1, e2]
    rw [if_neg (by simp), if_neg (by
      rintro (h | ⟨h, h'⟩)
      · rw [h3] at h; cases h
      · exact h' (hord h)), if_neg (by
      rintro (h | h | h | h | h)
      · simp at h
      · exact h h4
      · omega
      · omega
      · exact h h7)]
/-- A valid tree, as the check says. -/
def validT (N : List Nd) (root : Int) : Prop := ∃ L h m, Sub N root L h m ∧ L.Nodup ∧ (L.map fun i => ent (nd N i)).Pairwise enLt ∧ ∀ j, j < N.length → j ∈ L

def vst0 (n : Nat) : VSt := ⟨List.replicate n false, (0, 0, 0), false⟩
theorem vst0_seen (n j : Nat) : (vst0 n).seen.getD j false = false := by
  simp only [vst0, List.getD_eq_getElem?_getD, List.getElem?_replicate]
  split <;> rfl
/-- What Valid asks of the check is a valid tree. -/
theorem valid_iff (N : List Nd) (root : Int) : (∃ h m s', visitF N (N.length + 1) root (vst0 N.length) = ((h, m, true), s') ∧ ∀ j, j < N.length → s'.seen.getD j false = true) ↔ validT N root := by
  constructor
  · rintro ⟨h, m, s', hv, hall⟩
    obtain ⟨L, q1, _, q3, q4, q5, q6, _⟩ := visit_sound N _ _ _ _ _ _ (by simp [vst0]) hv
    refine ⟨L, h, m, q1, q5, q6.1, fun j hj => ?_⟩
    rcases (q3 j hj).1 (hall j hj) with e | e
    · rw [vst0_seen] at e; cases e
    · exact e
  · rintro ⟨L, h, m, hs, hnd, hpw, hall⟩
    have hsub : ∀ {i : Int} {L : List Nat} {h m : Int}, Sub N i L h m → ∀ j ∈ L, j < N.length := by
      intro i L h m hs
      induction hs with
      | nil => simp
      | @node k L R a b x y hk _ _ _ _ _ _ _ ih1 ih2 =>
        intro j hj
        simp only [List.mem_append, List.mem_singleton] at hj
        rcases hj with (h | rfl) | h
        · exact ih1 j h
        · exact hk
        · exact ih2 j h
    have hlen : L.length ≤ N.length := by
      have := nodup_sub hnd (M := List.range N.length) (fun j hj => List.mem_range.2 (hsub hs j hj))
      simpa using this
    obtain ⟨s', hv⟩ := visit_complete hs (N.length + 1) (vst0 N.length) (by omega) (by simp [vst0]) (fun j _ => vst0_seen _ j) hnd ⟨hpw, fun h => by cases h⟩
    refine ⟨h, m, s', hv, fun j hj => ?_⟩
    obtain ⟨L', q1, _, q3, _⟩ := visit_sound N _ _ _ _ _ _ (by simp [vst0]) hv
    obtain ⟨rfl, _, _⟩ := sub_one hs q1
    exact (q3 j hj).2 (.inr (hall j hj))

/-- The least number of nodes of a tree of a height. -/
def minN : Nat → Nat
  | 0 => 0
  | 1 => 1
  | n + 2 => minN (n + 1) + minN n + 1
theorem minN_step (n : Nat) : minN n ≤ minN (n + 1) := by
  rcases n with _ | n
  · decide
  · show minN (n + 1) ≤ minN (n + 1) + minN n + 1
    omega
theorem minN_mono {m n : Nat} (h : m ≤ n) : minN m ≤ minN n := by
  induction n with
  | zero => obtain rfl : m = 0 := by omega
            exact Nat.le_refl _
  | succ n ih =>
    rcases Nat.eq_or_lt_of_le h with rfl | h
    · exact Nat.le_refl _
    · exact Nat.le_trans (ih (by omega)) (minN_step n)
theorem sub_height {N : List Nd} {i : Int} {L : List Nat} {h m : Int} (hs : Sub N i L h m) : ∃ k : Nat, h = k ∧ minN k ≤ L.length := by
  induction hs with
  | nil => exact ⟨0, rfl, Nat.le_refl _⟩
  | @node k L R a b x y hk h1 h2 h3 h4 h5 h6 h7 ih1 ih2 =>
    obtain ⟨ka, rfl, ha⟩ := ih1
    obtain ⟨kb, rfl, hb⟩ := ih2
    have hl : (L ++ [k] ++ R).length = L.length + 1 + R.length := by simp; omega
    rw [hl, h4]
    rcases (by omega : ka = kb ∨ ka = kb + 1 ∨ kb = ka + 1) with rfl | rfl | rfl
    · refine ⟨ka + 1, by omega, ?_⟩
      rcases ka with _ | n
      · show 1 ≤ _; omega
      · show minN (n + 1) + minN n + 1 ≤ _
        have := minN_step n
        omega
    · refine ⟨kb + 2, by omega, ?_⟩
      show minN (kb + 1) + minN kb + 1 ≤ _
      omega
    · refine ⟨ka + 2, by omega, ?_⟩
      show minN (ka + 1) + minN ka + 1 ≤ _
      omega
theorem sub_low {N : List Nd} {i : Int} {L : List Nat} {h m : Int} (hs : Sub N i L h m) (hl : L.length ≤ 1000) : 0 ≤ h ∧ h ≤ 14 := by
  obtain ⟨k, rfl, hk⟩ := sub_height hs
  have h15 : minN 15 = 1596 := by decide
  refine ⟨by omega, ?_⟩
  apply Classical.byContradiction
  intro hc
  have := minN_mono (show 15 ≤ k by omega)
  omega
/-- Before is the strict order of entries. -/
theorem before_iff (a b : En) : (if a.1 ≠ b.1 then decide (a.1 < b.1) else if a.2.1 ≠ b.2.1 then decide (a.2.1 < b.2.1) else decide (a.2.2 < b.2.2)) = decide (enLt a b) := by
  have h : enLt a b ↔ (a.1 < b.1 ∨ (a.1 = b.1 ∧ (a.2.1 < b.2.1 ∨ (a.2.1 = b.2.1 ∧ a.2.2 < b.2.2)))) := Iff.rfl
  split
  · rw [decide_eq_decide, h]; omega
  · split
    · rw [decide_eq_decide, h]; omega
    · rw [decide_eq_decide, h]; omega
end Go.Proofs.Ytgdcgdjlhljbiaa
