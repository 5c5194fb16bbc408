/- Texts joined: AjH, AjI, AjJ, AjK. -/
import Derived.Test.YtohjgegnamcnlaaGreatZac
import Derived.Test.YtohjgegnamcnlaaGreatAhf
import Derived.Test.YtohjgegnamcnlaaGreatAhw
import Derived.Test.YtohjgegnamcnlaaGreatAiE
import Derived.Test.YtohjgegnamcnlaaGreatAhu

/- Law 39: plain law of the reference: the visits between the ends of facts. -/
namespace Go.Proofs.YtohjgegnamcnlaaGreat
open Go.RowKit Go.Shelf

theorem asc_ltE {E : List Int} (h : E.Pairwise (· < ·)) {i j : Nat} (hij : i < j) (hj : j < E.length) : iv E i < iv E j := by
  have := List.pairwise_iff_getElem.1 h i j (by omega) hj hij
  rw [iv_at, iv_at] at this
  exact this
theorem asc_invE {E : List Int} (h : E.Pairwise (· < ·)) {i j : Nat} (hi : i < E.length) (h2 : iv E i < iv E j) : i < j := by
  rcases Nat.lt_or_ge i j with q | q
  · exact q
  · rcases Nat.lt_or_eq_of_le q with q | rfl
    · have := asc_ltE h q hi
      omega
    · omega
theorem gap_at {E : List Int} (t : Int) : ∀ (d i : Nat), i + d < E.length → iv E i ≤ t → t < iv E (i + d) → ∃ k, k + 1 < E.length ∧ iv E k ≤ t ∧ t < iv E (k + 1)
  | 0, i, _, h1, h2 => by rw [Nat.add_zero] at h2; omega
  | d + 1, i, h, h1, h2 => by
    by_cases q : t < iv E (i + d)
    · exact gap_at t d i (by omega) h1 q
    · exact ⟨i + d, by omega, by omega, h2⟩
/-- The visits of the first sections between the ends. -/
def visN (F : List Fct) (E : List Int) : Nat → List Vis
  | 0 => []
  | k + 1 => if rowsAt F (iv E k) = [] then visN F E k else visN F E k ++ [((iv E k, iv E (k + 1)), rowsAt F (iv E k))]
theorem visN_none {F : List Fct} {E : List Int} {k : Nat} (h : rowsAt F (iv E k) = []) : visN F E (k + 1) = visN F E k := by
  show (if _ then _ else _) = _
  rw [if_pos h]
theorem visN_some {F : List Fct} {E : List Int} {k : Nat} (h : rowsAt F (iv E k) ≠ []) : visN F E (k + 1) = visN F E k ++ [((iv E k, iv E (k + 1)), rowsAt F (iv E k))] := by
  show (if _ then _ else _) = _
  rw [if_neg h]
theorem visN_mem (F : List Fct) (E : List Int) : ∀ (n : Nat) (v : Vis), v ∈ visN F E n ↔ ∃ k, k < n ∧ rowsAt F (iv E k) ≠ [] ∧ v = ((iv E k, iv E (k + 1)), rowsAt F (iv E k))
  | 0, v => by simp [visN]
  | n + 1, v => by
    have ih := visN_mem F E n v
    by_cases q : rowsAt F (iv E n) = []
    · rw [visN_none q, ih]
      constructor
      · rintro ⟨k, hk, h⟩
        exact ⟨k, by omega, h⟩
      · rintro ⟨k, hk, h1, h2⟩
        rcases Nat.lt_or_ge k n with e | e
        · exact ⟨k, e, h1, h2⟩
        · obtain rfl : k = n := by omega
          exact absurd q h1
    · rw [visN_some q, List.mem_append, ih, List.mem_singleton]
      constructor
      · rintro (⟨k, hk, h⟩ | e)
        · exact ⟨k, by omega, h⟩
        · exact ⟨n, by omega, q, e⟩
      · rintro ⟨k, hk, h1, h2⟩
        rcases Nat.lt_or_ge k n with e | e
        · exact .inl ⟨k, e, h1, h2⟩
        · obtain rfl : k = n := by omega
          exact .inr h2
theorem visN_len (F : List Fct) (E : List Int) : ∀ k, (visN F E k).length ≤ k
  | 0 => Nat.le_refl _
  | k + 1 => by
    have ih := visN_len F E k
    by_cases q : rowsAt F (iv E k) = []
    · rw [visN_none q]; omega
    · rw [visN_some q, List.length_append]
      show _ + 1 ≤ _
      omega
theorem visN_ord (F : List Fct) {E : List Int} (h : E.Pairwise (· < ·)) : ∀ k, k < E.length → (visN F E k).Pairwise fun a b => a.1.2 ≤ b.1.1
  | 0, _ => List.Pairwise.nil
  | k + 1, hk => by
    have ih := visN_ord F h k (by omega)
    by_cases q : rowsAt F (iv E k) = []
    · rw [visN_none q]; exact ih
    · rw [visN_some q]
      refine List.pairwise_append.2 ⟨ih, by simp, fun a ha b hb => ?_⟩
      rw [List.mem_singleton] at hb
      subst hb
      obtain ⟨i, hi, _, rfl⟩ := (visN_mem F E k a).1 ha
      show iv E (i + 1) ≤ iv E k
      rcases Nat.lt_or_eq_of_le (show i + 1 ≤ k by omega) with e | e
      · exact Int.le_of_lt (asc_ltE h e (by omega))
      · rw [e]; exact Int.le_refl _
/-- The rows between two ends. -/
theorem sec_rows {F : List Fct} {k : Nat} {t : Int} (hk : k + 1 < (endsN F F.length).length) (h1 : iv (endsN F F.length) k ≤ t) (h2 : t < iv (endsN F F.length) (k + 1)) : rowsAt F t = rowsAt F (iv (endsN F F.length) k) := by
  have ha := endsN_asc F F.length
  have key : ∀ z, z ∈ endsN F F.length → ¬ (iv (endsN F F.length) k < z ∧ z ≤ t) := fun z hz ⟨g1, g2⟩ => by
    obtain ⟨m, hm, rfl⟩ := List.getElem_of_mem hz
    rw [iv_at] at g1 g2
    have := asc_invE ha (by omega : k < _) g1
    have := asc_invE ha hm (Int.lt_of_le_of_lt g2 h2)
    omega
  refine rows_between h1 fun i hi => ⟨key _ ((endsN_mem F F.length _).2 ⟨i, hi, .inl rfl⟩), key _ ((endsN_mem F F.length _).2 ⟨i, hi, .inr rfl⟩)⟩
def visR (F : List Fct) : List Vis := visN F (endsN F F.length) ((endsN F F.length).length - 1)
theorem end_tm {F : List Fct} {k : Nat} (hk : k < (endsN F F.length).length) : Tm F (iv (endsN F F.length) k) := by
  have h := List.getElem_mem hk
  rw [iv_at] at h
  obtain ⟨i, hi, e⟩ := (endsN_mem F F.length _).1 h
  exact ⟨_, fc_mem hi, e⟩
theorem visR_ok (F : List Fct) : VisOk F (visR F) fun _ => True := by
  have ha := endsN_asc F F.length
  have hx : ∀ v, v ∈ visR F → ∃ k, k + 1 < (endsN F F.length).length ∧ rowsAt F (iv (endsN F F.length) k) ≠ [] ∧ v = ((iv (endsN F F.length) k, iv (endsN F F.length) (k + 1)), rowsAt F (iv (endsN F F.length) k)) := fun v hv => by
    obtain ⟨k, hk, h⟩ := (visN_mem _ _ _ v).1 hv
    exact ⟨k, by omega, h⟩
  refine ⟨fun v hv => ?_, fun _ _ _ _ _ => trivial, ?_, fun v hv => ?_, fun t r _ hr => ?_⟩
  · obtain ⟨k, hk, _, rfl⟩ := hx v hv
    exact ⟨asc_ltE ha (Nat.lt_succ_self k) hk, end_tm (by omega), end_tm hk⟩
  · rcases Nat.eq_zero_or_pos (endsN F F.length).length with e | e
    · unfold visR
      rw [e]
      exact List.Pairwise.nil
    · exact visN_ord F ha _ (by omega)
  · obtain ⟨k, hk, hne, rfl⟩ := hx v hv
    refine ⟨rowsN_nodup _ _ _, hne, fun t h1 h2 r => ?_⟩
    show r ∈ rowsAt F (iv (endsN F F.length) k) ↔ _
    rw [← sec_rows hk h1 h2]
    exact rowsAt_mem
  · have hr0 := hr
    obtain ⟨f, hf, _, h1, h2⟩ := hr
    obtain ⟨i, hi, rfl⟩ := List.getElem_of_mem hf
    rw [fc_at hi] at h1 h2
    obtain ⟨a, hal, ha1⟩ := List.getElem_of_mem ((endsN_mem F F.length _).2 ⟨i, hi, .inl rfl⟩)
    obtain ⟨b, hbl, hb1⟩ := List.getElem_of_mem ((endsN_mem F F.length _).2 ⟨i, hi, .inr rfl⟩)
    rw [iv_at] at ha1 hb1
    have hab := asc_invE ha hal (show iv (endsN F F.length) a < iv (endsN F F.length) b by omega)
    obtain ⟨k, hk, g1, g2⟩ := gap_at (E := endsN F F.length) t (b - a) a (by omega) (by omega) (by rw [show a + (b - a) = b by omega]; omega)
    have hin : r ∈ rowsAt F (iv (endsN F F.length) k) := by
      rw [← sec_rows hk g1 g2]
      exact rowsAt_mem.2 hr0
    refine ⟨((iv (endsN F F.length) k, iv (endsN F F.length) (k + 1)), rowsAt F (iv (endsN F F.length) k)), (visN_mem _ _ _ _).2 ⟨k, by omega, List.ne_nil_of_mem hin, rfl⟩, g1, g2⟩
end Go.Proofs.YtohjgegnamcnlaaGreat

/- Law 39: plain law of the reference's Normal: rows in order, their spans joined. -/
namespace Go.Proofs.YtohjgegnamcnlaaGreat
open Go.RowKit Go.Shelf

def insR : List VRow → VRow → List VRow
  | [], v => [v]
  | y :: l, v => if cmpR v y < 0 then v :: y :: l else y :: insR l v
theorem insR_mem : ∀ (l : List VRow) (v z : VRow), z ∈ insR l v ↔ z = v ∨ z ∈ l
  | [], v, z => by simp [insR]
  | y :: l, v, z => by
    have ih := insR_mem l v z
    unfold insR
    split
    · simp
    · rw [List.mem_cons, ih, List.mem_cons]
      constructor
      · rintro (h | h | h)
        · exact .inr (.inl h)
        · exact .inl h
        · exact .inr (.inr h)
      · rintro (h | h | h)
        · exact .inr (.inl h)
        · exact .inl h
        · exact .inr (.inr h)
theorem insR_len : ∀ (l : List VRow) (v : VRow), (insR l v).length = l.length + 1
  | [], v => rfl
  | y :: l, v => by
    have ih := insR_len l v
    unfold insR
    split
    · rfl
    · simp [ih]
theorem insR_srt : ∀ (l : List VRow) (v : VRow), v ∉ l → l.Pairwise (fun a b => cmpR a b < 0) → (insR l v).Pairwise fun a b => cmpR a b < 0
  | [], v, _, _ => by simp [insR]
  | y :: l, v, hn, h => by
    obtain ⟨h1, h2⟩ := List.pairwise_cons.1 h
    unfold insR
    split
    · rename_i q
      refine List.pairwise_cons.2 ⟨fun z hz => ?_, h⟩
      rcases List.mem_cons.1 hz with rfl | e
      · exact q
      · exact ordR.trans _ _ _ q (h1 z e)
    · rename_i q
      refine List.pairwise_cons.2 ⟨fun z hz => ?_, insR_srt l v (fun e => hn (List.mem_cons_of_mem _ e)) h2⟩
      rcases (insR_mem l v z).1 hz with rfl | e
      · have e1 := ordR.anti z y
        have e2 : cmpR z y ≠ 0 := fun e => hn (by rw [(ordR.eq _ _).1 e]; exact List.mem_cons_self ..)
        omega
      · exact h1 z e
/-- How far the insertion has come. -/
def InsAt (l : List VRow) (v : VRow) (i : Nat) (d : Bool) (out : List VRow) : Prop := if d = true then insR l v = out ++ l.drop i else insR l v = out ++ insR (l.drop i) v
theorem InsAt.start (l : List VRow) (v : VRow) : InsAt l v 0 false [] := by unfold InsAt; simp
theorem drop_vr {l : List VRow} {i : Nat} (h : i < l.length) : l.drop i = vr l i :: l.drop (i + 1) := by rw [List.drop_eq_getElem_cons h, vr_at h]
theorem InsAt.in_ {l : List VRow} {v : VRow} {i : Nat} {out : List VRow} (h : InsAt l v i true out) (hi : i < l.length) : InsAt l v (i + 1) true (out ++ [vr l i]) := by
  unfold InsAt at h ⊢
  rw [if_pos rfl] at h ⊢
  rw [h, drop_vr hi, List.append_assoc]
  rfl
theorem InsAt.ge {l : List VRow} {v : VRow} {i : Nat} {out : List VRow} (h : InsAt l v i false out) (hi : i < l.length) (hx : ¬ cmpR v (vr l i) < 0) : InsAt l v (i + 1) false (out ++ [vr l i]) := by
  unfold InsAt at h ⊢
  rw [if_neg (by decide)] at h ⊢
  rw [h, drop_vr hi, insR, if_neg hx, List.append_assoc]
  rfl
theorem InsAt.lt {l : List VRow} {v : VRow} {i : Nat} {out : List VRow} (h : InsAt l v i false out) (hi : i < l.length) (hx : cmpR v (vr l i) < 0) : InsAt l v (i + 1) true (out ++ [v] ++ [vr l i]) := by
  unfold InsAt at h ⊢
  rw [if_neg (by decide)] at h
  rw [if_pos rfl, h, drop_vr hi, insR, if_pos hx, List.append_assoc, List.append_assoc]
  rfl
theorem InsAt.end_ {l : List VRow} {v : VRow} {d : Bool} {out : List VRow} (h : InsAt l v l.length d out) : insR l v = if d = true then out else out ++ [v] := by
  unfold InsAt at h
  rw [List.drop_length] at h
  cases d
  · rw [if_neg (by decide)] at h ⊢
    rw [h]
    rfl
  · rw [if_pos rfl] at h ⊢
    rw [h, List.append_nil]
/-- The rows of the first facts, in order. -/
def listN (F : List Fct) : Nat → List VRow
  | 0 => []
  | k + 1 => if hasR (listN F k) (fc F k).1 = true then listN F k else insR (listN F k) (fc F k).1
theorem listN_has {F : List Fct} {k : Nat} (h : hasR (listN F k) (fc F k).1 = true) : listN F (k + 1) = listN F k := by
  show (if _ then _ else _) = _
  rw [if_pos h]
theorem listN_new {F : List Fct} {k : Nat} (h : hasR (listN F k) (fc F k).1 = false) : listN F (k + 1) = insR (listN F k) (fc F k).1 := by
  show (if _ then _ else _) = _
  rw [if_neg (by rw [h]; decide)]
theorem listN_len (F : List Fct) : ∀ k, (listN F k).length ≤ k
  | 0 => Nat.le_refl _
  | k + 1 => by
    have ih := listN_len F k
    cases q : hasR (listN F k) (fc F k).1
    · rw [listN_new q, insR_len]; omega
    · rw [listN_has q]; omega
theorem listN_srt (F : List Fct) : ∀ k, (listN F k).Pairwise fun a b => cmpR a b < 0
  | 0 => List.Pairwise.nil
  | k + 1 => by
    have ih := listN_srt F k
    cases q : hasR (listN F k) (fc F k).1
    · rw [listN_new q]; exact insR_srt _ _ (hasR_not.1 q) ih
    · rw [listN_has q]; exact ih
theorem listN_mem (F : List Fct) : ∀ k (r : VRow), r ∈ listN F k ↔ ∃ i, i < k ∧ (fc F i).1 = r
  | 0, r => by simp [listN]
  | k + 1, r => by
    have ih := listN_mem F k r
    have key : (∃ i, i < k + 1 ∧ (fc F i).1 = r) ↔ (fc F k).1 = r ∨ ∃ i, i < k ∧ (fc F i).1 = r := by
      constructor
      · rintro ⟨i, hi, e⟩
        rcases Nat.lt_or_ge i k with q | q
        · exact .inr ⟨i, q, e⟩
        · obtain rfl : i = k := by omega
          exact .inl e
      · rintro (e | ⟨i, hi, e⟩)
        · exact ⟨k, by omega, e⟩
        · exact ⟨i, by omega, e⟩
    rw [key, ← ih]
    cases q : hasR (listN F k) (fc F k).1
    · rw [listN_new q, insR_mem]
      constructor
      · rintro (e | e)
        · exact .inl e.symm
        · exact .inr e
      · rintro (e | e)
        · exact .inl e.symm
        · exact .inr e
    · rw [listN_has q]
      constructor
      · exact .inr
      · rintro (e | e)
        · rw [← e]; exact hasR_iff.1 q
        · exact e
/-- The spans of a row among the first facts. -/
def spnN (F : List Fct) (r : VRow) : Nat → List Sp
  | 0 => []
  | k + 1 => if sameR (fc F k).1 r = true then spnN F r k ++ [(fc F k).2] else spnN F r k
theorem spnN_yes {F : List Fct} {r : VRow} {k : Nat} (h : sameR (fc F k).1 r = true) : spnN F r (k + 1) = spnN F r k ++ [(fc F k).2] := by
  show (if _ then _ else _) = _
  rw [if_pos h]
theorem spnN_no {F : List Fct} {r : VRow} {k : Nat} (h : sameR (fc F k).1 r = false) : spnN F r (k + 1) = spnN F r k := by
  show (if _ then _ else _) = _
  rw [if_neg (by rw [h]; decide)]
theorem spnN_len (F : List Fct) (r : VRow) : ∀ k, (spnN F r k).length ≤ k
  | 0 => Nat.le_refl _
  | k + 1 => by
    have ih := spnN_len F r k
    cases q : sameR (fc F k).1 r
    · rw [spnN_no q]; omega
    · rw [spnN_yes q, List.length_append]
      show _ + 1 ≤ _
      omega
theorem spnN_mem (F : List Fct) (r : VRow) : ∀ k (s : Sp), s ∈ spnN F r k ↔ ∃ i, i < k ∧ (fc F i).1 = r ∧ (fc F i).2 = s
  | 0, s => by simp [spnN]
  | k + 1, s => by
    have ih := spnN_mem F r k s
    cases q : sameR (fc F k).1 r
    · rw [spnN_no q, ih]
      constructor
      · rintro ⟨i, hi, e⟩
        exact ⟨i, by omega, e⟩
      · rintro ⟨i, hi, e1, e2⟩
        rcases Nat.lt_or_ge i k with e | e
        · exact ⟨i, e, e1, e2⟩
        · obtain rfl : i = k := by omega
          exact absurd e1 (of_decide_eq_false q)
    · rw [spnN_yes q, List.mem_append, ih, List.mem_singleton]
      constructor
      · rintro (⟨i, hi, e⟩ | e)
        · exact ⟨i, by omega, e⟩
        · exact ⟨k, by omega, of_decide_eq_true q, e.symm⟩
      · rintro ⟨i, hi, e1, e2⟩
        rcases Nat.lt_or_ge i k with e | e
        · exact .inl ⟨i, e, e1, e2⟩
        · obtain rfl : i = k := by omega
          exact .inr e2.symm
theorem canon_srt {C : List Sp} (h : Canon C) : C.Pairwise fun a b => a.1 < b.1 := by
  refine List.Pairwise.imp_of_mem (fun {a b} ha _ hab => ?_) h.2
  have := (h.1 a ha).2.1
  omega
/-- The list so far: the spans of the first rows. -/
structure NrmAt (F : List Fct) (L : List VRow) (k : Nat) (B : List Fct) : Prop where
  nrm : NormOf B fun r t => (∃ j, j < k ∧ vr L j = r) ∧ mem (spnN F r F.length) t = true
  row : ∀ f ∈ B, ∃ j, j < k ∧ vr L j = f.1
  len : B.length ≤ k * (2 * F.length)
theorem NrmAt.start (F : List Fct) (L : List VRow) : NrmAt F L 0 [] :=
  ⟨⟨List.Pairwise.nil, fun _ => canon_nil, fun r t => by simp⟩, fun f hf => absurd hf (by simp), Nat.zero_le _⟩
theorem NrmAt.next {F : List Fct} {L : List VRow} {k : Nat} {B : List Fct} {C : List Sp} (h : NrmAt F L k B) (hk : k < L.length) (hs : L.Pairwise fun a b => cmpR a b < 0) (hc : Canon C) (hm : ∀ t, mem C t = mem (spnN F (vr L k) F.length) t) (hl : C.length ≤ 2 * F.length) : NrmAt F L (k + 1) (B ++ C.map fun s => (vr L k, s)) := by
  have hlt : ∀ j, j < k → cmpR (vr L j) (vr L k) < 0 := fun j hj => by
    have := List.pairwise_iff_getElem.1 hs j k (by omega) hk hj
    rw [vr_at, vr_at] at this
    exact this
  have hne : ∀ f ∈ B, f.1 ≠ vr L k := fun f hf e => by
    obtain ⟨j, hj, e2⟩ := h.row f hf
    have := hlt j hj
    rw [e2, e, ordR.refl] at this
    omega
  refine ⟨⟨?_, fun v => ?_, fun r t => ?_⟩, fun f hf => ?_, ?_⟩
  · refine List.pairwise_append.2 ⟨h.nrm.srt, ?_, fun a ha b hb => ?_⟩
    · rw [List.pairwise_map]
      refine (canon_srt hc).imp fun {a b} hab => ?_
      unfold cmpF lexC sgI
      simp only [ordR.refl, ne_eq, not_true_eq_false, if_false]
      rw [if_pos hab]
      omega
    · obtain ⟨j, hj, e⟩ := h.row a ha
      obtain ⟨s, _, rfl⟩ := List.mem_map.1 hb
      have := hlt j hj
      unfold cmpF lexC
      rw [e] at this
      simp only
      rw [if_pos (by omega)]
      exact this
  · rw [List.filter_append, List.map_append]
    by_cases e : v = vr L k
    · subst e
      rw [List.filter_eq_nil_iff.2 fun f hf => by simp [hne f hf], List.filter_eq_self.2 fun f hf => by
        obtain ⟨s, _, rfl⟩ := List.mem_map.1 hf
        simp]
      rw [List.map_nil, List.nil_append, List.map_map]
      show Canon (C.map fun s => s)
      rw [List.map_id']
      exact hc
    · have h0 : (C.map fun s => (vr L k, s)).filter (fun f => decide (f.1 = v)) = [] := List.filter_eq_nil_iff.2 fun f hf => by
        obtain ⟨s, _, rfl⟩ := List.mem_map.1 hf
        rw [decide_eq_true_eq]
        exact fun q => e q.symm
      rw [h0]
      rw [List.map_nil, List.append_nil]
      exact h.nrm.can v
  · have ih := h.nrm.pts r t
    constructor
    · rintro ⟨f, hf, rfl, h1, h2⟩
      rcases List.mem_append.1 hf with q | q
      · obtain ⟨⟨j, hj, e⟩, h3⟩ := ih.1 ⟨f, q, rfl, h1, h2⟩
        exact ⟨⟨j, by omega, e⟩, h3⟩
      · obtain ⟨s, hs, rfl⟩ := List.mem_map.1 q
        refine ⟨⟨k, by omega, rfl⟩, ?_⟩
        show mem (spnN F (vr L k) F.length) t = true
        rw [← hm, mem_iff]
        exact ⟨s, hs, h1, h2⟩
    · rintro ⟨⟨j, hj, e⟩, h3⟩
      rcases Nat.lt_or_ge j k with q | q
      · obtain ⟨f, hf, g⟩ := ih.2 ⟨⟨j, q, e⟩, h3⟩
        exact ⟨f, List.mem_append_left _ hf, g⟩
      · obtain rfl : j = k := by omega
        subst e
        rw [← hm, mem_iff] at h3
        obtain ⟨s, hs, h1, h2⟩ := h3
        exact ⟨(vr L j, s), List.mem_append_right _ (List.mem_map.2 ⟨s, hs, rfl⟩), rfl, h1, h2⟩
  · rcases List.mem_append.1 hf with q | q
    · obtain ⟨j, hj, e⟩ := h.row f q
      exact ⟨j, by omega, e⟩
    · obtain ⟨s, _, rfl⟩ := List.mem_map.1 q
      exact ⟨k, by omega, rfl⟩
  · have := h.len
    rw [List.length_append, List.length_map, Nat.add_mul, Nat.one_mul]
    omega
/-- The points of the facts. -/
def ptsF (F : List Fct) (r : VRow) (t : Int) : Prop := ∃ a ∈ F, a.1 = r ∧ a.2.1 ≤ t ∧ t < a.2.2
theorem NrmAt.done {F : List Fct} {B : List Fct} (h : NrmAt F (listN F F.length) (listN F F.length).length B) : NormOf B (ptsF F) := by
  refine ⟨h.nrm.srt, h.nrm.can, fun r t => (h.nrm.pts r t).trans ?_⟩
  constructor
  · rintro ⟨_, h2⟩
    obtain ⟨s, hs, h3, h4⟩ := mem_iff.1 h2
    obtain ⟨i, hi, e1, rfl⟩ := (spnN_mem F r F.length s).1 hs
    exact ⟨_, fc_mem hi, e1, h3, h4⟩
  · rintro ⟨a, ha, e, h3, h4⟩
    obtain ⟨i, hi, rfl⟩ := List.getElem_of_mem ha
    rw [fc_at hi] at e h3 h4
    refine ⟨?_, mem_iff.2 ⟨_, (spnN_mem F r F.length _).2 ⟨i, hi, e, rfl⟩, h3, h4⟩⟩
    have h5 := (listN_mem F F.length r).2 ⟨i, hi, e⟩
    obtain ⟨j, hj, e2⟩ := List.getElem_of_mem h5
    rw [vr_at hj] at e2
    exact ⟨j, hj, e2⟩
end Go.Proofs.YtohjgegnamcnlaaGreat

/- Law 39: plain law of the reference: what a section adds to Group, Top and Most; the sum kept near 0. -/
namespace Go.Proofs.YtohjgegnamcnlaaGreat
open Go.RowKit Go.Shelf

/-! ### Group -/
/-- The groups of the first rows, in order. -/
def keyN (R : List VRow) (ks : List Int) : Nat → List VRow
  | 0 => []
  | k + 1 => if hasR (keyN R ks k) (pickR (vr R k) ks) = true then keyN R ks k else keyN R ks k ++ [pickR (vr R k) ks]
theorem keyN_has {R : List VRow} {ks : List Int} {k : Nat} (h : hasR (keyN R ks k) (pickR (vr R k) ks) = true) : keyN R ks (k + 1) = keyN R ks k := by
  show (if _ then _ else _) = _
  rw [if_pos h]
theorem keyN_new {R : List VRow} {ks : List Int} {k : Nat} (h : hasR (keyN R ks k) (pickR (vr R k) ks) = false) : keyN R ks (k + 1) = keyN R ks k ++ [pickR (vr R k) ks] := by
  show (if _ then _ else _) = _
  rw [if_neg (by rw [h]; decide)]
theorem keyN_len (R : List VRow) (ks : List Int) : ∀ k, (keyN R ks k).length ≤ k
  | 0 => Nat.le_refl _
  | k + 1 => by
    have ih := keyN_len R ks k
    cases q : hasR (keyN R ks k) (pickR (vr R k) ks)
    · rw [keyN_new q, List.length_append]
      show _ + 1 ≤ _
      omega
    · rw [keyN_has q]; omega
theorem keyN_mem (R : List VRow) (ks : List Int) : ∀ k (v : VRow), v ∈ keyN R ks k ↔ ∃ j, j < k ∧ v = pickR (vr R j) ks
  | 0, v => by simp [keyN]
  | k + 1, v => by
    have ih := keyN_mem R ks k v
    have key : (∃ j, j < k + 1 ∧ v = pickR (vr R j) ks) ↔ v = pickR (vr R k) ks ∨ ∃ j, j < k ∧ v = pickR (vr R j) ks := by
      constructor
      · rintro ⟨i, hi, e⟩
        rcases Nat.lt_or_ge i k with q | q
        · exact .inr ⟨i, q, e⟩
        · obtain rfl : i = k := by omega
          exact .inl e
      · rintro (e | ⟨i, hi, e⟩)
        · exact ⟨k, by omega, e⟩
        · exact ⟨i, by omega, e⟩
    rw [key, ← ih]
    cases q : hasR (keyN R ks k) (pickR (vr R k) ks)
    · rw [keyN_new q, List.mem_append, List.mem_singleton]
      exact or_comm
    · rw [keyN_has q]
      constructor
      · exact .inr
      · rintro (e | e)
        · rw [e]; exact hasR_iff.1 q
        · exact e
/-- What the first rows of a section add. -/
def grpK (ks : List Int) (fn : Int) (col : Nat) (R : List VRow) (s : Sp) (k : Nat) : List Fct := (keyN R ks k).map fun v => (outR ks fn col R v, s)
section
variable {ks : List Int} {fn : Int} {col : Nat} {R : List VRow} {s : Sp} {k : Nat}
theorem grpK_zero : grpK ks fn col R s 0 = [] := rfl
theorem grpK_has (h : hasR (keyN R ks k) (pickR (vr R k) ks) = true) : grpK ks fn col R s (k + 1) = grpK ks fn col R s k := by unfold grpK; rw [keyN_has h]
theorem grpK_new (h : hasR (keyN R ks k) (pickR (vr R k) ks) = false) : grpK ks fn col R s (k + 1) = grpK ks fn col R s k ++ [(outR ks fn col R (pickR (vr R k) ks), s)] := by unfold grpK; rw [keyN_new h, List.map_append]; rfl
theorem grpK_len : (grpK ks fn col R s k).length ≤ k := by unfold grpK; rw [List.length_map]; exact keyN_len _ _ _
theorem GrpA.sec {A0 : List Fct} {Vs : List Vis} (h : GrpA ks fn col Vs A0) : GrpA ks fn col (Vs ++ [(s, R)]) (A0 ++ grpK ks fn col R s R.length) := fun a => by
  rw [List.mem_append, h a]
  unfold grpK
  constructor
  · rintro (⟨v, hv, e⟩ | q)
    · exact ⟨v, List.mem_append_left _ hv, e⟩
    · obtain ⟨x, hx, rfl⟩ := List.mem_map.1 q
      obtain ⟨j, hj, rfl⟩ := (keyN_mem R ks _ x).1 hx
      exact ⟨(s, R), by simp, rfl, vr R j, vr_mem hj, rfl⟩
  · rintro ⟨v, hv, e1, e2⟩
    rcases List.mem_append.1 hv with q | q
    · exact .inl ⟨v, q, e1, e2⟩
    · rw [List.mem_singleton] at q
      subst q
      obtain ⟨r, hr, e⟩ := e2
      obtain ⟨j, hj, rfl⟩ := List.getElem_of_mem hr
      rw [vr_at hj] at e
      exact .inr (List.mem_map.2 ⟨_, (keyN_mem R ks _ _).2 ⟨j, hj, rfl⟩, Prod.ext e.symm e1⟩)
theorem GrpA.none : GrpA ks fn col [] [] := fun a => by simp
/-- No group of the first rows has an error. -/
def okN (ks : List Int) (fn : Int) (col : Nat) (R : List VRow) (k : Nat) : Prop := ∀ j, j < k → (resR fn col (memG ks R (pickR (vr R j) ks))).2 = 0
theorem okN_zero : okN ks fn col R 0 := fun j hj => absurd hj (by omega)
theorem okN_has (h : okN ks fn col R k) (hh : hasR (keyN R ks k) (pickR (vr R k) ks) = true) : okN ks fn col R (k + 1) := fun j hj => by
  rcases Nat.lt_or_ge j k with q | q
  · exact h j q
  · obtain rfl : j = k := by omega
    obtain ⟨i, hi, e⟩ := (keyN_mem R ks _ _).1 (hasR_iff.1 hh)
    rw [e]
    exact h i hi
theorem okN_new (h : okN ks fn col R k) (hh : (resR fn col (memG ks R (pickR (vr R k) ks))).2 = 0) : okN ks fn col R (k + 1) := fun j hj => by
  rcases Nat.lt_or_ge j k with q | q
  · exact h j q
  · obtain rfl : j = k := by omega
    exact hh
theorem okN_all (h : okN ks fn col R R.length) : ¬ ErrIn ks fn col R := by
  rintro ⟨r, hr, e⟩
  obtain ⟨j, hj, rfl⟩ := List.getElem_of_mem hr
  rw [vr_at hj] at e
  exact e (h j hj)
theorem outR_size (hr : ∀ r ∈ R, ∀ x ∈ r, x.2.2.size ≤ 1000000000) {i : Nat} (hi : i < R.length) (hfn : FnOk fn) : ∀ x ∈ outR ks fn col R (pickR (vr R i) ks), x.2.2.size ≤ 1000000000 := fun x hx => by
  have h0 : (ByteArray.mk #[]).size = 0 := rfl
  have hva : ∀ r ∈ R, ∀ k, (va r k).2.2.size ≤ 1000000000 := fun r hr' k => by
    by_cases q : k < r.length
    · exact hr r hr' _ (va_mem q)
    · have : va r k = (0, 0, ⟨#[]⟩) := by unfold va; simp [q]
      rw [this]
      show (ByteArray.mk #[]).size ≤ _
      omega
  unfold outR at hx
  rcases List.mem_append.1 hx with h | h
  · unfold pickR at h
    obtain ⟨k, _, rfl⟩ := List.mem_map.1 h
    exact hva _ (vr_mem hi) _
  · rw [List.mem_singleton] at h
    subst h
    unfold resR
    split
    · show (ByteArray.mk #[]).size ≤ _
      omega
    · split
      · show (ByteArray.mk #[]).size ≤ _
        omega
      · have hne : colV (memG ks R (pickR (vr R i) ks)) col ≠ [] := by
          have : vr R i ∈ memG ks R (pickR (vr R i) ks) := List.mem_filter.2 ⟨vr_mem hi, decide_eq_true rfl⟩
          exact List.ne_nil_of_mem (List.mem_map.2 ⟨_, this, rfl⟩)
        obtain ⟨h1, _⟩ := best_spec (fn := fn) (by unfold FnOk at hfn; omega) hne
        obtain ⟨r, hr', e⟩ := List.mem_map.1 h1
        show (bestV fn _).2.2.size ≤ _
        rw [← e]
        exact hva r (List.mem_filter.1 hr').1 _
end
/-! ### Top -/
def topK (col : Nat) (R : List VRow) (s : Sp) (k : Nat) : List Fct := ((R.take k).filter (topB col R)).map fun r => (r, s)
section
variable {col : Nat} {R : List VRow} {s : Sp} {k : Nat}
theorem topK_zero : topK col R s 0 = [] := by simp [topK]
theorem topK_yes (hk : k < R.length) (h : topB col R (vr R k) = true) : topK col R s (k + 1) = topK col R s k ++ [(vr R k, s)] := by
  unfold topK
  rw [List.take_succ_eq_append_getElem hk, vr_at hk, List.filter_append, List.map_append]
  simp [h]
theorem topK_no (hk : k < R.length) (h : topB col R (vr R k) = false) : topK col R s (k + 1) = topK col R s k := by
  unfold topK
  rw [List.take_succ_eq_append_getElem hk, vr_at hk, List.filter_append, List.map_append]
  simp [h]
theorem topK_len : (topK col R s k).length ≤ k := by
  unfold topK
  rw [List.length_map]
  refine Nat.le_trans (List.length_filter_le _ _) ?_
  rw [List.length_take]
  exact Nat.min_le_left _ _
theorem TopA.sec {A0 : List Fct} {Vs : List Vis} (h : TopA col Vs A0) : TopA col (Vs ++ [(s, R)]) (A0 ++ topK col R s R.length) := fun a => by
  rw [List.mem_append, h a]
  unfold topK
  rw [List.take_length]
  constructor
  · rintro (⟨v, hv, e⟩ | q)
    · exact ⟨v, List.mem_append_left _ hv, e⟩
    · obtain ⟨x, hx, rfl⟩ := List.mem_map.1 q
      obtain ⟨h1, h2⟩ := List.mem_filter.1 hx
      exact ⟨(s, R), by simp, rfl, (topB_iff h1).1 h2⟩
  · rintro ⟨v, hv, e1, e2⟩
    rcases List.mem_append.1 hv with q | q
    · exact .inl ⟨v, q, e1, e2⟩
    · rw [List.mem_singleton] at q
      subst q
      exact .inr (List.mem_map.2 ⟨a.1, List.mem_filter.2 ⟨e2.1, (topB_iff e2.1).2 e2⟩, Prod.ext rfl e1⟩)
theorem TopA.none : TopA col [] [] := fun a => by simp
/-- The rows seen so far are not beyond a row. -/
def topJ (col : Nat) (R : List VRow) (x : VRow) (j : Nat) : Bool := !((R.take j).any fun o => decide (0 < cmpV (va o col) (va x col)))
theorem topJ_zero (x : VRow) : topJ col R x 0 = true := by simp [topJ]
theorem topJ_succ {x : VRow} {j : Nat} (hj : j < R.length) : topJ col R x (j + 1) = (topJ col R x j && decide (cmpV (va (vr R j) col) (va x col) ≤ 0)) := by
  unfold topJ
  rw [List.take_succ_eq_append_getElem hj, vr_at hj, List.any_append, Bool.not_or]
  congr 1
  simp only [List.any_cons, List.any_nil, Bool.or_false]
  rw [← decide_not, decide_eq_decide]
  omega
theorem topJ_all (x : VRow) : topJ col R x R.length = topB col R x := by
  unfold topJ topB
  rw [List.take_length]
end
/-! ### the sum kept near 0 -/
theorem sumI_app : ∀ a b : List Int, sumI (a ++ b) = sumI a + sumI b
  | [], b => by simp [sumI]
  | x :: a, b => by
    show x + sumI (a ++ b) = x + sumI a + sumI b
    rw [sumI_app a b]
    omega
theorem sumI_take {l : List Int} {i : Nat} (h : i < l.length) : sumI (l.take (i + 1)) = sumI (l.take i) + iv l i := by
  rw [List.take_succ_eq_append_getElem h, sumI_app, iv_at h]
  show _ + (_ + 0) = _
  omega
theorem sumI_split (l : List Int) (i : Nat) : sumI l = sumI (l.take i) + sumI (l.drop i) := by
  rw [← sumI_app, List.take_append_drop]
theorem sumI_pos : ∀ {l : List Int}, (∀ x ∈ l, 0 ≤ x) → 0 ≤ sumI l
  | [], _ => Int.le_refl _
  | x :: l, h => by
    have h1 := sumI_pos (l := l) fun y hy => h y (by simp [hy])
    have h2 := h x (by simp)
    show 0 ≤ x + sumI l
    omega
theorem sumI_neg : ∀ {l : List Int}, (∀ x ∈ l, x < 0) → sumI l ≤ 0
  | [], _ => Int.le_refl _
  | x :: l, h => by
    have h1 := sumI_neg (l := l) fun y hy => h y (by simp [hy])
    have h2 := h x (by simp)
    show x + sumI l ≤ 0
    omega
/-- How far Add has come. -/
structure AddAt (P M : List Int) (i k : Nat) (s : Int) : Prop where
  pos : ∀ x ∈ P, 0 ≤ x ∧ x ≤ 9223372036854775807
  neg : ∀ x ∈ M, x < 0 ∧ -9223372036854775808 ≤ x
  hi : i ≤ P.length
  hk : k ≤ M.length
  sum : s = sumI (P.take i) + sumI (M.take k)
  lo : -9223372036854775808 ≤ s
  up : s ≤ 9223372036854775807
theorem AddAt.start {P M : List Int} (h1 : ∀ x ∈ P, 0 ≤ x ∧ x ≤ 9223372036854775807) (h2 : ∀ x ∈ M, x < 0 ∧ -9223372036854775808 ≤ x) : AddAt P M 0 0 0 :=
  ⟨h1, h2, Nat.zero_le _, Nat.zero_le _, by simp [sumI], by omega, by omega⟩
theorem mem_drop_le {α : Type} {l : List α} {i : Nat} {x : α} (h : x ∈ l.drop i) : x ∈ l := List.mem_of_mem_drop h
theorem AddAt.plus {P M : List Int} {i k : Nat} {s : Int} (h : AddAt P M i k s) (hi : i < P.length) (hc : s < 0 ∨ k = M.length) :
    (s + iv P i ≤ 9223372036854775807 → AddAt P M (i + 1) k (s + iv P i)) ∧ (¬ s + iv P i ≤ 9223372036854775807 → 9223372036854775807 < sumI P + sumI M) := by
  have h0 := h.pos _ (iv_mem' hi)
  have hs := h.sum
  have h1 := h.lo; have h2 := h.up
  refine ⟨fun hq => ⟨h.pos, h.neg, hi, h.hk, by rw [sumI_take hi]; omega, by omega, hq⟩, fun hq => ?_⟩
  have hkm : k = M.length := by omega
  have e1 := sumI_split P (i + 1)
  have e2 := sumI_pos (l := P.drop (i + 1)) fun x hx => (h.pos x (mem_drop_le hx)).1
  rw [sumI_take hi] at e1
  rw [hkm, List.take_length] at hs
  omega
theorem AddAt.minus {P M : List Int} {i k : Nat} {s : Int} (h : AddAt P M i k s) (hk : k < M.length) (hc : i = P.length ∨ 0 ≤ s) :
    (-9223372036854775808 ≤ s + iv M k → AddAt P M i (k + 1) (s + iv M k)) ∧ (¬ -9223372036854775808 ≤ s + iv M k → sumI P + sumI M < -9223372036854775808) := by
  have h0 := h.neg _ (iv_mem' hk)
  have hs := h.sum
  have h1 := h.lo; have h2 := h.up
  refine ⟨fun hq => ⟨h.pos, h.neg, h.hi, hk, by rw [sumI_take hk]; omega, hq, by omega⟩, fun hq => ?_⟩
  have him : i = P.length := by omega
  have e1 := sumI_split M (k + 1)
  have e2 := sumI_neg (l := M.drop (k + 1)) fun x hx => (h.neg x (mem_drop_le hx)).1
  rw [sumI_take hk] at e1
  rw [him, List.take_length] at hs
  omega
theorem AddAt.done {P M : List Int} {s : Int} (h : AddAt P M P.length M.length s) : s = sumI P + sumI M ∧ -9223372036854775808 ≤ sumI P + sumI M ∧ sumI P + sumI M ≤ 9223372036854775807 := by
  have hs := h.sum
  have h1 := h.lo; have h2 := h.up
  rw [List.take_length, List.take_length] at hs
  omega
/-- What Add answers. -/
def addR (P M : List Int) : Int × Bool := if -9223372036854775808 ≤ sumI P + sumI M ∧ sumI P + sumI M ≤ 9223372036854775807 then (sumI P + sumI M, true) else (0, false)
theorem addR_done {P M : List Int} {s : Int} (h : AddAt P M P.length M.length s) : addR P M = (s, true) := by
  obtain ⟨h1, h2, h3⟩ := h.done
  unfold addR
  rw [if_pos ⟨h2, h3⟩, h1]
theorem addR_up {P M : List Int} (h : 9223372036854775807 < sumI P + sumI M) : addR P M = (0, false) := by unfold addR; rw [if_neg (by omega)]
theorem addR_lo {P M : List Int} (h : sumI P + sumI M < -9223372036854775808) : addR P M = (0, false) := by unfold addR; rw [if_neg (by omega)]
def plusL (l : List Int) : List Int := l.filter fun x => decide (0 ≤ x)
def minusL (l : List Int) : List Int := l.filter fun x => decide (x < 0)
theorem plusL_app (l : List Int) (x : Int) : plusL (l ++ [x]) = if 0 ≤ x then plusL l ++ [x] else plusL l := by
  unfold plusL
  rw [List.filter_append]
  by_cases h : 0 ≤ x <;> simp [h]
theorem minusL_app (l : List Int) (x : Int) : minusL (l ++ [x]) = if 0 ≤ x then minusL l else minusL l ++ [x] := by
  unfold minusL
  rw [List.filter_append]
  by_cases h : 0 ≤ x
  · have h2 : ¬ x < 0 := by omega
    simp [h, h2]
  · have h2 : x < 0 := by omega
    simp [h, h2]
theorem sum_parts : ∀ l : List Int, sumI (plusL l) + sumI (minusL l) = sumI l
  | [] => rfl
  | x :: l => by
    have ih := sum_parts l
    by_cases h : 0 ≤ x
    · have h2 : ¬ x < 0 := by omega
      have e1 : plusL (x :: l) = x :: plusL l := by unfold plusL; simp [h]
      have e2 : minusL (x :: l) = minusL l := by unfold minusL; simp [h2]
      rw [e1, e2]
      show x + sumI (plusL l) + sumI (minusL l) = x + sumI l
      omega
    · have h2 : x < 0 := by omega
      have e1 : plusL (x :: l) = plusL l := by unfold plusL; simp [h]
      have e2 : minusL (x :: l) = x :: minusL l := by unfold minusL; simp [h2]
      rw [e1, e2]
      show sumI (plusL l) + (x + sumI (minusL l)) = x + sumI l
      omega
theorem addR_res (l : List Int) : addR (plusL l) (minusL l) = ((resS l).1, decide ((resS l).2 = 0)) := by
  unfold addR resS
  rw [sum_parts]
  split <;> rfl
/-! ### the results of groups, row by row -/
theorem memG_yes {ks : List Int} {R : List VRow} {v : VRow} {i : Nat} (hi : i < R.length) (h : pickR (vr R i) ks = v) : memG ks (R.take (i + 1)) v = memG ks (R.take i) v ++ [vr R i] := by
  unfold memG
  rw [List.take_succ_eq_append_getElem hi, vr_at hi, List.filter_append]
  simp [h]
theorem memG_no {ks : List Int} {R : List VRow} {v : VRow} {i : Nat} (hi : i < R.length) (h : pickR (vr R i) ks ≠ v) : memG ks (R.take (i + 1)) v = memG ks (R.take i) v := by
  unfold memG
  rw [List.take_succ_eq_append_getElem hi, vr_at hi, List.filter_append]
  simp [h]
theorem memG_len (ks : List Int) (R : List VRow) (v : VRow) (i : Nat) : (memG ks (R.take i) v).length ≤ i := by
  unfold memG
  refine Nat.le_trans (List.length_filter_le _ _) ?_
  rw [List.length_take]
  exact Nat.min_le_left _ _
theorem best_app {fn : Int} {l : List Val} (x : Val) (h : l ≠ []) : bestV fn (l ++ [x]) = bst fn (bestV fn l) x := by
  cases l with
  | nil => exact absurd rfl h
  | cons v l =>
    show (l ++ [x]).foldl (bst fn) v = _
    rw [List.foldl_append]
    rfl
end Go.Proofs.YtohjgegnamcnlaaGreat

/- Law 39: lists of rows that grow: rows of the caller, and rows of one's own. -/
namespace Go.Proofs.YtohjgegnamcnlaaGreat
open Go.RowKit Go.Shelf

/-! ### rows of the caller's world -/
def RvO (w0 : World) (base : Nat) (X : World) (v : Value) (R : List VRow) : Prop := ∃ ss : List Value, X.ownsRow base 47 1 v R.length ss ∧ ss.length = R.length ∧ ∀ i, i < R.length → IsVals w0 (ss.getD i undef) (vr R i)
section
variable {w0 X Y : World} {base : Nat} {v : Value} {R : List VRow}
theorem own_rv {ss : List Value} (h : X.ownsRow base 47 1 v R.length ss) (hl : ss.length = R.length) (hv : ∀ i, i < R.length → IsVals X (ss.getD i undef) (vr R i)) : RvIn X v R fun i => ss.getD i undef :=
  ⟨rows_of_own h fun i j hi hj => by
    obtain rfl : j = 0 := by omega
    have : i < ss.length := by omega
    simp [this], hv⟩
theorem RvO.rv (h : RvO w0 base X v R) (hb : Below w0.heap.size w0 X) : IsRv X v R := by
  obtain ⟨ss, h1, h2, h3⟩ := h
  exact ⟨_, own_rv h1 h2 fun i hi => (h3 i hi).below hb⟩
theorem RvO.below (h : RvO w0 base X v R) (hb : Below X.heap.size X Y) : RvO w0 base Y v R := by
  obtain ⟨ss, h1, h2, h3⟩ := h
  exact ⟨ss, own_below h1 hb (Nat.le_refl _), h2, h3⟩
theorem RvO.nil (w0 : World) (base : Nat) (X : World) : RvO w0 base X (.slice none 0 0) [] := ⟨[], own_nil _ _ _ _, rfl, fun i hi => absurd hi (by simp)⟩
theorem RvO.lower {b : Nat} (h : RvO w0 base X v R) (hb : b ≤ base) : RvO w0 b X v R := by
  obtain ⟨ss, h1, h2, h3⟩ := h
  exact ⟨ss, own_low h1 hb, h2, h3⟩
theorem RvO.form (h : RvO w0 base X v R) : ∃ A c, v = .slice A R.length c := by
  obtain ⟨ss, h1, _⟩ := h
  rcases h1.2 with ⟨rfl, e⟩ | ⟨g, cap, cur, rfl, _⟩
  · exact ⟨none, 0, by rw [e]⟩
  · exact ⟨_, cap, rfl⟩
theorem vr_snoc (R : List VRow) (r : VRow) : vr (R ++ [r]) R.length = r := by unfold vr; simp
theorem vr_old {R : List VRow} {i : Nat} (r : VRow) (h : i < R.length) : vr (R ++ [r]) i = vr R i := by
  unfold vr
  rw [List.getD_eq_getElem?_getD, List.getD_eq_getElem?_getD, List.getElem?_append_left h]
theorem getD_snoc (ss : List Value) (s : Value) : (ss ++ [s]).getD ss.length undef = s := by simp
theorem getD_old {ss : List Value} {i : Nat} (s : Value) (h : i < ss.length) : (ss ++ [s]).getD i undef = ss.getD i undef := by
  rw [List.getD_eq_getElem?_getD, List.getD_eq_getElem?_getD, List.getElem?_append_left h]
/-- append(own, row of the caller) -/
theorem append_rv {ops : Array Oper} {rest : List Oper} {o : Oper} {a : Act} {Q : Exit → Act → World → Prop} (hgd : o.guard = none) (s x : Operand)
    (ho : o.op = .call { callee := .builtin .append, args := #[s, x], argTypes := #[52, 52] })
    {w : World} (w0 : World) (base : Nat) {t : TypeId} (v : Value) (R : List VRow) (hs : a.eval s = v) (hown : RvO w0 base w v R) {u : Value} {r : VRow} (hu : IsVals w0 u r)
    {b : Nat} (hx : a.eval x = .slice (some ⟨b, 0, none⟩) 1 1) (hb0 : w.heap.size = b) (hlen : R.length < 900000000) (hbase : base ≤ w.heap.size)
    (h : ∀ v' w', RvO w0 base w' v' (R ++ [r]) → Below base w w' → (∀ k, k < w.heap.size → v.ownBlock ≠ some k → w'.heap[k]? = w.heap[k]?) → wpList Tryz.prog ops Q rest (a.put o.dst v') w') :
    wpList Tryz.prog ops Q (o :: rest) a (w.alloc (.cells #[u] t)) := by
  obtain ⟨ss, h1, h2, h3⟩ := hown
  have hone : u.oneCell' = true := by
    obtain ⟨A, c, rfl, _, _⟩ := hu.form
    rfl
  refine append1 tRowVs tValuesInfo rfl (by omega) (by omega) hgd s x ho base v R.length ss [u] hs h1 hx hb0 rfl rfl (by simpa using hone) hlen hbase ?_
  intro v' w' g1 g2 g3 _
  refine h v' w' ⟨ss ++ [u], by rw [List.length_append]; exact g1, by simp [h2], fun i hi => ?_⟩ g2 g3
  rw [List.length_append] at hi
  have hi2 : i < R.length + 1 := hi
  rcases Nat.lt_or_ge i R.length with q | q
  · rw [vr_old r q, getD_old u (by omega)]
    exact h3 i q
  · obtain rfl : i = R.length := by omega
    rw [vr_snoc, ← h2, getD_snoc]
    exact hu
end
/-! ### rows of one's own -/
def RvT (base : Nat) (X : World) (v : Value) (R : List VRow) : Prop := ∃ ss : List Value, X.ownsRow base 47 1 v R.length ss ∧ ss.length = R.length ∧ ∀ i, i < R.length → OwnsV X base (ss.getD i undef) (vr R i)
section
variable {base : Nat} {X Y : World} {v : Value} {R : List VRow}
theorem RvT.rv (h : RvT base X v R) : IsRv X v R := by
  obtain ⟨ss, h1, h2, h3⟩ := h
  exact ⟨_, own_rv h1 h2 fun i hi => (h3 i hi).vals⟩
theorem RvT.below (h : RvT base X v R) (hb : Below X.heap.size X Y) : RvT base Y v R := by
  obtain ⟨ss, h1, h2, h3⟩ := h
  exact ⟨ss, own_below h1 hb (Nat.le_refl _), h2, fun i hi => (h3 i hi).below hb⟩
theorem RvT.nil (base : Nat) (X : World) : RvT base X (.slice none 0 0) [] := ⟨[], own_nil _ _ _ _, rfl, fun i hi => absurd hi (by simp)⟩
theorem RvT.form (h : RvT base X v R) : ∃ A c, v = .slice A R.length c := by
  obtain ⟨ss, h1, _⟩ := h
  rcases h1.2 with ⟨rfl, e⟩ | ⟨g, cap, cur, rfl, _⟩
  · exact ⟨none, 0, by rw [e]⟩
  · exact ⟨_, cap, rfl⟩
/-- A world in which each block but g is as before. -/
theorem OwnsV.oth {u : Value} {r : VRow} {n k c : Nat} {e : TypeId} {ts : Value} {xs : List Value} (h : OwnsV X base u r) (ht : X.ownsRow c e k ts n xs) (he : 51 ≠ e) (hk : ∀ b, b < X.heap.size → ts.ownBlock ≠ some b → Y.heap[b]? = X.heap[b]?) : OwnsV Y base u r :=
  own_blocks h fun g hg => hk g (World.ownsRow.lt h g hg).2 fun e2 => own_tag h ht he hg e2
theorem RvT.oth {n k c : Nat} {e : TypeId} {ts : Value} {xs : List Value} (h : RvT base X v R) (ht : X.ownsRow c e k ts n xs) (he : 51 ≠ e) (he2 : 47 ≠ e) (hk : ∀ b, b < X.heap.size → ts.ownBlock ≠ some b → Y.heap[b]? = X.heap[b]?) : RvT base Y v R := by
  obtain ⟨ss, h1, h2, h3⟩ := h
  exact ⟨ss, own_blocks h1 fun g hg => hk g (World.ownsRow.lt h1 g hg).2 fun e2 => own_tag h1 ht he2 hg e2, h2, fun i hi => (h3 i hi).oth ht he hk⟩
/-- append(own, row of one's own) -/
theorem append_rt {ops : Array Oper} {rest : List Oper} {o : Oper} {a : Act} {Q : Exit → Act → World → Prop} (hgd : o.guard = none) (s x : Operand)
    (ho : o.op = .call { callee := .builtin .append, args := #[s, x], argTypes := #[52, 52] })
    {w : World} (base : Nat) {t : TypeId} (v : Value) (R : List VRow) (hs : a.eval s = v) (hown : RvT base w v R) {u : Value} {r : VRow} (hu : OwnsV w base u r)
    {b : Nat} (hx : a.eval x = .slice (some ⟨b, 0, none⟩) 1 1) (hb0 : w.heap.size = b) (hlen : R.length < 900000000) (hbase : base ≤ w.heap.size)
    (h : ∀ v' w', RvT base w' v' (R ++ [r]) → OwnsV w' base u r → Below base w w' → (∀ k, k < w.heap.size → v.ownBlock ≠ some k → w'.heap[k]? = w.heap[k]?) → wpList Tryz.prog ops Q rest (a.put o.dst v') w') :
    wpList Tryz.prog ops Q (o :: rest) a (w.alloc (.cells #[u] t)) := by
  obtain ⟨ss, h1, h2, h3⟩ := hown
  have hone : u.oneCell' = true := by
    obtain ⟨A, c, rfl, _, _⟩ := hu.vals.form
    rfl
  have hne : 51 ≠ 47 := by decide
  refine append1 tRowVs tValuesInfo rfl (by omega) (by omega) hgd s x ho base v R.length ss [u] hs h1 hx hb0 rfl rfl (by simpa using hone) hlen hbase ?_
  intro v' w' g1 g2 g3 _
  have hu' := hu.oth h1 hne g3
  refine h v' w' ⟨ss ++ [u], by rw [List.length_append]; exact g1, by simp [h2], fun i hi => ?_⟩ hu' g2 g3
  rw [List.length_append] at hi
  have hi2 : i < R.length + 1 := hi
  rcases Nat.lt_or_ge i R.length with q | q
  · rw [vr_old r q, getD_old u (by omega)]
    exact (h3 i q).oth h1 hne g3
  · obtain rfl : i = R.length := by omega
    rw [vr_snoc, ← h2, getD_snoc]
    exact hu'
end
/-- append of one fact, behind a draw. -/
theorem append_fx_wd {o : Oper} {a : Act} {K : Act → World → Prop} {Q : Exit → Act → World → Prop} (s x : Operand)
    (ho : o.op = .call { callee := .builtin .append, args := #[s, x], argTypes := #[22, 22] })
    {w : World} (base : Nat) (v : Value) (G : List Fx) (hs : a.eval s = v) (hown : OwnsFx w base v G) {vr : Value} {f : Fct} {cs : Array Value} {t : TypeId} (hcs : cs = #[vr, .int .i64 f.2.1, .int .i64 f.2.2]) (hvr : IsVals w vr f.1) (hvb : ∀ b, sblk vr = some b → b < w.heap.size ∧ v.ownBlock ≠ some b)
    {b : Nat} (hx : a.eval x = .slice (some ⟨b, 0, none⟩) 1 1) (hb0 : w.heap.size = b) (hlen : G.length < 900000000) (hbase : base ≤ w.heap.size)
    (h : ∀ v' w', OwnsFx w' base v' (G ++ [(vr, f)]) → Below base w w' → (∀ k, k < w.heap.size → v.ownBlock ≠ some k → w'.heap[k]? = w.heap[k]?) → K (a.put o.dst v') w') :
    o.wp Tryz.prog a (w.alloc (.cells cs t)).drew K Q :=
  append_fx_wp (w := w.drew) s x ho base v G hs (hown.below (Below.refl _ _).drew) hcs (hvr.below (Below.refl _ _).drew) hvb hx hb0 hlen hbase fun v' w' h1 h2 h3 => h v' w' h1 ((Below.refl base w).drew.trans h2) h3
end Go.Proofs.YtohjgegnamcnlaaGreat
