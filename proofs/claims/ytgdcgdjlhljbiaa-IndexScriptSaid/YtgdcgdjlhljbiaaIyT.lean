/- Law 42: what Build, Insert and Delete answer where they make a tree, in short; the lists of IndexOrder. -/
import Derived.Test.YtgdcgdjlhljbiaaIyJ
import Derived.Test.YtgdcgdjlhljbiaaIyR
import Derived.Test.YtgdcgdjlhljbiaaTree
namespace Go.Proofs.Ytgdcgdjlhljbiaa
open Go.RowKit Go.Shelf

/-- A valid tree with the entries of a list; no error. -/
def TreeMade (L : List En) (w : World) (e : Ending) (w' : World) : Prop :=
  ∃ A cap N r, e = .returned (.tuple #[.agg #[.slice A (List.length N) cap, .int .i64 r], .int .i64 0]) ∧ OwnsN w' w.heap.size (.slice A (List.length N) cap) N ∧ treeB N r = true ∧ (entsT N r).Perm L ∧ Below w.heap.size w w'
theorem tree_len {N : List Nd} {r : Int} (h : treeB N r = true) : (entsT N r).length = N.length := entsT_len (treeB_valid h).2
theorem tree_ord {N : List Nd} {r : Int} (h : treeB N r = true) : (entsT N r).Pairwise enLt := entsT_ord (treeB_valid h).2
theorem comes_tree {N : List Nd} {r : Int} (h : treeB N r = true) : comes N r = entsT N r := by unfold comes; rw [if_pos h]
theorem tree_made {M L : List En} (hp : M.Perm L) (ho : M.Pairwise enLt) (hl : M.length ≤ 1000) {w : World} {e : Ending} {w' : World} (h : MadeT M w e w') : TreeMade L w e w' := by
  obtain ⟨A, c, N, r, he, hg, hown, hb⟩ := h
  obtain ⟨h1, h2, _⟩ := made_tree hg ho hl
  exact ⟨A, c, N, r, he, hown, h1, by rw [h2]; exact hp, hb⟩
theorem xBuild_t (v : Value) (l : List Sp) (w : World) (hs : IsSpans w v l) (ho : l.all okSpan = true) (hl : l.length ≤ 1000) : Calls Try.prog 16 #[v] w (TreeMade (ixE l l.length) w) :=
  (xBuild_c v l w hs).mono fun e w' h => by
    unfold BuildRet at h
    rw [if_neg (by rw [ho]; simp), if_neg (by omega)] at h
    obtain ⟨M, hp, ho, h⟩ := h
    exact tree_made hp ho (by rw [hp.length_eq, ixE_len]; omega) h
theorem xInsert_t (v : Value) (root p q y : Int) (N : List Nd) (w : World) (hs : IsNodes w v N) (ht : treeB N root = true) (hok : okSpan (p, q) = true) (hx : (p, q, y) ∉ entsT N root) (hl : N.length < 1000) : Calls Try.prog 34 #[.agg #[v, .int .i64 root], .agg #[.int .i64 p, .int .i64 q], .int .i64 y] w (TreeMade ((p, q, y) :: entsT N root) w) :=
  (xInsert_c v root p q y N w hs).mono fun e w' h => by
    unfold InsT at h
    rw [if_neg (by simp [ht, hok]), if_neg hx, if_neg (by omega)] at h
    obtain ⟨M, ho, hp, h⟩ := h
    exact tree_made hp ho (by rw [hp.length_eq, List.length_cons, tree_len ht]; omega) h
theorem xInsert_twice (v : Value) (root p q y : Int) (N : List Nd) (w : World) (hs : IsNodes w v N) (ht : treeB N root = true) (hok : okSpan (p, q) = true) (hx : (p, q, y) ∈ entsT N root) : Calls Try.prog 34 #[.agg #[v, .int .i64 root], .agg #[.int .i64 p, .int .i64 q], .int .i64 y] w (NoT 8 w) :=
  (xInsert_c v root p q y N w hs).mono fun e w' h => by
    unfold InsT at h
    rwa [if_neg (by simp [ht, hok]), if_pos hx] at h
theorem xDelete_t (v : Value) (root p q y : Int) (N : List Nd) (w : World) (hs : IsNodes w v N) (ht : treeB N root = true) (hok : okSpan (p, q) = true) (L : List En) (hx : (entsT N root).Perm ((p, q, y) :: L)) : Calls Try.prog 32 #[.agg #[v, .int .i64 root], .agg #[.int .i64 p, .int .i64 q], .int .i64 y] w (TreeMade L w) :=
  (xDelete_c v root p q y N w hs).mono fun e w' h => by
    unfold DelT at h
    rw [if_neg (by simp [ht, hok]), if_neg (fun h => h (hx.mem_iff.2 (by simp)))] at h
    obtain ⟨M, ho, hp, h⟩ := h
    have h1 := hp.length_eq
    have h2 := tree_len ht
    have h3 := (treeB_valid ht).1
    rw [List.length_cons] at h1
    exact tree_made (List.perm_cons _ |>.1 (hp.trans hx)) ho (by omega) h
theorem xDelete_none (v : Value) (root p q y : Int) (N : List Nd) (w : World) (hs : IsNodes w v N) (ht : treeB N root = true) (hok : okSpan (p, q) = true) (hx : (p, q, y) ∉ entsT N root) : Calls Try.prog 32 #[.agg #[v, .int .i64 root], .agg #[.int .i64 p, .int .i64 q], .int .i64 y] w (NoT 7 w) :=
  (xDelete_c v root p q y N w hs).mono fun e w' h => by
    unfold DelT at h
    rwa [if_neg (by simp [ht, hok]), if_pos hx] at h
/-- The entries of a list from an index on. -/
def ixD (l : List Sp) (i : Nat) : List En := (ixE l l.length).drop i
theorem ixE_get (l : List Sp) (k i : Nat) (h : i < k) : (ixE l k)[i]'(by rw [ixE_len]; exact h) = (fr l i, tt l i, (i : Int)) := by simp [ixE]
theorem ixD_step (l : List Sp) (i : Nat) (h : i < l.length) : ixD l i = (fr l i, tt l i, (i : Int)) :: ixD l (i + 1) := by
  unfold ixD
  rw [List.drop_eq_getElem_cons (by rw [ixE_len]; exact h), ixE_get l _ i h]
theorem ixD_end (l : List Sp) : ixD l l.length = [] := by unfold ixD; rw [List.drop_eq_nil_of_le (by rw [ixE_len]; omega)]
theorem ixD_zero (l : List Sp) : ixD l 0 = ixE l l.length := rfl
theorem ixD_len (l : List Sp) (i : Nat) : (ixD l i).length = l.length - i := by unfold ixD; rw [List.length_drop, ixE_len]
theorem ixD_new (l : List Sp) (i : Nat) (h : i < l.length) : (fr l i, tt l i, (i : Int)) ∉ ixD l (i + 1) := by
  have h1 : (ixD l i).Nodup := (ixE_nodup l l.length).sublist (List.drop_sublist _ _)
  rw [ixD_step l i h] at h1
  exact (List.nodup_cons.1 h1).1
/-- One entry taken out of the list. -/
theorem ixE_out (l : List Sp) (i : Nat) (h : i < l.length) : ∃ L : List En, (ixE l l.length).Perm ((fr l i, tt l i, (i : Int)) :: L) ∧ (fr l i, tt l i, (i : Int)) ∉ L ∧ L.length = l.length - 1 := by
  have hm : (fr l i, tt l i, (i : Int)) ∈ ixE l l.length := by rw [← ixE_get l _ i h]; exact List.getElem_mem _
  have hp := List.perm_cons_erase hm
  refine ⟨_, hp, ?_, ?_⟩
  · have h1 := hp.nodup_iff.1 (ixE_nodup l l.length)
    exact (List.nodup_cons.1 h1).1
  · rw [List.length_erase_of_mem hm, ixE_len]
theorem same_ents {N M : List Nd} {r s : Int} (h1 : treeB N r = true) (h2 : treeB M s = true) {L : List En} (p1 : (entsT N r).Perm L) (p2 : (entsT M s).Perm L) : entsT N r = entsT M s :=
  ents_one (p1.trans p2.symm) (tree_ord h1) (tree_ord h2)
def ColT (L : List En) (w : World) (e : Ending) (w' : World) : Prop := ∃ A c, e = .returned (.slice A L.length c) ∧ IsEnts w' (.slice A L.length c) L ∧ Below w.heap.size w w'
theorem collect_t (v : Value) (root : Int) (N : List Nd) (w : World) (hs : IsNodes w v N) (ht : treeB N root = true) : Calls Try.prog 42 #[.agg #[v, .int .i64 root]] w (ColT (entsT N root) w) := by
  refine (collect42_c v root N w hs).mono ?_
  rw [comes_tree ht]
  rintro e w' ⟨v', he, ho, _, hb⟩
  have h := ho.ents
  obtain ⟨A, c, rfl, _, _⟩ := h.form
  exact ⟨A, c, he, h, hb⟩
theorem equal_t (v1 v2 : Value) (a : List En) (w : World) (h1 : IsEnts w v1 a) (h2 : IsEnts w v2 a) : Calls Try.prog 23 #[v1, v2] w (Ret w (.bool true)) := by
  have h := slEqualEntry_c v1 v2 a a w h1 h2
  rwa [show sameEL a a = true from decide_eq_true rfl] at h
end Go.Proofs.Ytgdcgdjlhljbiaa
