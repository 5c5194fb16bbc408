/- Law 42: the entries of a tree; index.Stab and index.Overlap. -/
import Derived.Test.YtgdcgdjlhljbiaaIdxO
import Derived.Test.YtgdcgdjlhljbiaaIdxI
import Derived.Test.YtgdcgdjlhljbiaaPre
namespace Go.Proofs.Ytgdcgdjlhljbiaa
open Go.RowKit

/-! ### the entries of a tree -/
open Classical in
noncomputable def entsT (N : List Nd) (root : Int) : List En := if h : validT N root then entsOf N h.choose else []
theorem entsT_spec {N : List Nd} {root : Int} (h : validT N root) : ∃ L hh m, Sub N root L hh m ∧ (entsOf N L).Pairwise enLt ∧ L.length = N.length ∧ entsT N root = entsOf N L := by
  have h2 := h.choose_spec
  have e : entsT N root = entsOf N h.choose := by unfold entsT; rw [dif_pos h]
  obtain ⟨hh, m, s, nd', o, all⟩ := h2
  exact ⟨h.choose, hh, m, s, o, by have := (valid_all s nd' all).length_eq; simpa using this, e⟩
theorem entsT_of {N : List Nd} {root : Int} {L : List Nat} {hh m : Int} (h : validT N root) (hs : Sub N root L hh m) : entsT N root = entsOf N L := by
  obtain ⟨L', h', m', s', _, _, e⟩ := entsT_spec h
  rw [e, (sub_one s' hs).1]
theorem entsT_len {N : List Nd} {root : Int} (h : validT N root) : (entsT N root).length = N.length := by
  obtain ⟨L, _, _, _, _, e, e2⟩ := entsT_spec h
  rw [e2, ← e]; simp [entsOf]
theorem treeB_valid {N : List Nd} {root : Int} (h : treeB N root = true) : N.length ≤ 1000 ∧ validT N root := (treeB_iff N root).1 h

/-! ### Stab and Overlap -/
noncomputable def stabL (N : List Nd) (root x : Int) : List Int := if treeB N root = true ∧ -4398046511104 ≤ x ∧ x < 4398046511104 then overs x (x + 1) (entsT N root) else []
noncomputable def overL (N : List Nd) (root p q : Int) : List Int := if treeB N root = true ∧ okSpan (p, q) = true then overs p q (entsT N root) else []
theorem xover_t (a b : Int) {N : List Nd} {root : Int} (ht : treeB N root = true) (v : Value) (w : World) (hs : IsNodes w v N) :
    Calls Try.prog 60 #[.agg #[v, .int .i64 root], .int .i64 root, .agg #[.int .i64 a, .int .i64 b]] w (IntsRet w (overs a b (entsT N root))) := by
  obtain ⟨h1, h2⟩ := treeB_valid ht
  obtain ⟨L, hh, m, s, o, e1, e2⟩ := entsT_spec h2
  rw [e2]
  exact xover_c a b s v root w hs (by omega) o
set_option maxRecDepth 100000 in
theorem xStab_c (v : Value) (root x : Int) (N : List Nd) (w : World) (hs : IsNodes w v N) : Calls Try.prog 26 #[.agg #[v, .int .i64 root], .int .i64 x] w (IntsRet w (stabL N root x)) := by
  obtain ⟨A, c, rfl, hnc, hc⟩ := hs.form
  have hb1 := (Below.refl w.heap.size w).alloc (Nat.le_refl _) (.cells #[.slice A N.length c, .int .i64 root] 24)
  have hs1 := hs.below hb1
  have t0 : (w.alloc (.cells #[.slice A N.length c, .int .i64 root] 24)).cell? ⟨w.heap.size, 0, none⟩ = some (.slice A N.length c) := by simp
  have t1 : (w.alloc (.cells #[.slice A N.length c, .int .i64 root] 24)).cell? ⟨w.heap.size, 1, none⟩ = some (.int .i64 root) := by simp
  have hz : w.heap.size < (w.alloc (.cells #[.slice A N.length c, .int .i64 root] 24)).heap.size := by simp
  by_cases h1 : x < -4398046511104
  · have c1 : decide (x < -4398046511104) = true := by simpa using h1
    have e : stabL N root x = [] := if_neg (by omega)
    rw [e]
    clear hs1 h1
    go_enter Try.func26, Try.ntmps26
    go_wp2_with fail
    go_ret
    exact ⟨_, rfl, OwnsI.nil, hb1⟩
  · have c1 : decide (x < -4398046511104) = false := by simpa using h1
    by_cases h2 : 4398046511104 ≤ x
    · have c2 : decide (4398046511104 ≤ x) = true := by simpa using h2
      have e : stabL N root x = [] := if_neg (by omega)
      rw [e]
      clear hs1 h1 h2
      go_enter Try.func26, Try.ntmps26
      go_wp2_with fail
      go_ret
      exact ⟨_, rfl, OwnsI.nil, hb1⟩
    · have c2 : decide (4398046511104 ≤ x) = false := by simpa using h2
      have HV := Lib.hid (xValid_c (.slice A N.length c) root N _ hs1)
      have Hs1 := Lib.hid hs1; have Hb1 := Lib.hid hb1
      cases ht : treeB N root
      · have e : stabL N root x = [] := if_neg (by rw [ht]; simp)
        rw [e]
        rw [ht] at HV
        clear hs1 h1 h2 hb1 hs
        go_enter Try.func26, Try.ntmps26
        go_wp2_with (go_at_call 14; (with_reducible refine (HV.out).mono ?_); rintro e w2 ⟨rfl, hb2⟩)
        go_ret
        exact ⟨_, rfl, OwnsI.nil, Hb1.out.trans (hb2.mono Hb1.out.size)⟩
      · have e : stabL N root x = overs x (x + 1) (entsT N root) := if_pos ⟨ht, by omega, by omega⟩
        rw [e]
        rw [ht] at HV
        have iw : IntKind.i64.wrap (x + 1) = x + 1 := by rw [IntKind.wrap_i64]; omega
        have Ht := Lib.hid ht
        clear hs1 h1 h2 hb1 hs ht
        go_enter Try.func26, Try.ntmps26
        go_wp2_with (first | (go_at_call 60; (with_reducible refine (xover_t x (x + 1) Ht.out _ w2 (Hs1.out.below hb2)).mono ?_); rintro e w3 ⟨v3, rfl, o3, hb3⟩) | (go_at_call 14; (with_reducible refine (HV.out).mono ?_); rintro e w2 ⟨rfl, hb2⟩; have t0 := (hb2.cell (p := ⟨w.heap.size, 0, none⟩) hz).trans t0; have t1 := (hb2.cell (p := ⟨w.heap.size, 1, none⟩) hz).trans t1) | fail)
        go_ret
        have hb12 := Hb1.out.trans (hb2.mono Hb1.out.size)
        exact ⟨_, rfl, o3.mono hb12.size, hb12.trans (hb3.mono hb12.size)⟩
set_option maxRecDepth 100000 in
theorem xOverlap_c (v : Value) (root p q : Int) (N : List Nd) (w : World) (hs : IsNodes w v N) : Calls Try.prog 27 #[.agg #[v, .int .i64 root], .agg #[.int .i64 p, .int .i64 q]] w (IntsRet w (overL N root p q)) := by
  obtain ⟨A, c, rfl, hnc, hc⟩ := hs.form
  have hb1 := ((Below.refl w.heap.size w).alloc (Nat.le_refl _) (.cells #[.slice A N.length c, .int .i64 root] 24)).alloc (by simp) (.cells #[.int .i64 p, .int .i64 q] 33)
  have hs1 := hs.below hb1
  have t0 : ((w.alloc (.cells #[.slice A N.length c, .int .i64 root] 24)).alloc (.cells #[.int .i64 p, .int .i64 q] 33)).cell? ⟨w.heap.size, 0, none⟩ = some (.slice A N.length c) := by simp
  have t1 : ((w.alloc (.cells #[.slice A N.length c, .int .i64 root] 24)).alloc (.cells #[.int .i64 p, .int .i64 q] 33)).cell? ⟨w.heap.size, 1, none⟩ = some (.int .i64 root) := by simp
  have s0 : ((w.alloc (.cells #[.slice A N.length c, .int .i64 root] 24)).alloc (.cells #[.int .i64 p, .int .i64 q] 33)).cell? ⟨w.heap.size + 1, 0, none⟩ = some (.int .i64 p) := by simp
  have s1 : ((w.alloc (.cells #[.slice A N.length c, .int .i64 root] 24)).alloc (.cells #[.int .i64 p, .int .i64 q] 33)).cell? ⟨w.heap.size + 1, 1, none⟩ = some (.int .i64 q) := by simp
  have hz : w.heap.size + 1 < ((w.alloc (.cells #[.slice A N.length c, .int .i64 root] 24)).alloc (.cells #[.int .i64 p, .int .i64 q] 33)).heap.size := by simp
  have hz0 : w.heap.size < ((w.alloc (.cells #[.slice A N.length c, .int .i64 root] 24)).alloc (.cells #[.int .i64 p, .int .i64 q] 33)).heap.size := by simp; omega
  have HI := Lib.hid (fun W => ivValid_c p q W)
  have HV := Lib.hid (fun W hb => xValid_c (.slice A N.length c) root N W (hs1.below hb))
  have Hs1 := Lib.hid hs1; have Hb1 := Lib.hid hb1
  cases ho : okSpan (p, q)
  · have e : overL N root p q = [] := if_neg (by rw [ho]; simp)
    rw [e]
    rw [ho] at HI
    clear hs1 hb1 hs
    go_enter Try.func27, Try.ntmps27
    go_wp2_with (go_at_call 36; (with_reducible refine (HI.out _).mono ?_); rintro e w2 ⟨rfl, hb2⟩)
    go_ret
    exact ⟨_, rfl, OwnsI.nil, Hb1.out.trans (hb2.mono Hb1.out.size)⟩
  · rw [ho] at HI
    cases ht : treeB N root
    · have e : overL N root p q = [] := if_neg (by rw [ht]; simp)
      rw [e]
      rw [ht] at HV
      clear hs1 hb1 hs
      go_enter Try.func27, Try.ntmps27
      go_wp2_with (first | (go_at_call 14; (with_reducible refine (HV.out _ hb2).mono ?_); rintro e w3 ⟨rfl, hb3⟩) | (go_at_call 36; (with_reducible refine (HI.out _).mono ?_); rintro e w2 ⟨rfl, hb2⟩; have t0 := (hb2.cell (p := ⟨w.heap.size, 0, none⟩) hz0).trans t0; have t1 := (hb2.cell (p := ⟨w.heap.size, 1, none⟩) hz0).trans t1) | fail)
      go_ret
      have hb12 := Hb1.out.trans (hb2.mono Hb1.out.size)
      exact ⟨_, rfl, OwnsI.nil, hb12.trans (hb3.mono hb12.size)⟩
    · have e : overL N root p q = overs p q (entsT N root) := if_pos ⟨ht, ho⟩
      rw [e]
      rw [ht] at HV
      have Ht := Lib.hid ht
      clear hs1 hb1 hs ht
      go_enter Try.func27, Try.ntmps27
      go_wp2_with (first | (go_at_call 60; (with_reducible refine (xover_t p q Ht.out _ w3 ((Hs1.out.below hb2).below hb3)).mono ?_); rintro e w4 ⟨v4, rfl, o4, hb4⟩) | (go_at_call 14; (with_reducible refine (HV.out _ hb2).mono ?_); rintro e w3 ⟨rfl, hb3⟩; have hb23 := hb2.trans (hb3.mono hb2.size); have t0 := (hb23.cell (p := ⟨w.heap.size, 0, none⟩) hz0).trans T0.out; have t1 := (hb23.cell (p := ⟨w.heap.size, 1, none⟩) hz0).trans T1.out; have s0 := (hb23.cell (p := ⟨w.heap.size + 1, 0, none⟩) hz).trans s0; have s1 := (hb23.cell (p := ⟨w.heap.size + 1, 1, none⟩) hz).trans s1) | (go_at_call 36; (with_reducible refine (HI.out _).mono ?_); rintro e w2 ⟨rfl, hb2⟩; have T0 := Lib.hid t0; have T1 := Lib.hid t1; have t0 := (hb2.cell (p := ⟨w.heap.size, 0, none⟩) hz0).trans t0; have t1 := (hb2.cell (p := ⟨w.heap.size, 1, none⟩) hz0).trans t1) | fail)
      go_ret
      have hb12 := Hb1.out.trans (hb2.mono Hb1.out.size)
      have hb13 := hb12.trans (hb3.mono hb12.size)
      exact ⟨_, rfl, o4.mono hb13.size, hb13.trans (hb4.mono hb13.size)⟩
end Go.Proofs.Ytgdcgdjlhljbiaa
