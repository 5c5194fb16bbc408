/- Law 42: slices.SortFunc at entries; index.built and index.Build. -/
import Derived.Test.YtgdcgdjlhljbiaaIdxL
import Derived.Test.YtgdcgdjlhljbiaaIdxA
namespace Go.Proofs.Ytgdcgdjlhljbiaa
open Go.RowKit Go.Shelf
open Go.Sort (grow SWO PermIn SortedIn Holds)

def encE (x : En) : List Value := [.int .i64 x.1, .int .i64 x.2.1, .int .i64 x.2.2]
theorem flatE_enc (L : List En) : L.flatMap encE = flatE L := rfl
theorem ltE (x y : En) : ltOf cmpE x y = decide (enLt x y) := cmpE_lt x y
theorem swoE : SWO (ltOf cmpE) where
  irrefl x := by rw [ltE]; simp [enLt_irrefl]
  trans x y z h1 h2 := by rw [ltE] at *; simp at *; exact enLt_trans h1 h2
  ntrans x y z h1 h2 := by rw [ltE] at *; simp at *; unfold enLt at *; omega
theorem ent_xcompare : ∀ (args : Array Value) (w : World), Sem.run Try.prog (callFunc 52 args) w = .ok (.enter 52 args) w := fun _ _ => by kernel_rfl
instance en_inh : Inhabited En := ⟨(0, 0, 0)⟩
/-- The list sorted in place. -/
def SortERet (base : Nat) (w : World) (v : Value) (l : List En) (e : Ending) (w' : World) : Prop :=
  e = .returned (.tuple #[]) ∧ ∃ M, M.Perm l ∧ M.Pairwise (fun x y => ¬ enLt y x) ∧ OwnsE w' base 75 v M ∧ Below base w w'
theorem own_formE {w : World} {base : Nat} {t : TypeId} {v : Value} {L : List En} (h : OwnsE w base t v L) (hr : 0 < L.length) : ∃ g cap, v = .slice (some ⟨g, 0, none⟩) L.length cap ∧ base ≤ g ∧ g < w.heap.size ∧ L.length ≤ cap ∧ cap ≤ 9223372036854775807 := by
  rcases h.2 with ⟨_, h0⟩ | ⟨g, cap, cur, rfl, hb, hg, hnc, hcm, _⟩
  · omega
  · exact ⟨g, cap, rfl, hb, (Array.getElem?_eq_some_iff.1 hg).1, hnc, by simp only [maxLen] at hcm; omega⟩
set_option maxHeartbeats 1000000 in
theorem slSortEntry_c (v : Value) (l : List En) (w : World) (base : Nat) (hown : OwnsE w base 75 v l) (hl : l.length ≤ 100000000) :
    Calls Try.prog 51 #[v, .func (.func 52) #[] #[]] w (SortERet base w v l) := by
  by_cases h0 : 0 < l.length
  · obtain ⟨g, cap, rfl, hgb, hglt, hcap, hcm⟩ := own_formE hown h0
    have hown2 : w.ownsRow base 75 3 (.slice (some ⟨g, 0, none⟩) l.length cap) l.length (l.flatMap encE) := hown
    obtain ⟨hH, hblk, _⟩ := holdsK_own (enc := encE) (k := 3) (fun _ => rfl) hown2
    have hcon := AnyQ.slices_SortFunc lay_sortEntry 3 Try.isAgg75 Try.sizeOf75 encE (fun _ => rfl) (fun x u hu => by simp [encE] at hu; rcases hu with rfl | rfl | rfl <;> rfl) cmpE swoE 52 #[] g 0 cap l.toArray w ent_xcompare
      (fun _ _ _ _ x y => xcompare_c x y _) hH hblk (by simp; omega)
    change Calls Try.prog 51 _ _ _ at hcon
    have hsz : l.toArray.size = l.length := by simp
    rw [hsz] at hcon
    refine hcon.mono ?_
    rintro e w' ⟨rfl, d', n, os, hp, hs, rfl⟩
    rw [← hsz] at hp
    have hd : d'.size = l.length := by have := hp.1; simpa using this
    obtain ⟨o1, o2⟩ := own_sorted (enc := encE) (k := 3) (fun _ => rfl) hown2 n os d' hd
    have hpm : d'.toList.Perm l := permIn_all hp
    refine ⟨rfl, d'.toList, hpm, ?_, ?_, o2⟩
    · rw [List.pairwise_iff_getElem]
      intro i j hi hj hij
      have h1 := hs i j (Nat.zero_le _) hij (by simpa [hd] using hj)
      rw [ltE, getElem!_pos d' j (by simpa using hj), getElem!_pos d' i (by simpa using hi)] at h1
      simp only [Array.getElem_toList]
      simpa using h1
    · unfold OwnsE; rw [← flatE_enc, hpm.length_eq]; exact o1
  · obtain rfl : l = [] := List.length_eq_zero_iff.1 (by omega)
    obtain ⟨A, cap, rfl⟩ : ∃ A cap, v = .slice A 0 cap := by
      rcases hown.2 with ⟨h, _⟩ | ⟨g, cap, cur, h, _⟩
      · exact ⟨_, _, h⟩
      · exact ⟨_, _, h⟩
    have hcon := AnyF.slices_SortFunc_none lay_sortEntry A cap (.func (.func 52) #[] #[]) w
    change Calls Try.prog 51 _ _ _ at hcon
    refine hcon.mono ?_
    rintro e w' ⟨rfl, rfl⟩
    exact ⟨rfl, [], List.Perm.nil, List.Pairwise.nil, hown, Below.refl _ _⟩
theorem OwnsN.kept {w w' : World} {base : Nat} {v : Value} {N : List Nd} (h : OwnsN w base v N) (hk : ∀ g n cap, v = .slice (some ⟨g, 0, none⟩) n cap → w'.heap[g]? = w.heap[g]?) : OwnsN w' base v N := by
  refine ⟨h.1, h.2.imp id ?_⟩
  rintro ⟨g, cap, cur, hv, hg, hh, r⟩
  exact ⟨g, cap, cur, hv, hg, (hk g _ cap hv).trans hh, r⟩
/-- A tree that the call made. -/
def TreeRet (w : World) (l : List En) (e : Ending) (w' : World) : Prop :=
  ∃ A cap N r, e = .returned (.agg #[.slice A N.length cap, .int .i64 r]) ∧ GrowOk l [] N r ∧ OwnsN w' w.heap.size (.slice A N.length cap) N ∧ Below w.heap.size w w'
set_option maxRecDepth 100000 in
set_option maxHeartbeats 2000000 in
theorem xbuilt_c (lv : Value) (l : List En) (w : World) (hl : IsEnts w lv l) (hok : ∀ e ∈ l, okSpan (e.1, e.2.1) = true) (hlen : l.length ≤ 100000) : Calls Try.prog 53 #[lv] w (TreeRet w l) := by
  obtain ⟨Al, cl, rfl, _, _⟩ := hl.form
  have hb1 := (Below.refl w.heap.size w).alloc (Nat.le_refl _) (.cells #[.slice none 0 0, .int .i64 0] 24)
  have hz1 : (w.alloc (.cells #[.slice none 0 0, .int .i64 0] 24)).heap.size = w.heap.size + 1 := by simp
  have hR : (w.alloc (.cells #[.slice none 0 0, .int .i64 0] 24)).heap[w.heap.size]? = some (.cells #[.slice none 0 0, .int .i64 0] 24 (0, 0)) := heap_alloc_new w _
  have hb2 := (Below.refl (w.alloc (.cells #[.slice none 0 0, .int .i64 0] 24)).heap.size (w.alloc (.cells #[.slice none 0 0, .int .i64 0] 24))).alloc (Nat.le_refl _) (.cells #[.slice none 0 0, .int .i64 (-1)] 24)
  have ht2 : TreeAt ((w.alloc (.cells #[.slice none 0 0, .int .i64 0] 24)).alloc (.cells #[.slice none 0 0, .int .i64 (-1)] 24)) (w.heap.size + 1) (.slice none 0 0) := by
    have := heap_alloc_new (w.alloc (.cells #[.slice none 0 0, .int .i64 0] 24)) (.cells #[.slice none 0 0, .int .i64 (-1)] 24)
    rwa [hz1] at this
  have hl1 := hl.below hb1
  have hb12 : Below w.heap.size w ((w.alloc (.cells #[.slice none 0 0, .int .i64 0] 24)).alloc (.cells #[.slice none 0 0, .int .i64 (-1)] 24)) := hb1.trans (hb2.mono (by rw [hz1]; omega))
  have hz2 : ((w.alloc (.cells #[.slice none 0 0, .int .i64 0] 24)).alloc (.cells #[.slice none 0 0, .int .i64 (-1)] 24)).heap.size = w.heap.size + 2 := by simp
  have hg := xgrow_c (w.alloc (.cells #[.slice none 0 0, .int .i64 0] 24)) (w.heap.size + 1) (by rw [hz1]; omega) l.length l (.slice Al l.length cl) (.slice none 0 0) [] ((w.alloc (.cells #[.slice none 0 0, .int .i64 0] 24)).alloc (.cells #[.slice none 0 0, .int .i64 (-1)] 24)) (Nat.le_refl _) hl1 hb2 ht2 OwnsN.nil (by simp [Value.ownBlock]) hok (by simpa using hlen)
  have hR2 : ((w.alloc (.cells #[.slice none 0 0, .int .i64 0] 24)).alloc (.cells #[.slice none 0 0, .int .i64 (-1)] 24)).heap[w.heap.size]? = some (.cells #[.slice none 0 0, .int .i64 0] 24 (0, 0)) := (hb2.block _ (by rw [hz1]; omega)).trans hR
  have Hg := Lib.hid hg; have HR := Lib.hid hR2; have Hb := Lib.hid hb12; have Hz1 := Lib.hid hz1
  clear hg hR hR2 hb12 hb2 hz2 ht2 hl1 hb1 hl hok hlen hz1
  go_enter Try.func53, Try.ntmps53
  go_wp2_with fail
  refine Hg.out.mono ?_
  rintro e w3 ⟨r, v3, N3, rfl, g3, t3, o3, hne3, b3⟩
  have hz1 := Hz1.out
  rw [hz1] at b3 o3
  obtain ⟨A3, cap3, rfl⟩ := o3.form0
  have hR3 : w3.heap[w.heap.size]? = some (.cells #[.slice none 0 0, .int .i64 0] 24 (0, 0)) := (b3.block _ (by omega)).trans HR.out
  have q0 := t3.c0
  have q1 := t3.c1
  have q2 := t3.fz 1
  have r0 : w3.cell? ⟨w.heap.size, 0, none⟩ = some (.slice none 0 0) := by simp [World.cell?, hR3]
  have r1 : w3.cell? ⟨w.heap.size, 1, none⟩ = some (.int .i64 0) := by simp [World.cell?, hR3]
  have r2 : w3.frozen? ⟨w.heap.size, 0, none⟩ = false := by simp [World.frozen?, hR3]
  have r3 : w3.frozen? ⟨w.heap.size, 1, none⟩ = false := by simp [World.frozen?, hR3]
  have hb3 : Below w.heap.size w w3 := Hb.out.trans (b3.mono (by omega))
  have hne : ∀ g cap, (.slice A3 N3.length cap3 : Value) = .slice (some ⟨g, 0, none⟩) N3.length cap → g ≠ w.heap.size ∧ g ≠ w.heap.size + 1 := fun g cap e => by
    constructor
    · intro h
      rcases o3.2 with ⟨e2, h0⟩ | ⟨g', cap', cur, e2, hg', _⟩
      · rw [e] at e2; cases e2
      · rw [e] at e2
        injection e2 with e3
        injection e3 with e3
        injection e3 with e3
        omega
    · intro h
      rw [e, h] at hne3
      exact hne3 rfl
  have Ho3 := Lib.hid o3; have Hb3 := Lib.hid hb3; have Hne := Lib.hid hne; have Hg3 := Lib.hid g3
  have HR3 := Lib.hid hR3
  clear o3 hb3 hne g3 hR3 t3 hne3 b3 hz1 Hz1 HR Hb Hg
  go_wp2_with fail
  have hF : (((w3.setCell ⟨w.heap.size + 1, 1, none⟩ (.int .i64 r)).setCell ⟨w.heap.size, 0, none⟩ (.slice A3 N3.length cap3)).setCell ⟨w.heap.size, 1, none⟩ (.int .i64 r)).heap[w.heap.size]? = some (.cells #[.slice A3 N3.length cap3, .int .i64 r] 24 (0, 0)) := by
    have := HR3.out
    simp [World.setCell, Array.getElem?_modify, this]
  have F0 : (((w3.setCell ⟨w.heap.size + 1, 1, none⟩ (.int .i64 r)).setCell ⟨w.heap.size, 0, none⟩ (.slice A3 N3.length cap3)).setCell ⟨w.heap.size, 1, none⟩ (.int .i64 r)).cell? ⟨w.heap.size, 0, none⟩ = some (.slice A3 N3.length cap3) := by simp [World.cell?, hF]
  have F1 : (((w3.setCell ⟨w.heap.size + 1, 1, none⟩ (.int .i64 r)).setCell ⟨w.heap.size, 0, none⟩ (.slice A3 N3.length cap3)).setCell ⟨w.heap.size, 1, none⟩ (.int .i64 r)).cell? ⟨w.heap.size, 1, none⟩ = some (.int .i64 r) := by simp [World.cell?, hF]
  clear q0 q1 q2 r0 r1 r2 r3 hF
  have hown : OwnsN (((w3.setCell ⟨w.heap.size + 1, 1, none⟩ (.int .i64 r)).setCell ⟨w.heap.size, 0, none⟩ (.slice A3 N3.length cap3)).setCell ⟨w.heap.size, 1, none⟩ (.int .i64 r)) w.heap.size (.slice A3 N3.length cap3) N3 := (Ho3.out.mono (by omega)).kept fun g n cap e => by
    have e2 : n = N3.length := by injection e with _ e _; exact e.symm
    subst e2
    obtain ⟨n1, n2⟩ := Hne.out g cap e
    exact ((Below.heap_setCell _ _ _ _ n1).trans (Below.heap_setCell _ _ _ _ n1)).trans (Below.heap_setCell _ _ _ _ n2)
  have hbF := ((Hb3.out.setCell (p := ⟨w.heap.size + 1, 1, none⟩) (by simp) (.int .i64 r)).setCell (p := ⟨w.heap.size, 0, none⟩) (Nat.le_refl _) (.slice A3 N3.length cap3)).setCell (p := ⟨w.heap.size, 1, none⟩) (Nat.le_refl _) (.int .i64 r)
  generalize (((w3.setCell ⟨w.heap.size + 1, 1, none⟩ (.int .i64 r)).setCell ⟨w.heap.size, 0, none⟩ (.slice A3 N3.length cap3)).setCell ⟨w.heap.size, 1, none⟩ (.int .i64 r)) = wF at *
  refine bodyPost_ret (by simp [results, Try.results53, go_sem, F0, F1]; try rfl) rfl ?_
  exact ⟨A3, cap3, N3, r, rfl, Hg3.out, hown, hbF⟩
end Go.Proofs.Ytgdcgdjlhljbiaa
