/- The walks of sweep.right, of cmp.Compare and cmp.Or at numbers, and of sweep.sorted. -/
import Derived.Test.YtahpcepnagpbdaaRunsO
import Derived.Test.YtahpcepnagpbdaaGrow
import Derived.Test.YtahpcepnagpbdaaOrd
namespace Go.Proofs.Ytahpcepnagpbdaa
open Go.RowKit Go.Shelf
open Go.Sort (grow SWO PermIn SortedIn Holds)

def rightB (l : List Sp) : Bool := decide (l.length ≤ 1000) && l.all okSpan
theorem sright1_c (p q : Int) (w : World) : Calls Try.prog 82 #[.agg #[.int .i64 p, .int .i64 q]] w (Ret w (.bool (!okSpan (p, q)))) := by
  cases ho : okSpan (p, q)
  all_goals
    go_enter Try.func82, Try.ntmps82
    go_wp2_with fail
    refine (ivValid_c _ _ _).mono ?_
    rw [ho]
    rintro e w1 ⟨rfl, hb⟩
    go_wp2
    go_ret
    exact ⟨rfl, ((Below.refl _ _).alloc (Nat.le_refl _) _).trans (hb.mono (by simp))⟩
theorem ent_sright1 : ∀ (args : Array Value) (w : World), Sem.run Try.prog (callFunc 82 args) w = .ok (.enter 82 args) w := fun _ _ => by kernel_rfl
theorem pred_sright1 (w : World) : PredBelow Try.prog 82 #[] (fun x => .agg (encSp x).toArray) (fun s => !okSpan s) w := fun W x hb =>
  (sright1_c x.1 x.2 W).mono fun _ _ ⟨he, hb'⟩ => ⟨he, hb.trans (hb'.mono hb.size)⟩
theorem sright_c (v : Value) (l : List Sp) (w : World) (hs : IsSpans w v l) : Calls Try.prog 44 #[v] w (Ret w (.bool (rightB l))) := by
  have hcon := slContainsSpan_c (fun s => !okSpan s) 82 #[] ent_sright1 v l w hs (pred_sright1 w)
  rw [show l.any (fun s => !okSpan s) = !l.all okSpan from by rw [List.not_all_eq_any_not]] at hcon
  obtain ⟨A, c, rfl, hnc, hc⟩ := hs.form
  by_cases h : l.length ≤ 1000
  · have e : rightB l = l.all okSpan := by rw [rightB, decide_eq_true h, Bool.true_and]
    rw [e]
    clear e
    generalize l.all okSpan = b at hcon ⊢
    have Hcon := Lib.hid hcon; clear hcon
    cases b
    all_goals
      go_enter Try.func44, Try.ntmps44
      go_wp2_with fail
      refine Hcon.out.mono ?_
      rintro e w1 ⟨rfl, hb⟩
      go_wp2
      go_ret
      exact ⟨rfl, hb⟩
  · have e : rightB l = false := by rw [rightB, decide_eq_false h]; rfl
    rw [e]
    clear e hcon
    go_enter Try.func44, Try.ntmps44
    go_wp2
    go_ret
    exact ⟨rfl, Below.refl _ _⟩

def cmpI (x y : Int) : Int := if x < y then -1 else if y < x then 1 else 0
theorem cmpCompare_c (x y : Int) (w : World) : Calls Try.prog 53 #[.int .i64 x, .int .i64 y] w fun e w' => e = .returned (.int .i64 (cmpI x y)) ∧ w = w' := by
  by_cases h1 : x < y
  · have e : cmpI x y = -1 := if_pos h1
    rw [e]; clear e
    go_enter Try.func53, Try.ntmps53
    go_wp2
    go_ret
    exact ⟨rfl, rfl⟩
  · by_cases h2 : y < x
    · have e : cmpI x y = 1 := by rw [cmpI, if_neg h1, if_pos h2]
      rw [e]; clear e
      go_enter Try.func53, Try.ntmps53
      go_wp2
      go_ret
      exact ⟨rfl, rfl⟩
    · have e : cmpI x y = 0 := by rw [cmpI, if_neg h1, if_neg h2]
      rw [e]; clear e
      obtain rfl : x = y := by omega
      clear h1 h2
      go_enter Try.func53, Try.ntmps53
      go_wp2
      go_ret
      exact ⟨rfl, rfl⟩

def orL : List Int → Int
  | [] => 0
  | x :: l => if x = 0 then orL l else x
theorem orL_at {l : List Int} {k : Nat} (hk : k < l.length) : orL (l.drop k) = if iv l k = 0 then orL (l.drop (k + 1)) else iv l k := by
  rw [List.drop_eq_getElem_cons hk, orL, iv_at hk]
theorem cmpOr_c (v : Value) (l : List Int) (w : World) (hs : IsInts w v l) : Calls Try.prog 85 #[v] w fun e w' => e = .returned (.int .i64 (orL l)) ∧ w = w' := by
  obtain ⟨A, c, rfl, hnc, hc⟩ := hs.form
  go_enter Try.func85, Try.ntmps85
  go_wp2
  go_loop [8] (fun i => ∃ k : Nat, k ≤ l.length ∧ i = .int .i64 k ∧ Hid (orL l = orL (l.drop k))) (fun i => l.length - (intOf i).toNat)
  case atStart => exact ⟨0, Nat.zero_le _, rfl, rfl⟩
  case round =>
    obtain ⟨k, hk, rfl, HL⟩ := hrel
    by_cases hlt : k < l.length
    · obtain ⟨b, off, rfl, hbl⟩ := hs.addr (by omega)
      have c0 := hs.c0 k hlt
      have hst := orL_at hlt
      rw [← HL.out] at hst
      generalize iv l k = x at *
      by_cases hx : x = 0
      · rw [if_pos hx] at hst
        subst hx
        have Hst := Lib.hid hst; clear hst
        go_wp2
        go_round
        case rel => exact ⟨k + 1, by omega, by go_num, Hst.out⟩
        case measure => simp [intOf]; omega
      · rw [if_neg hx] at hst
        have Hst := Lib.hid hst; clear hst
        have hx' : (x != 0) = true := by simpa using hx
        clear hx
        go_wp2
        go_ret
        exact ⟨ret_int Hst.out.symm, rfl⟩
    · obtain rfl : k = l.length := by omega
      have h0 : orL l = 0 := by rw [HL.out, List.drop_length]; rfl
      have H0 := Lib.hid h0; clear h0
      go_wp2
      go_ret
      exact ⟨ret_int H0.out.symm, rfl⟩

/-! ### sorted -/
def orI (a b : Int) : Int := if a = 0 then b else a
theorem orL_two (a b : Int) : orL [a, b] = orI a b := by
  unfold orI orL orL orL
  split
  · split
    · rename_i h; rw [h]
    · rfl
  · rfl
/-- What the comparison of two indices answers. -/
def cmpK (key : Nat → Int) (i k : Nat) : Int := orI (cmpI (key i) (key k)) (cmpI (i : Int) (k : Int))
theorem cmpK_lt (key : Nat → Int) (i k : Nat) : decide (cmpK key i k < 0) = true ↔ lexLt key i k := by
  rw [decide_eq_true_iff]
  unfold cmpK orI cmpI lexLt
  repeat' split
  all_goals omega
/-- A closure that tells a key of a span. -/
def KeyFn (g : FuncId) (key : Sp → Int) : Prop := (∀ (args : Array Value) (w : World), Sem.run Try.prog (callFunc g args) w = .ok (.enter g args) w) ∧ ∀ p q w, Calls Try.prog g #[.agg #[.int .i64 p, .int .i64 q]] w (Grown w (.int .i64 (key (p, q))))
theorem ints_lit {w : World} {cs : Array Value} {t : TypeId} (b : Nat) (l : List Int) (n : Nat) (hb : w.heap.size = b) (hn : n = l.length) (hc : cs.toList = flatI l) (hl : n ≤ 1000000) : IsInts (w.alloc (.cells cs t)) (.slice (some ⟨b, 0, none⟩) n n) l := by
  subst hn hb
  refine ⟨_, l.length, rfl, Nat.le_refl _, by omega, fun _ => ⟨w.heap.size, 0, rfl, by simp, fun i j hi hj => ?_⟩⟩
  obtain rfl : j = 0 := by omega
  have e : cs = (flatI l).toArray := by rw [← hc]
  subst e
  have := flatI_get l i hi
  simp [this, intCell]
set_option maxRecDepth 100000 in
theorem ssorted1_c (g : FuncId) (key : Sp → Int) (hg : KeyFn g key) (v : Value) (l : List Sp) (b5 b3 : Nat) (w : World) (hs : IsSpans w v l) (hf : w.cell? ⟨b5, 0, none⟩ = some (.func (.func g) #[] #[])) (hv : w.cell? ⟨b3, 0, none⟩ = some v)
    (hb5 : b5 < w.heap.size) (hb3 : b3 < w.heap.size) (i k : Nat) (hi : i < l.length) (hk : k < l.length) :
    Calls Try.prog 84 #[.int .i64 i, .int .i64 k, .pointer (some ⟨b5, 0, none⟩), .pointer (some ⟨b3, 0, none⟩)] w (Grown w (.int .i64 (cmpK (fun j => key (sp l j)) i k))) := by
  obtain ⟨A, c, rfl, hnc, hc⟩ := hs.form
  obtain ⟨b, off, rfl, hb⟩ := hs.addr (by omega)
  obtain ⟨eg, hg⟩ := hg
  have Hg := Lib.hid hg; clear hg
  have e1 := fun x : GW w => gw_cell x hf hb5
  have e2 := fun x : GW w => gw_cell x hv hb3
  have e3 := fun x : GW w => gw_cell x (hs.c0 i hi) hb
  have e4 := fun x : GW w => gw_cell x (hs.c1 i hi) hb
  have e5 := fun x : GW w => gw_cell x (hs.c0 k hk) hb
  have e6 := fun x : GW w => gw_cell x (hs.c1 k hk) hb
  have hcmp : ∀ x y (W : World), Calls Try.prog 53 #[.int .i64 x, .int .i64 y] W (Grown W (.int .i64 (cmpI x y))) := fun x y W => (cmpCompare_c x y W).mono fun _ _ ⟨he, hw⟩ => ⟨he, hw ▸ grown_same W⟩
  have Hcmp := Lib.hid hcmp; clear hcmp
  obtain ⟨r, hr⟩ : ∃ r, r = cmpK (fun j => key (sp l j)) i k := ⟨_, rfl⟩
  rw [← hr]
  have Hr := Lib.hid hr; clear hr hf hv
  go_enter Try.func84, Try.ntmps84
  go_wp2_with fail
  refine wp_region_grown_tail 16 (by kernel_rfl) (by kernel_rfl) ?_
  simp only [List.take_succ_cons, List.take_zero, List.drop_succ_cons, List.drop_zero]
  repeat (go_big_quiet_step (first | exact calls_gw _ (Hg.out _ _ _) | (go_at_call 53; exact calls_gw _ (Hcmp.out _ _ _))))
  refine wpQuiet_nil ?_
  rintro w1 ⟨⟨_, hgr⟩, rfl⟩
  have hr2 : r = orI (cmpI (key (fr l i, tt l i)) (key (fr l k, tt l k))) (cmpI (i : Int) (k : Int)) := Hr.out
  generalize cmpI (key (fr l i, tt l i)) (key (fr l k, tt l k)) = a1 at *
  generalize cmpI (i : Int) (k : Int) = a2 at *
  have Hr2 := Lib.hid hr2; clear hr2 Hr e1 e2 e3 e4 e5 e6
  have Hgr := Lib.hid hgr; clear hgr
  go_wp2_with fail
  refine (cmpOr_c _ [a1, a2] _ (ints_lit w1.heap.size [a1, a2] 2 rfl rfl rfl (by omega))).mono ?_
  rintro e w2 ⟨rfl, rfl⟩
  go_wp2
  go_ret
  exact ⟨ret_int (by rw [orL_two]; exact Hr2.out.symm), grown_trans Hgr.out (grown_alloc _ _)⟩

/-- Indices handed back. -/
def IdxRet (w : World) (S : List Nat → Prop) (e : Ending) (w' : World) : Prop := ∃ M v', S M ∧ e = .returned v' ∧ IsInts w' v' (idx M) ∧ Below w.heap.size w w'
theorem ent_ssorted1 : ∀ (args : Array Value) (w : World), Sem.run Try.prog (callFunc 84 args) w = .ok (.enter 84 args) w := fun _ _ => by kernel_rfl
theorem lex_total {key : Nat → Int} {a b : Nat} (h : ¬ lexLt key b a) (hne : a ≠ b) : lexLt key a b := by
  unfold lexLt at *; omega
abbrev IxOf (n : Nat) := {i : Nat // i < n}
def encX {n : Nat} (x : IxOf n) : Value := .int .i64 (x.1 : Int)
theorem swoK (key : Nat → Int) (n : Nat) : SWO (ltOf fun x y : IxOf n => cmpK key x.1 y.1) where
  irrefl x := by
    rw [Bool.eq_false_iff]; intro h
    have h := (cmpK_lt key x.1 x.1).1 h
    unfold lexLt at h; omega
  trans x y z h1 h2 := by
    have h1 := (cmpK_lt key x.1 y.1).1 h1
    have h2 := (cmpK_lt key y.1 z.1).1 h2
    exact (cmpK_lt key x.1 z.1).2 (lex_trans h1 h2)
  ntrans x y z h1 h2 := by
    rw [Bool.eq_false_iff] at *
    intro h
    have h := (cmpK_lt key x.1 z.1).1 h
    have h1 : ¬ lexLt key x.1 y.1 := fun k => h1 ((cmpK_lt key x.1 y.1).2 k)
    have h2 : ¬ lexLt key y.1 z.1 := fun k => h2 ((cmpK_lt key y.1 z.1).2 k)
    unfold lexLt at *; omega
theorem flatI_enc {n : Nat} (L : List (IxOf n)) : L.flatMap (fun x => [encX x]) = flatI (idx (L.map (·.1))) := by
  unfold flatI idx
  rw [List.map_map, List.map_map]
  induction L with
  | nil => rfl
  | cons x L ih => rw [List.flatMap_cons, ih]; rfl
theorem own_formI {w : World} {base : Nat} {e : TypeId} {v : Value} {L : List Int} (h : w.ownsRow base e 1 v L.length (flatI L)) (hr : 0 < L.length) : ∃ g cap, v = .slice (some ⟨g, 0, none⟩) L.length cap ∧ base ≤ g ∧ g < w.heap.size ∧ L.length ≤ cap ∧ cap ≤ 9223372036854775807 := by
  rcases h.2 with ⟨_, h0⟩ | ⟨g, cap, cur, rfl, hb, hg, hnc, hcm, _⟩
  · omega
  · exact ⟨g, cap, rfl, hb, (Array.getElem?_eq_some_iff.1 hg).1, hnc, by simp only [maxLen] at hcm; omega⟩
set_option maxHeartbeats 1000000 in
theorem slSortIdx_c (g : FuncId) (key : Sp → Int) (hg : KeyFn g key) (v : Value) (l : List Sp) (b5 b3 : Nat) (w0 w : World) (hb : Below w0.heap.size w0 w) (hs : IsSpans w0 v l) (hf : w0.cell? ⟨b5, 0, none⟩ = some (.func (.func g) #[] #[]))
    (hv : w0.cell? ⟨b3, 0, none⟩ = some v) (hb5 : b5 < w0.heap.size) (hb3 : b3 < w0.heap.size) (v7 : Value) (L : List Nat) (hown : w.ownsRow w0.heap.size 3 1 v7 L.length (flatI (idx L))) (hL : ∀ i ∈ L, i < l.length) (hnd : L.Nodup)
    (hll : L.length ≤ 100000000) :
    Calls Try.prog 83 #[v7, .func (.func 84) #[] #[.pointer (some ⟨b5, 0, none⟩), .pointer (some ⟨b3, 0, none⟩)]] w fun e w' =>
      e = .returned (.tuple #[]) ∧ ∃ M, OrdOf (fun j => key (sp l j)) L M ∧ w'.ownsRow w0.heap.size 3 1 v7 M.length (flatI (idx M)) ∧ Below w0.heap.size w w' := by
  by_cases h0 : 0 < L.length
  · have hown' := hown
    rw [← idx_len] at hown'
    obtain ⟨gr, cap, rfl, hgb, hglt, hcap, hcm⟩ := own_formI hown' (by rw [idx_len]; exact h0)
    rw [idx_len] at hown' hcap hown ⊢
    haveI : Inhabited (IxOf l.length) := ⟨⟨L[0], hL _ (List.getElem_mem _)⟩⟩
    obtain ⟨L0, hL0⟩ : ∃ L0 : List (IxOf l.length), L0.map (·.1) = L := ⟨L.attach.map fun s => ⟨s.1, hL s.1 s.2⟩, by rw [List.map_map]; exact List.attach_map_subtype_val L⟩
    have hlen : L0.length = L.length := by rw [← hL0]; simp
    have hown2 : w.ownsRow w0.heap.size 3 1 (.slice (some ⟨gr, 0, none⟩) L.length cap) L.length (L0.flatMap fun x => [encX x]) := by
      rw [flatI_enc, hL0]; exact hown
    obtain ⟨hH, hblk, _⟩ := holdsK_own (enc := fun x => [encX x]) (k := 1) (fun _ => rfl) hown2
    rw [holds_one] at hH
    have hcmp : CmpLays1 Try.prog 84 #[.pointer (some ⟨b5, 0, none⟩), .pointer (some ⟨b3, 0, none⟩)] encX (fun x y : IxOf l.length => cmpK (fun j => key (sp l j)) x.1 y.1) gr 0 L0.toArray.size w := fun m os dk hdk x y => by
      rw [sortWorld_one]
      have hbW := hb.trans (own_sorted (enc := fun x => [encX x]) (k := 1) (fun _ => rfl) hown2 m os dk (by simpa using hdk)).2
      exact ssorted1_c g key hg v l b5 b3 _ (hs.below hbW) ((hbW.cell (p := ⟨b5, 0, none⟩) hb5).trans hf) ((hbW.cell (p := ⟨b3, 0, none⟩) hb3).trans hv) (Nat.lt_of_lt_of_le hb5 hbW.size) (Nat.lt_of_lt_of_le hb3 hbW.size) x.1 y.1 x.2 y.2
    have hcon := Any.slices_SortFunc lay_sortInt encX (fun _ => rfl) (fun x y : IxOf l.length => cmpK (fun j => key (sp l j)) x.1 y.1) (swoK _ _) 84 #[.pointer (some ⟨b5, 0, none⟩), .pointer (some ⟨b3, 0, none⟩)] gr 0 cap L0.toArray w ent_ssorted1
      hcmp hH hblk (by simp; omega)
    change Calls Try.prog 83 _ _ _ at hcon
    have hsz : L0.toArray.size = L.length := by simpa using hlen
    rw [hsz] at hcon
    refine hcon.mono ?_
    rintro e w' ⟨rfl, d', n, os, hp, hsd, rfl⟩
    rw [← hsz] at hp
    have hd : d'.size = L0.length := by have := hp.1; simpa using this
    rw [sortWorld_one]
    obtain ⟨o1, o2⟩ := own_sorted (enc := fun x => [encX x]) (k := 1) (fun _ => rfl) hown2 n os d' hd
    have hpm : (d'.toList.map (·.1)).Perm L := by rw [← hL0]; exact (permIn_all hp).map _
    refine ⟨rfl, d'.toList.map (·.1), ⟨hpm, ?_⟩, ?_, o2⟩
    · have hnd' := hpm.nodup_iff.2 hnd
      rw [List.pairwise_iff_getElem]
      intro i j hi hj hij
      simp only [List.length_map, Array.length_toList] at hi hj
      have h1 := hsd i j (Nat.zero_le _) hij (by omega)
      rw [getElem!_pos d' j hj, getElem!_pos d' i hi, Bool.eq_false_iff] at h1
      simp only [List.getElem_map, Array.getElem_toList]
      refine lex_total (fun k => h1 ((cmpK_lt _ _ _).2 k)) ?_
      have h2 := (List.pairwise_iff_getElem.1 hnd') i j (by simpa using hi) (by simpa using hj) hij
      simpa using h2
    · rw [← flatI_enc, hpm.length_eq]; exact o1
  · obtain rfl : L = [] := List.length_eq_zero_iff.1 (by omega)
    obtain ⟨A, cap, rfl⟩ : ∃ A cap, v7 = .slice A 0 cap := by
      rcases hown.2 with ⟨h, _⟩ | ⟨g, cap, cur, h, _⟩
      · exact ⟨_, _, h⟩
      · exact ⟨_, _, h⟩
    have hcon := AnyF.slices_SortFunc_none { lay_sortInt with } A cap (.func (.func 84) #[] #[.pointer (some ⟨b5, 0, none⟩), .pointer (some ⟨b3, 0, none⟩)]) w
    change Calls Try.prog 83 _ _ _ at hcon
    refine hcon.mono ?_
    rintro e w' ⟨rfl, rfl⟩
    exact ⟨rfl, [], ord_nil _, hown, Below.refl _ _⟩
end Go.Proofs.Ytahpcepnagpbdaa
