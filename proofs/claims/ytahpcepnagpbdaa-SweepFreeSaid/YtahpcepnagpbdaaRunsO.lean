/- The walks of slices.ContainsFunc and slices.SortFunc at spans, and of the closures of runs.Of. -/
import Derived.Test.YtahpcepnagpbdaaLayA
import Derived.Test.YtahpcepnagpbdaaSortK
import Derived.Test.YtahpcepnagpbdaaOfP
import Derived.Test.YtahpcepnagpbdaaRunsM
import Derived.Shelf.SlSortCmp.NoneTotal
namespace Go.Proofs.Ytahpcepnagpbdaa
open Go.RowKit Go.Shelf
open Go.Sort (HoldsK SWO PermIn SortedIn grow alloc_eq_grow grow_grow)

def encSp (x : Sp) : List Value := [.int .i64 x.1, .int .i64 x.2]
theorem rOf1_c (p q : Int) (w : World) : Calls Try.prog 70 #[.agg #[.int .i64 p, .int .i64 q]] w (Ret w (.bool (!okSpan (p, q)))) := by
  cases ho : okSpan (p, q)
  all_goals
    go_enter Try.func70, Try.ntmps70
    go_wp2_with fail
    refine (ivValid_c _ _ _).mono ?_
    rw [ho]
    rintro e w1 ⟨rfl, hb⟩
    go_wp2
    go_ret
    exact ⟨rfl, ((Below.refl _ _).alloc (Nat.le_refl _) _).trans (hb.mono (by simp))⟩
theorem ent_rOf1 : ∀ (args : Array Value) (w : World), Sem.run Try.prog (callFunc 70 args) w = .ok (.enter 70 args) w := fun _ _ => by kernel_rfl
theorem ent_rOf2 : ∀ (args : Array Value) (w : World), Sem.run Try.prog (callFunc 73 args) w = .ok (.enter 73 args) w := fun _ _ => by kernel_rfl

theorem slIndexSpan_none (A : Option Addr) (c : Nat) (fv : Value) (w : World) : Calls Try.prog 93 #[.slice A 0 c, fv] w fun e w' => e = .returned (.int .i64 (-1)) ∧ w = w' := by
  go_enter Try.func93, Try.ntmps93
  go_wp2
  go_loop [8] (fun i => i = .int .i64 0) (fun _ => 0)
  case atStart => exact rfl
  case round =>
    subst hrel
    go_wp2
    go_ret
    exact ⟨rfl, rfl⟩
/-- slices.ContainsFunc at spans, for any closure that makes memory only. -/
theorem slContainsSpan_c (p : Sp → Bool) (g : FuncId) (lb : Array Value) (eg : ∀ (args : Array Value) (w : World), Sem.run Try.prog (callFunc g args) w = .ok (.enter g args) w) (v : Value) (l : List Sp) (w : World) (hs : IsSpans w v l)
    (hp : PredBelow Try.prog g lb (fun x => .agg (encSp x).toArray) p w) : Calls Try.prog 69 #[v, .func (.func g) #[] lb] w (Ret w (.bool (l.any p))) := by
  obtain ⟨A, c, rfl, hnc, hc⟩ := hs.form
  by_cases h0 : 0 < l.length
  · obtain ⟨b, off, rfl, hb⟩ := hs.addr h0
    have hcon := AnyQ.slices_ContainsFunc lay_containsSpan 2 Try.isAgg31 Try.sizeOf31 encSp (fun _ => rfl) p g lb eg b off l.length c l w hp (Nat.le_refl _) (by omega) hb (fun j hj i u hu => by
      have h1 := RowsIn.cells hs j i hj (by
        rcases Nat.lt_or_ge i 2 with h | h
        · exact h
        · rw [List.getElem?_eq_none (by simp [encSp]; omega)] at hu; cases hu)
      rw [h1, ← hu]
      rw [getElem!_pos l j hj, sp_at l j hj]
      match i, hu with
      | 0, _ => rfl
      | 1, _ => rfl
      | i + 2, hu => simp [encSp] at hu)
    change Calls Try.prog 69 _ _ _ at hcon
    rw [List.take_length] at hcon
    exact hcon
  · obtain rfl : l = [] := List.length_eq_zero_iff.1 (by omega)
    clear hp hs
    go_enter Try.func69, Try.ntmps69
    go_wp2_with fail
    refine (slIndexSpan_none _ _ _ _).mono ?_
    rintro e w1 ⟨rfl, rfl⟩
    go_wp2
    go_ret
    exact ⟨rfl, Below.refl _ _⟩
theorem pred_rOf1 (w : World) : PredBelow Try.prog 70 #[] (fun x => .agg (encSp x).toArray) (fun s => !okSpan s) w := fun W x hb =>
  (rOf1_c x.1 x.2 W).mono fun _ _ ⟨he, hb'⟩ => ⟨he, hb.trans (hb'.mono hb.size)⟩

/-! ### the sort -/
abbrev OkS := {s : Sp // OkSp s}
instance okS_inh : Inhabited OkS := ⟨⟨(0, 1), by unfold OkSp; omega⟩⟩
def encS (x : OkS) : List Value := encSp x.1
def cfS (x y : OkS) : Int := x.1.1 - y.1.1
theorem ltS (x y : OkS) : ltOf cfS x y = decide (x.1.1 < y.1.1) := by
  unfold ltOf cfS
  rw [decide_eq_decide]; omega
theorem swoS : SWO (ltOf cfS) where
  irrefl x := by rw [ltS]; simp
  trans x y z h1 h2 := by rw [ltS] at *; simp at *; omega
  ntrans x y z h1 h2 := by rw [ltS] at *; simp at *; omega
theorem rOf2_c (x y : OkS) (W : World) : Calls Try.prog 73 #[.agg (encS x).toArray, .agg (encS y).toArray] W fun e w' => e = .returned (.int .i64 (cfS x y)) ∧ ∃ q os', w' = grow (W.drewN q) os' := by
  obtain ⟨⟨a, b⟩, ha1, ha2, ha3⟩ := x
  obtain ⟨⟨c, d⟩, hc1, hc2, hc3⟩ := y
  simp only at ha1 ha2 ha3 hc1 hc2 hc3
  simp only [encS, encSp, cfS]
  go_enter Try.func73, Try.ntmps73
  go_wp2
  go_ret
  exact ⟨rfl, 0, _, by rw [alloc_eq_grow, alloc_eq_grow, grow_grow]; rfl⟩
theorem flat_enc (L : List OkS) : L.flatMap encS = flat (L.map (·.1)) := by
  unfold flat
  rw [List.flatMap_map]
  rfl
/-- The list sorted in place. -/
def SortRet (base : Nat) (w : World) (v : Value) (l : List Sp) (e : Ending) (w' : World) : Prop :=
  e = .returned (.tuple #[]) ∧ ∃ L, L.Perm l ∧ L.Pairwise (fun s t => s.1 ≤ t.1) ∧ w'.ownsRow base 31 2 v l.length (flat L) ∧ Below base w w'
theorem permIn_all {α : Type} [Inhabited α] {d d' : Array α} (h : PermIn 0 d.size d d') : d'.toList.Perm d.toList := by
  have h1 := h.2.2
  have h2 := h.1
  rw [Array.extract_size] at h1
  rw [← h2, Array.extract_size] at h1
  exact h1
theorem sorted_pw {L : Array OkS} (h : SortedIn (ltOf cfS) 0 L.size L) : (L.toList.map (·.1)).Pairwise (fun s t => s.1 ≤ t.1) := by
  rw [List.pairwise_map, List.pairwise_iff_getElem]
  intro i j hi hj hij
  have := h i j (Nat.zero_le _) hij (by simpa using hj)
  rw [ltS, getElem!_pos L j (by simpa using hj), getElem!_pos L i (by simpa using hi)] at this
  simp only [Array.getElem_toList]
  simpa using this
theorem slSortSpan_c (v : Value) (l : List Sp) (w : World) (base : Nat) (hown : w.ownsRow base 31 2 v l.length (flat l)) (hok : ∀ s ∈ l, OkSp s) (hl : l.length ≤ 100000000) :
    Calls Try.prog 72 #[v, .func (.func 73) #[] #[]] w (SortRet base w v l) := by
  by_cases h0 : 0 < l.length
  · obtain ⟨g, cap, rfl, hgb, hglt, hcap, hcm⟩ := own_form hown h0
    obtain ⟨L0, hL0⟩ : ∃ L0 : List OkS, L0.map (·.1) = l := ⟨l.attach.map fun s => ⟨s.1, hok s.1 s.2⟩, by rw [List.map_map]; exact List.attach_map_subtype_val l⟩
    have hlen : L0.length = l.length := by rw [← hL0]; simp
    have hown' := hown
    rw [← hL0, ← flat_enc] at hown'
    have hown2 : w.ownsRow base 31 2 (.slice (some ⟨g, 0, none⟩) l.length cap) l.length (L0.flatMap encS) := by
      rw [← hL0]; exact hown'
    obtain ⟨hH, hblk, _⟩ := holdsK_own (enc := encS) (k := 2) (fun _ => rfl) hown2
    have hcon := AnyQ.slices_SortFunc lay_sortSpan 2 Try.isAgg31 Try.sizeOf31 encS (fun _ => rfl) (fun x u hu => by simp [encS, encSp] at hu; rcases hu with rfl | rfl <;> rfl) cfS swoS 73 #[] g 0 cap L0.toArray w ent_rOf2
      (fun _ _ _ _ x y => rOf2_c x y _) hH hblk (by simp; omega)
    change Calls Try.prog 72 _ _ _ at hcon
    have hsz : L0.toArray.size = l.length := by simpa using hlen
    rw [hsz] at hcon
    refine hcon.mono ?_
    rintro e w' ⟨rfl, d', n, os, hp, hs, rfl⟩
    rw [← hsz] at hp
    have hd : d'.size = L0.length := by have := hp.1; simpa using this
    obtain ⟨o1, o2⟩ := own_sorted (enc := encS) (k := 2) (fun _ => rfl) hown2 n os d' hd
    refine ⟨rfl, d'.toList.map (·.1), ?_, ?_, ?_, o2⟩
    · rw [← hL0]; exact (permIn_all hp).map _
    · exact sorted_pw (by rw [hd, hlen]; exact hs)
    · rw [← flat_enc]; exact o1
  · obtain rfl : l = [] := List.length_eq_zero_iff.1 (by omega)
    obtain ⟨A, cap, rfl⟩ : ∃ A cap, v = .slice A 0 cap := by
      rcases hown.2 with ⟨h, _⟩ | ⟨g, cap, cur, h, _⟩
      · exact ⟨_, _, h⟩
      · exact ⟨_, _, h⟩
    have hcon := AnyF.slices_SortFunc_none lay_sortSpan A cap (.func (.func 73) #[] #[]) w
    change Calls Try.prog 72 _ _ _ at hcon
    refine hcon.mono ?_
    rintro e w' ⟨rfl, rfl⟩
    exact ⟨rfl, [], List.Perm.nil, List.Pairwise.nil, hown, Below.refl _ _⟩
end Go.Proofs.Ytahpcepnagpbdaa
