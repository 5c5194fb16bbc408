
/- The walks of the reference's keep, Combine, full, Apply, Not. -/
import Derived.Test.YtahpcepnagpbdaaRunsY
import Derived.Test.YtahpcepnagpbdaaRunsD
namespace Go.Proofs.Ytahpcepnagpbdaa
open Go.RowKit

def KeepOf (kind : Int) (g : Bool → Bool → Bool) : Prop := ∀ (x y : Bool) (w : World), Calls Try.prog 96 #[.int .i64 kind, .bool x, .bool y] w fun e w' => e = .returned (.bool (g x y)) ∧ w = w'
theorem keep_union : KeepOf 1 gUnion := fun x y w => by
  cases x <;> cases y
  all_goals
    go_enter Try.func96, Try.ntmps96
    go_wp2
    go_ret
    exact ⟨rfl, rfl⟩
theorem keep_meet : KeepOf 2 gMeet := fun x y w => by
  cases x <;> cases y
  all_goals
    go_enter Try.func96, Try.ntmps96
    go_wp2
    go_ret
    exact ⟨rfl, rfl⟩
theorem keep_minus : KeepOf 3 gMinus := fun x y w => by
  cases x <;> cases y
  all_goals
    go_enter Try.func96, Try.ntmps96
    go_wp2
    go_ret
    exact ⟨rfl, rfl⟩
theorem keep_either : KeepOf 4 gEither := fun x y w => by
  cases x <;> cases y
  all_goals
    go_enter Try.func96, Try.ntmps96
    go_wp2
    go_ret
    exact ⟨rfl, rfl⟩

theorem flat_cells {w : World} {l : List Sp} {A : Option Addr} {c : Nat} (h : IsSpans w (.slice A l.length c) l) (ad : Addr) (hA : A = some ad) : ∀ j u, (flat l)[j]? = some u → w.cell? (ad.add j) = some u := by
  intro j u hu
  have hj : j < l.length * 2 := by
    rw [← flat_length]
    exact (List.getElem?_eq_some_iff.1 hu).1
  obtain ⟨b, off, rfl, hb⟩ := h.addr (by omega)
  injection hA with hA
  subst hA
  have h1 := RowsIn.cells h (j / 2) (j % 2) (by omega) (by omega)
  have h2 := flat_get l (j / 2) (j % 2) (by omega) (by omega)
  rw [show j / 2 * 2 + j % 2 = j from by omega, hu] at h2
  have e1 : (⟨b, off, none⟩ : Addr).add j = ⟨b, off + j / 2 * 2 + j % 2, none⟩ := by
    have e2 : off + j / 2 * 2 + j % 2 = off + j := by omega
    rw [e2]
    simp [Addr.add]
  rw [h2, e1, ← h1]
theorem flat_one (l : List Sp) : ∀ u ∈ flat l, u.oneCell' = true := by
  intro u hu
  obtain ⟨s, _, hs⟩ := List.mem_flatMap.1 hu
  simp at hs
  rcases hs with rfl | rfl <;> rfl
theorem own_cat {w : World} {base n : Nat} {e : TypeId} {v : Value} {a b : List Sp} (h : w.ownsRow base e 2 v n ([] ++ flat a ++ flat b)) (hn : n = 0 + a.length + b.length) : w.ownsRow base e 2 v (a ++ b).length (flat (a ++ b)) := by
  have e1 : (a ++ b).length = n := by simp; omega
  have e2 : flat (a ++ b) = [] ++ flat a ++ flat b := by simp [flat]
  rw [e1, e2]; exact h
theorem ends_all {l : List Sp} {E : List Int} (h : EndsSpec l l.length E) : ∀ s ∈ l, s.1 ∈ E ∧ s.2 ∈ E := fun s hs => by
  obtain ⟨i, hi, rfl⟩ := mem_idx hs
  exact ⟨(h.mem _).2 ⟨i, hi, hi, .inl rfl⟩, (h.mem _).2 ⟨i, hi, hi, .inr rfl⟩⟩
theorem ends_bd {l : List Sp} {E : List Int} (h : EndsSpec l l.length E) (hl : ∀ s ∈ l, OkSp s) : ∀ e ∈ E, -4398046511104 ≤ e ∧ e ≤ 4398046511104 := fun e he => by
  obtain ⟨i, hi, _, h1⟩ := (h.mem e).1 he
  have := hl _ (idx_mem (l := l) (i := i) hi)
  unfold OkSp at this
  simp only at this
  rcases h1 with rfl | rfl <;> omega
/-- A list handed back, known by a law. -/
def RetS (w : World) (S : List Sp → Prop) (e : Ending) (w' : World) : Prop := ∃ r, S r ∧ RetL w r e w'
def CombSpec (g : Bool → Bool → Bool) (a b r : List Sp) : Prop := Canon r ∧ (∀ x, mem r x = g (mem a x) (mem b x)) ∧ r.length ≤ 2 * a.length + 2 * b.length
theorem below_drew (B : Nat) (w : World) : Below B w w.drew := ⟨rfl, rfl, rfl, Nat.le_refl _, fun _ _ => rfl⟩

set_option maxRecDepth 100000 in
theorem r12Combine_c (kind : Int) (g : Bool → Bool → Bool) (hk : KeepOf kind g) (h0 : g false false = false) (v1 v2 : Value) (a b : List Sp) (w : World) (h1 : IsSpans w v1 a) (h2 : IsSpans w v2 b)
    (ha : ∀ s ∈ a, OkSp s) (hb : ∀ s ∈ b, OkSp s) (hla : a.length ≤ 2500) (hlb : b.length ≤ 2500) :
    Calls Try.prog 80 #[.int .i64 kind, v1, v2] w (RetS w (CombSpec g a b)) := by
  obtain ⟨A, c, rfl, hnc, hc⟩ := h1.form
  obtain ⟨B, d, rfl, hnd, hd⟩ := h2.form
  have hHa := Lib.hid ha; clear ha
  have hHb := Lib.hid hb; clear hb
  have Hk := Lib.hid hk; clear hk
  have H0 := Lib.hid h0; clear h0
  have nA : A = none → a.length = 0 := fun h => by
    rcases Nat.eq_zero_or_pos a.length with h3 | h3
    · exact h3
    · obtain ⟨b', off, h4, _⟩ := h1.addr h3; rw [h] at h4; cases h4
  have nB : B = none → b.length = 0 := fun h => by
    rcases Nat.eq_zero_or_pos b.length with h3 | h3
    · exact h3
    · obtain ⟨b', off, h4, _⟩ := h2.addr h3; rw [h] at h4; cases h4
  have HnA := Lib.hid nA; clear nA
  have HnB := Lib.hid nB; clear nB
  go_enter Try.func80, Try.ntmps80
  go_wp2_with (first
    | (at_builtin; refine append_rows tSpans tSpanInfo rfl (by omega) (by omega) rfl (.tmp 10) (.tmp 11) rfl w.heap.size _ 0 [] rfl (World.ownsRow_made w #[] 0 (Nat.le_refl _) (by unfold maxLen; omega) rfl) _ a.length _ rfl (flat a) (flat_length a) HnA.out (fun ad had => flat_cells (h1.alloc _) ad had) (flat_one a) (by omega) (by simp) ?_; intro v3 w1 hown1 hb1; have hb1 := ((Below.refl w.heap.size w).alloc (Nat.le_refl _) _).trans hb1)
    | (at_builtin; refine append_rows tSpans tSpanInfo rfl (by omega) (by omega) rfl (.tmp 12) (.tmp 13) rfl w.heap.size _ _ _ rfl hown1 _ b.length _ rfl (flat b) (flat_length b) HnB.out (fun ad had => flat_cells (h2.below hb1) ad had) (flat_one b) (by omega) hb1.size ?_; intro v4 w2 hown2 hb2; have hb2 := hb1.trans hb2)
    | fail)
  have hcat := own_cat hown2 rfl
  have hab : (a ++ b).length ≤ 10000 := by simp; omega
  refine (r12Ends_c v4 (a ++ b) w2 (spans_of_own hcat) hab).mono ?_
  rintro e w3 ⟨E, ve, hE, rfl, hvE, hb3⟩
  have hlE : E.length ≤ 20000 := by have := hE.len; omega
  have hlE2 : E.length ≤ 2 * a.length + 2 * b.length := by have := hE.len; simp at this; omega
  have hb3 := hb2.trans (hb3.mono hb2.size)
  have hall := ends_all hE
  have hEa : ∀ s ∈ a, s.1 ∈ E ∧ s.2 ∈ E := fun s hs => hall s (List.mem_append_left _ hs)
  have hEb : ∀ s ∈ b, s.1 ∈ E ∧ s.2 ∈ E := fun s hs => hall s (List.mem_append_right _ hs)
  have hbd := ends_bd hE (fun s hs => (List.mem_append.1 hs).elim (hHa.out s) (hHb.out s))
  have HE := Lib.hid hE.asc
  have HEa := Lib.hid hEa; clear hEa
  have HEb := Lib.hid hEb; clear hEb
  have Hbd := Lib.hid hbd; clear hbd hall hE hcat hown2 hown1 hb1 hb2
  obtain ⟨C, f, rfl, hnf, hf⟩ := hvE.form
  have h1 := h1.below hb3
  have h2 := h2.below hb3
  go_wp2
  go_loopw [8, 9] (fun o i wr => ∃ (k : Nat) (r : List Sp), i = .int .i64 k ∧ (k = 0 ∨ k < E.length) ∧ Hid (KeepInv g a b E k r) ∧ wr.ownsRow w3.heap.size 31 2 o r.length (flat r) ∧ Below w3.heap.size w3 wr) (fun _ i _ => E.length - (intOf i).toNat)
  case atStart => exact ⟨0, [], rfl, .inl rfl, keep_zero H0.out HE.out HEa.out HEb.out, own_nil _ _ _ _, Below.refl _ _⟩
  case round =>
    obtain ⟨k, r, rfl, hk, HK, hown, hbw⟩ := hrel
    have hrl := HK.out.len
    by_cases hlt : k + 1 < E.length
    · obtain ⟨ge, oe, rfl, hbe⟩ := hvE.addr (by omega)
      cases hg : g (mem a (iv E k)) (mem b (iv E k))
      · have hres := keep_not HE.out HEa.out HEb.out HK.out hlt hg
        have Hres := Lib.hid hres; clear hres
        have kK := Hk.out (mem a (iv E k)) (mem b (iv E k))
        rw [hg] at kK
        go_wp2_with fail
        have e0 := fun x : BW wr => ((hvE.below hbw).bw x).c0 k (by omega)
        have q1 := fun x : BW wr => calls_bw x ((r12In_c (.slice A a.length c) a (iv E k) x.1 ((h1.below hbw).bw x)).mono (fun e w' h => ⟨h.1, h.2 ▸ Below.refl _ _⟩))
        have q2 := fun x : BW wr => calls_bw x ((r12In_c (.slice B b.length d) b (iv E k) x.1 ((h2.below hbw).bw x)).mono (fun e w' h => ⟨h.1, h.2 ▸ Below.refl _ _⟩))
        have q3 := fun x : BW wr => calls_bw x ((kK x.1).mono (fun e w' h => ⟨h.1, h.2 ▸ Below.refl _ _⟩))
        refine wp_region_below (by kernel_rfl) (by kernel_rfl) ?_
        repeat (go_big_quiet_step (first | (go_at_call 97; first | with_reducible exact q1 _ | with_reducible exact q2 _) | (go_at_call 96; exact q3 _)))
        refine wpQuiet_nil ?_
        rintro w4 ⟨⟨_, hb4⟩, rfl⟩
        have hbw4 := hbw.trans (hb4.mono hbw.size)
        have hown4 := own_below hown hb4 (Nat.le_refl _)
        clear e0 q1 q2 q3 kK
        go_wp2
        go_roundw
        case rel => exact ⟨k + 1, r, by go_num, .inr hlt, Hres.out, hown4, hbw4⟩
        case measure => simp [intOf]; omega
      · have hres := keep_add HE.out HEa.out HEb.out HK.out hlt hg
        have Hres := Lib.hid hres; clear hres
        have kK := Hk.out (mem a (iv E k)) (mem b (iv E k))
        rw [hg] at kK
        go_wp2_with fail
        have e0 := fun x : BW wr => ((hvE.below hbw).bw x).c0 k (by omega)
        have q1 := fun x : BW wr => calls_bw x ((r12In_c (.slice A a.length c) a (iv E k) x.1 ((h1.below hbw).bw x)).mono (fun e w' h => ⟨h.1, h.2 ▸ Below.refl _ _⟩))
        have q2 := fun x : BW wr => calls_bw x ((r12In_c (.slice B b.length d) b (iv E k) x.1 ((h2.below hbw).bw x)).mono (fun e w' h => ⟨h.1, h.2 ▸ Below.refl _ _⟩))
        have q3 := fun x : BW wr => calls_bw x ((kK x.1).mono (fun e w' h => ⟨h.1, h.2 ▸ Below.refl _ _⟩))
        refine wp_region_below (by kernel_rfl) (by kernel_rfl) ?_
        repeat (go_big_quiet_step (first | (go_at_call 97; first | with_reducible exact q1 _ | with_reducible exact q2 _) | (go_at_call 96; exact q3 _)))
        refine wpQuiet_nil ?_
        rintro w4 ⟨⟨_, hb4⟩, rfl⟩
        have hbw4 := hbw.trans (hb4.mono hbw.size)
        have hown4 := own_below hown hb4 (Nat.le_refl _)
        clear e0 q1 q2 q3 kK
        go_wp2_with fail
        have hown5 : w4.drew.ownsRow w3.heap.size 31 2 _ r.length (flat r) := hown4
        have hvE5 : IsInts w4.drew (.slice (some ⟨ge, oe, none⟩) E.length f) E := hvE.below (hbw4.trans (below_drew _ _))
        have c0 := hvE5.c0 k (by omega)
        have c1 := hvE5.c0 (k + 1) hlt
        have hbw5 := hbw4.trans (below_drew w3.heap.size w4)
        have hsum : IntKind.i64.wrap ((k : Int) + 1) = (k : Int) + 1 := IntWalk.i64_in _ (by omega)
        have hkl : k < E.length := by omega
        have hk1 : (0 : Int) ≤ (k : Int) + 1 := by omega
        have hk2 : ((k : Int) + 1).toNat = k + 1 := by omega
        go_still_tail 11, (by kernel_rfl)
        change wpList _ _ _ _ _ w4.drew
        generalize w4.drew = w5 at *
        go_wp2_with fail
        refine (r12Add_c _ r _ _ w5 w3.heap.size hown5 hbw5.size (by omega)).mono ?_
        rintro e w6 ⟨v6, rfl, hown6, hb6⟩
        have hbw6 := hbw5.trans hb6
        clear hsum
        go_wp2
        go_roundw
        case rel => exact ⟨k + 1, _, by go_num, .inr hlt, Hres.out, hown6, hbw6⟩
        case measure => simp [intOf]; omega
    · have hres := keep_end H0.out HE.out HEa.out HEb.out Hbd.out HK.out (by omega) hk
      have Hres := Lib.hid hres; clear hres
      go_wp2
      go_ret
      exact ⟨r, ⟨Hres.out.1, Hres.out.2, by omega⟩, _, rfl, spans_of_own hown, hb3.trans (hbw.mono hb3.size)⟩

end Go.Proofs.Ytahpcepnagpbdaa
