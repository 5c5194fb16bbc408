/- Law 39: civiltimeref12.Of, with a result of its own. -/
import Derived.Test.YtohjgegnamcnlaaGreatZac
namespace Go.Proofs.YtohjgegnamcnlaaGreat
open Go.RowKit Go.Shelf

def CombO (w : World) (T : List Sp → Prop) (e : Ending) (w' : World) : Prop := ∃ r v, T r ∧ e = .returned v ∧ w'.ownsRow w.heap.size 34 2 v r.length (flat r) ∧ Below w.heap.size w w'
set_option maxRecDepth 100000 in
theorem r12CombineO_c (kind : Int) (g : Bool → Bool → Bool) (hk : KeepOf kind g) (h0 : g false false = false) (v1 v2 : Value) (a b : List Sp) (w : World) (h1 : IsSpans w v1 a) (h2 : IsSpans w v2 b)
    (ha : ∀ s ∈ a, OkSp s) (hb : ∀ s ∈ b, OkSp s) (hla : a.length ≤ 2500) (hlb : b.length ≤ 2500) :
    Calls Tryz.prog 96 #[.int .i64 kind, v1, v2] w (CombO w (CombSpec g a b)) := by
  obtain ⟨A, c, rfl, hnc, hc⟩ := h1.form
  obtain ⟨B, d, rfl, hnd, hd⟩ := h2.form
  have hHa := Lib.hid ha; clear ha
  have hHb := Lib.hid hb; clear hb
  have Hk := Lib.hid hk; clear hk
  have H0 := Lib.hid h0; clear h0
  have nA : A = none → a.length = 0 := fun h => by
    rcases Nat.eq_zero_or_pos a.length with h3 | h3
    · exact h3
    · obtain ⟨b', off, h4, _⟩ := h1.addr h3; rw [h] at h4; cases h4
  have nB : B = none → b.length = 0 := fun h => by
    rcases Nat.eq_zero_or_pos b.length with h3 | h3
    · exact h3
    · obtain ⟨b', off, h4, _⟩ := h2.addr h3; rw [h] at h4; cases h4
  have HnA := Lib.hid nA; clear nA
  have HnB := Lib.hid nB; clear nB
  go_enter Tryz.func96, Tryz.ntmps96
  go_wp2_with (first
    | (at_builtin; refine append_rows tSpans tSpanInfo rfl (by omega) (by omega) rfl (.tmp 10) (.tmp 11) rfl w.heap.size _ 0 [] rfl (World.ownsRow_made w #[] 0 (Nat.le_refl _) (by unfold maxLen; omega) rfl) _ a.length _ rfl (flat a) (flat_length a) HnA.out (fun ad had => flat_cells (h1.alloc _) ad had) (flat_one a) (by omega) (by simp) ?_; intro v3 w1 hown1 hb1; have hb1 := ((Below.refl w.heap.size w).alloc (Nat.le_refl _) _).trans hb1)
    | (at_builtin; refine append_rows tSpans tSpanInfo rfl (by omega) (by omega) rfl (.tmp 12) (.tmp 13) rfl w.heap.size _ _ _ rfl hown1 _ b.length _ rfl (flat b) (flat_length b) HnB.out (fun ad had => flat_cells (h2.below hb1) ad had) (flat_one b) (by omega) hb1.size ?_; intro v4 w2 hown2 hb2; have hb2 := hb1.trans hb2)
    | fail)
  have hcat := own_cat hown2 rfl
  have hab : (a ++ b).length ≤ 10000 := by simp; omega
  refine (r12Ends_c v4 (a ++ b) w2 (spans_of_own hcat) hab).mono ?_
  rintro e w3 ⟨E, ve, hE, rfl, hvE, hb3⟩
  have hlE : E.length ≤ 20000 := by have := hE.len; omega
  have hlE2 : E.length ≤ 2 * a.length + 2 * b.length := by have := hE.len; simp at this; omega
  have hb3 := hb2.trans (hb3.mono hb2.size)
  have hall := ends_all hE
  have hEa : ∀ s ∈ a, s.1 ∈ E ∧ s.2 ∈ E := fun s hs => hall s (List.mem_append_left _ hs)
  have hEb : ∀ s ∈ b, s.1 ∈ E ∧ s.2 ∈ E := fun s hs => hall s (List.mem_append_right _ hs)
  have hbd := ends_bd hE (fun s hs => (List.mem_append.1 hs).elim (hHa.out s) (hHb.out s))
  have HE := Lib.hid hE.asc
  have HEa := Lib.hid hEa; clear hEa
  have HEb := Lib.hid hEb; clear hEb
  have Hbd := Lib.hid hbd; clear hbd hall hE hcat hown2 hown1 hb1 hb2
  obtain ⟨C, f, rfl, hnf, hf⟩ := hvE.form
  have h1 := h1.below hb3
  have h2 := h2.below hb3
  go_wp2
  go_loopw [8, 9] (fun o i wr => ∃ (k : Nat) (r : List Sp), i = .int .i64 k ∧ (k = 0 ∨ k < E.length) ∧ Hid (KeepInv g a b E k r) ∧ wr.ownsRow w3.heap.size 34 2 o r.length (flat r) ∧ Below w3.heap.size w3 wr) (fun _ i _ => E.length - (intOf i).toNat)
  case atStart => exact ⟨0, [], rfl, .inl rfl, keep_zero H0.out HE.out HEa.out HEb.out, own_nil _ _ _ _, Below.refl _ _⟩
  case round =>
    obtain ⟨k, r, rfl, hk, HK, hown, hbw⟩ := hrel
    have hrl := HK.out.len
    by_cases hlt : k + 1 < E.length
    · obtain ⟨ge, oe, rfl, hbe⟩ := hvE.addr (by omega)
      cases hg : g (mem a (iv E k)) (mem b (iv E k))
      · have hres := keep_not HE.out HEa.out HEb.out HK.out hlt hg
        have Hres := Lib.hid hres; clear hres
        have kK := Hk.out (mem a (iv E k)) (mem b (iv E k))
        rw [hg] at kK
        go_wp2_with fail
        have e0 := fun x : BW wr => ((hvE.below hbw).bw x).c0 k (by omega)
        have q1 := fun x : BW wr => calls_bw x ((r12In_c (.slice A a.length c) a (iv E k) x.1 ((h1.below hbw).bw x)).mono (fun e w' h => ⟨h.1, h.2 ▸ Below.refl _ _⟩))
        have q2 := fun x : BW wr => calls_bw x ((r12In_c (.slice B b.length d) b (iv E k) x.1 ((h2.below hbw).bw x)).mono (fun e w' h => ⟨h.1, h.2 ▸ Below.refl _ _⟩))
        have q3 := fun x : BW wr => calls_bw x ((kK x.1).mono (fun e w' h => ⟨h.1, h.2 ▸ Below.refl _ _⟩))
        refine wp_region_below (by kernel_rfl) (by kernel_rfl) ?_
        repeat (go_big_quiet_step (first | (go_at_call 113; first | with_reducible exact q1 _ | with_reducible exact q2 _) | (go_at_call 112; exact q3 _)))
        refine wpQuiet_nil ?_
        rintro w4 ⟨⟨_, hb4⟩, rfl⟩
        have hbw4 := hbw.trans (hb4.mono hbw.size)
        have hown4 := own_below hown hb4 (Nat.le_refl _)
        clear e0 q1 q2 q3 kK
        go_wp2
        go_roundw
        case rel => exact ⟨k + 1, r, by go_num, .inr hlt, Hres.out, hown4, hbw4⟩
        case measure => simp [intOf]; omega
      · have hres := keep_add HE.out HEa.out HEb.out HK.out hlt hg
        have Hres := Lib.hid hres; clear hres
        have kK := Hk.out (mem a (iv E k)) (mem b (iv E k))
        rw [hg] at kK
        go_wp2_with fail
        have e0 := fun x : BW wr => ((hvE.below hbw).bw x).c0 k (by omega)
        have q1 := fun x : BW wr => calls_bw x ((r12In_c (.slice A a.length c) a (iv E k) x.1 ((h1.below hbw).bw x)).mono (fun e w' h => ⟨h.1, h.2 ▸ Below.refl _ _⟩))
        have q2 := fun x : BW wr => calls_bw x ((r12In_c (.slice B b.length d) b (iv E k) x.1 ((h2.below hbw).bw x)).mono (fun e w' h => ⟨h.1, h.2 ▸ Below.refl _ _⟩))
        have q3 := fun x : BW wr => calls_bw x ((kK x.1).mono (fun e w' h => ⟨h.1, h.2 ▸ Below.refl _ _⟩))
        refine wp_region_below (by kernel_rfl) (by kernel_rfl) ?_
        repeat (go_big_quiet_step (first | (go_at_call 113; first | with_reducible exact q1 _ | with_reducible exact q2 _) | (go_at_call 112; exact q3 _)))
        refine wpQuiet_nil ?_
        rintro w4 ⟨⟨_, hb4⟩, rfl⟩
        have hbw4 := hbw.trans (hb4.mono hbw.size)
        have hown4 := own_below hown hb4 (Nat.le_refl _)
        clear e0 q1 q2 q3 kK
        go_wp2_with fail
        have hown5 : w4.drew.ownsRow w3.heap.size 34 2 _ r.length (flat r) := hown4
        have hvE5 : IsInts w4.drew (.slice (some ⟨ge, oe, none⟩) E.length f) E := hvE.below (hbw4.trans (below_drew _ _))
        have c0 := hvE5.c0 k (by omega)
        have c1 := hvE5.c0 (k + 1) hlt
        have hbw5 := hbw4.trans (below_drew w3.heap.size w4)
        have hsum : IntKind.i64.wrap ((k : Int) + 1) = (k : Int) + 1 := IntWalk.i64_in _ (by omega)
        have hkl : k < E.length := by omega
        have hk1 : (0 : Int) ≤ (k : Int) + 1 := by omega
        have hk2 : ((k : Int) + 1).toNat = k + 1 := by omega
        go_still_tail 11, (by kernel_rfl)
        change wpList _ _ _ _ _ w4.drew
        generalize w4.drew = w5 at *
        go_wp2_with fail
        refine (r12Add_c _ r _ _ w5 w3.heap.size hown5 hbw5.size (by omega)).mono ?_
        rintro e w6 ⟨v6, rfl, hown6, hb6⟩
        have hbw6 := hbw5.trans hb6
        clear hsum
        go_wp2
        go_roundw
        case rel => exact ⟨k + 1, _, by go_num, .inr hlt, Hres.out, hown6, hbw6⟩
        case measure => simp [intOf]; omega
    · have hres := keep_end H0.out HE.out HEa.out HEb.out Hbd.out HK.out (by omega) hk
      have Hres := Lib.hid hres; clear hres
      go_wp2
      go_ret
      exact ⟨r, _, ⟨Hres.out.1, Hres.out.2, by omega⟩, rfl, own_low hown hb3.size, hb3.trans (hbw.mono hb3.size)⟩

theorem r12fullO_c (v : Value) (l : List Sp) (w : World) (hs : IsSpans w v l) (hl : l.length ≤ 2000) : Calls Tryz.prog 95 #[v] w (Ret w (.tuple #[v, .int .i64 0])) := by
  obtain ⟨A, c, rfl, hnc, hc⟩ := hs.form
  go_enter Tryz.func95, Tryz.ntmps95
  go_wp2
  go_ret2
  exact ⟨rfl, Below.refl _ _⟩
def OfO (l : List Sp) (w : World) (e : Ending) (w' : World) : Prop := ∃ C v, Canon C ∧ (∀ x, mem C x = mem l x) ∧ C.length ≤ 2 * l.length ∧ e = .returned (.tuple #[v, .int .i64 0]) ∧ w'.ownsRow w.heap.size 34 2 v C.length (flat C) ∧ Below w.heap.size w w'
set_option maxRecDepth 100000 in
theorem r12OfO_c (v : Value) (l : List Sp) (w : World) (hs : IsSpans w v l) (hl : l.length ≤ 1000) (hok : ∀ s ∈ l, OkSp s) : Calls Tryz.prog 63 #[v] w (OfO l w) := by
  have hcon := r12Spans_c v l w hs
  have ho : l.all okSpan = true := List.all_eq_true.2 fun s hs => (okSpan_iff s).2 (hok s hs)
  rw [spansB_all, ho] at hcon
  have Hcon := Lib.hid hcon; clear hcon
  have Ho := Lib.hid hok; clear ho hok
  go_enter Tryz.func63, Tryz.ntmps63
  go_wp2_with fail
  refine Hcon.out.mono ?_
  rintro e w1 ⟨rfl, hb⟩
  have HZ := Lib.hid hb.size
  go_wp2_with fail
  refine (r12CombineO_c 1 gUnion keep_union rfl _ _ l [] w1 (hs.below hb) IsSpans.nil Ho.out (fun s hs => by simp at hs) (by omega) (by simp)).mono ?_
  rintro e w3 ⟨r, vr, hr, rfl, hown, hb3⟩
  have hb := hb.trans (hb3.mono hb.size)
  have hrl : r.length ≤ 2000 := by have := hr.2.2; simp at this; omega
  have Hd := Lib.hid (r12fullO_c vr r w3 (spans_of_own hown) hrl)
  have Hr := Lib.hid hr; have HO := Lib.hid hown; have Hle := Lib.hid hb.size
  clear hr hown
  go_wp2_with fail
  refine Hd.out.mono ?_
  rintro e w4 ⟨rfl, hb4⟩
  have hb := hb.trans (hb4.mono hb.size)
  go_wp2
  go_ret2
  exact ⟨r, vr, Hr.out.1, fun x => by rw [Hr.out.2.1 x]; simp [gUnion, mem], by have := Hr.out.2.2; simpa using this, rfl, own_low (own_below HO.out hb4 (Nat.le_refl _)) HZ.out, hb⟩
end Go.Proofs.YtohjgegnamcnlaaGreat
