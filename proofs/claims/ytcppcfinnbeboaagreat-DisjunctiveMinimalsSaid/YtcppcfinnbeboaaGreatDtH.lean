/- Law 47: slices.Grow at a nil list of choices; slices.Concat at two lists of choices. -/
import Derived.Test.YtcppcfinnbeboaaGreatLayG
import Derived.Test.YtcppcfinnbeboaaGreatDkI
namespace Go.Proofs.YtcppcfinnbeboaaGreat
open Go.RowKit Go.Shelf

def GrowNil (w : World) (e : Ending) (w' : World) : Prop := ∃ A c, e = .returned (.slice A 0 c) ∧ w'.ownsRow w.heap.size 31 3 (.slice A 0 c) 0 [] ∧ Below w.heap.size w w'
theorem slGrowNil_c (n : Nat) (w : World) (hn : n ≤ 1000) : Calls Tryz.prog 32 #[.slice none 0 0, .int .i64 (n : Int)] w (GrowNil w) := by
  obtain ⟨i, hi, hz, hsz, hby⟩ := info_parts tChoiceInfo1
  rcases Nat.eq_zero_or_pos n with rfl | h1
  · refine (Any8.slices_Grow_room lay_growChoice none 0 0 0 w (by omega) (by omega) (by omega) (by omega)).mono ?_
    rintro e w' ⟨rfl, rfl⟩
    exact ⟨none, 0, rfl, own_nil _ _ _ _, Below.refl _ _⟩
  · refine (Any8.slices_Grow_grow lay_growChoice i _ hi hz (by omega) none 0 0 n [] w (by omega) (by omega) (by rw [hby]; omega) (by omega) (by simp) (fun _ => rfl) (fun a h => by cases h)).mono ?_
    rintro e w' ⟨rfl, rfl⟩
    obtain ⟨G, hG⟩ : ∃ G, G = grownCap w (0 + n) 0 31 := ⟨_, rfl⟩
    have hGn : 0 + n ≤ G := by rw [hG]; exact grownCap_ge w _ _ _
    have hG63 : G ≤ maxLen := by rw [hG]; exact grownCap_le_maxLen w (0 + n) 0 31 (by unfold maxLen; omega)
    refine ⟨_, _, rfl, ⟨rfl, .inr ⟨w.heap.size, G, _, by rw [hG]; rfl, Nat.le_refl _, heap_alloc_new w.drew _, Nat.zero_le _, hG63, ?_, by simp⟩⟩, (Below.refl _ _).drew.alloc (Nat.le_refl _) _⟩
    have er : lay_growChoice_ren.t 25 = 31 := rfl
    rw [hG] at hGn ⊢
    rw [er]
    simp [Builtin.zeroCells, Value.cells] at hGn ⊢
    omega
/-! ### two lists side by side -/
def catS (n : Nat) (S T : Nat → Value) (i : Nat) : Value := if i < n then S i else T (i - n)
theorem cho_app (L M : List Cho) (i : Nat) : cho (L ++ M) i = if i < L.length then cho L i else cho M (i - L.length) := by
  unfold cho
  rw [List.getD_eq_getElem?_getD, List.getD_eq_getElem?_getD, List.getD_eq_getElem?_getD]
  by_cases h : i < L.length
  · rw [if_pos h, List.getElem?_append_left h]
  · rw [if_neg h, List.getElem?_append_right (by omega)]
theorem flatC_app (L M : List Cho) (S T : Nat → Value) : ∀ n, flatC (L ++ M) (catS L.length S T) (L.length + n) = flatC L S L.length ++ flatC M T n
  | 0 => by
    rw [Nat.add_zero, show flatC M T 0 = [] from rfl, List.append_nil]
    exact flatC_congr _ _ _ _ _ fun i hi => ⟨by rw [cho_app, if_pos hi], by unfold catS; rw [if_pos hi]⟩
  | n + 1 => by
    rw [← Nat.add_assoc, flatC_succ, flatC_app L M S T n, flatC_succ, List.append_assoc]
    have e : ∀ j, choCell (L ++ M) (catS L.length S T) (L.length + n) j = choCell M T n j := fun j => by
      have e0 : cho (L ++ M) (L.length + n) = cho M n := by rw [cho_app, if_neg (by omega), Nat.add_sub_cancel_left]
      have e1 : catS L.length S T (L.length + n) = T n := by unfold catS; rw [if_neg (by omega), Nat.add_sub_cancel_left]
      unfold choCell
      rw [e0, e1]
    rw [e, e, e]
theorem ChosIn.newsC {w : World} {A : Option Addr} {c : Nat} {L : List Cho} {S : Nat → Value} (h : ChosIn w (.slice A L.length c) L S) (ad : Addr) (hA : A = some ad) : ∀ j u, (flatC L S L.length)[j]? = some u → w.cell? (ad.add j) = some u := by
  intro j u hu
  have hj : j < L.length * 3 := by
    rcases Nat.lt_or_ge j (L.length * 3) with hj | hj
    · exact hj
    · rw [List.getElem?_eq_none (by rw [flatC_len]; exact hj)] at hu; cases hu
  obtain ⟨b, off, hb, _⟩ := h.addr (by omega)
  rw [hA] at hb h
  injection hb with hb
  subst hb
  have hd : j / 3 < L.length := by omega
  have hm : j % 3 < 3 := Nat.mod_lt _ (by omega)
  have e : j / 3 * 3 + j % 3 = j := by omega
  have h1 := RowsIn.cells h.1 (j / 3) (j % 3) hd hm
  have h2 := flatC_get L S L.length (j / 3) (j % 3) hd hm
  rw [e] at h2
  rw [h2] at hu
  obtain rfl := Option.some.inj hu
  have e2 : (⟨b, off, none⟩ : Addr).add j = ⟨b, off + j / 3 * 3 + j % 3, none⟩ := by
    rw [Nat.add_assoc off, e]
    simp [Addr.add]
  rw [e2]
  exact h1
theorem ChosIn.oneC {w : World} {v : Value} {L : List Cho} {S : Nat → Value} (h : ChosIn w v L S) : ∀ u ∈ flatC L S L.length, u.oneCell' = true := fun u hu => by
  obtain ⟨j, hj, rfl⟩ := List.getElem_of_mem hu
  have hj := hj
  rw [flatC_len] at hj
  have hd : j / 3 < L.length := by omega
  have hm : j % 3 < 3 := Nat.mod_lt _ (by omega)
  have e : j / 3 * 3 + j % 3 = j := by omega
  have h2 := flatC_get L S L.length (j / 3) (j % 3) hd hm
  rw [e, List.getElem?_eq_getElem (by rw [flatC_len]; exact hj)] at h2
  rw [Option.some.inj h2]
  unfold choCell
  split
  · obtain ⟨A, c, e, _⟩ := (h.2 _ hd).form
    rw [e]
    rfl
  · rfl
theorem own_chosC {w : World} {base : Nat} {v : Value} {L : List Cho} {S : Nat → Value} (h : w.ownsRow base 31 3 v L.length (flatC L S L.length)) (hs : ∀ i, i < L.length → IsSpans w (S i) (cho L i).2.2) : IsChos w v L := by
  rcases h.2 with ⟨rfl, h0⟩ | ⟨g, cap, cur, rfl, hg, hh, h4, h5, h6, h7⟩
  · obtain rfl : L = [] := List.length_eq_zero_iff.1 h0
    exact IsChos.nil
  · refine ⟨S, ⟨_, _, rfl, h4, by unfold maxLen at h5; exact h5, fun _ => ⟨g, 0, rfl, blk_lt hh, fun i j hi hj => ?_⟩⟩, hs⟩
    rw [Nat.zero_add, blk_get hh]
    have e := flatC_get L S L.length i j hi hj
    rw [← h7, List.getElem?_take_of_lt (by omega), Array.getElem?_toList] at e
    exact e
def sumK (a b k : Nat) : Nat := if k = 0 then 0 else if k = 1 then a else a + b
def catK (L M : List Cho) (S T : Nat → Value) (k : Nat) : List Value := if k = 0 then [] else if k = 1 then flatC L S L.length else flatC L S L.length ++ flatC M T M.length
def CatRet (L : List Cho) (w : World) (e : Ending) (w' : World) : Prop := ∃ v, e = .returned v ∧ IsChos w' v L ∧ Below w.heap.size w w'
set_option maxRecDepth 100000 in
set_option maxHeartbeats 4000000 in
theorem slConcat2_c (B : Nat) (A1 A2 : Addr) (c1 c2 : Nat) (L1 L2 : List Cho) (S1 S2 : Nat → Value) (w : World) (hB : w.heap[B]? = some (.cells #[.slice (some A1) L1.length c1, .slice (some A2) L2.length c2] 22 (0, 0)))
    (h1 : ChosIn w (.slice (some A1) L1.length c1) L1 S1) (h2 : ChosIn w (.slice (some A2) L2.length c2) L2 S2) (hl : L1.length + L2.length ≤ 1000) :
    Calls Tryz.prog 12 #[.slice (some ⟨B, 0, none⟩) 2 2] w (CatRet (L1 ++ L2) w) := by
  obtain ⟨i, hi, hz, hsz, hby⟩ := info_parts tChoiceInfo1
  have HB : Hid (∀ X, Below w.heap.size w X → X.cell? ⟨B, 0, none⟩ = some (.slice (some A1) L1.length c1) ∧ X.cell? ⟨B, 1, none⟩ = some (.slice (some A2) L2.length c2)) := Lib.hid fun X h => by
    have hT := (h.block B (blk_lt hB)).trans hB
    have a0 := blk_get hT 0
    have a1 := blk_get hT 1
    simp at a0 a1
    exact ⟨a0, a1⟩
  have H1 := Lib.hid h1; have H2 := Lib.hid h2; have Hl := Lib.hid hl
  have KG : Hid (∀ X, Calls Tryz.prog 32 #[.slice none 0 0, .int .i64 ((L1.length + L2.length : Nat) : Int)] X (GrowNil X)) := Lib.hid fun X => slGrowNil_c (L1.length + L2.length) X hl
  obtain ⟨n1, hn1⟩ : ∃ n, n = L1.length := ⟨_, rfl⟩
  obtain ⟨n2, hn2⟩ : ∃ n, n = L2.length := ⟨_, rfl⟩
  rw [← hn1, ← hn2] at HB KG
  have Hn1 := Lib.hid hn1; have Hn2 := Lib.hid hn2
  have hb1 : n1 ≤ 1000 := by omega
  have hb2 : n1 + n2 ≤ 1000 := by omega
  have Hb := Lib.hid (And.intro hb1 hb2)
  clear hB h1 h2 hl hn1 hn2 hb1 hb2
  go_enter Tryz.func12, Tryz.ntmps12
  go_wp2_with fail
  go_loopw [3, 11] (fun z i wr => ∃ k : Nat, i = .int .i64 (k : Int) ∧ k ≤ 2 ∧ z = .int .i64 ((sumK n1 n2 k : Nat) : Int) ∧ Below w.heap.size w wr) (fun _ i _ => 2 - (intOf i).toNat)
  case atStart => exact ⟨0, rfl, by omega, rfl, Below.refl _ _⟩
  case round =>
    obtain ⟨k, rfl, hk, rfl, hb⟩ := hrel
    have Hbw := Lib.hid hb
    rcases (show k = 0 ∨ k = 1 ∨ k = 2 by omega) with rfl | rfl | rfl
    · obtain ⟨a0, _⟩ := HB.out _ hb
      have z0 : IntKind.i64.wrap (((sumK n1 n2 0 : Nat) : Int) + (n1 : Int)) = (n1 : Int) := by rw [show sumK n1 n2 0 = 0 from rfl, IntKind.wrap_i64]; have := Hb.out; omega
      have z1 : decide ((n1 : Int) < 0) = false := decide_eq_false (by omega)
      clear hb
      go_wp2_with fail
      go_roundw
      case rel => exact ⟨1, by go_num, by omega, rfl, Hbw.out⟩
      case measure => simp [intOf]
    · obtain ⟨_, a1⟩ := HB.out _ hb
      have z0 : IntKind.i64.wrap (((sumK n1 n2 1 : Nat) : Int) + (n2 : Int)) = ((sumK n1 n2 2 : Nat) : Int) := by rw [show sumK n1 n2 1 = n1 from rfl, show sumK n1 n2 2 = n1 + n2 from rfl, IntKind.wrap_i64]; have := Hb.out; omega
      have z1 : decide (((sumK n1 n2 2 : Nat) : Int) < 0) = false := decide_eq_false (by omega)
      clear hb
      go_wp2_with fail
      go_roundw
      case rel => exact ⟨2, by go_num, by omega, rfl, Hbw.out⟩
      case measure => simp [intOf]
    · clear hb
      have e2 : sumK n1 n2 2 = n1 + n2 := rfl
      rw [e2]
      clear e2
      go_wp2_with fail
      refine (KG.out _).mono ?_
      rintro e w3 ⟨A, c, rfl, ho, hb⟩
      obtain ⟨base, hbase⟩ : ∃ b, b = wr.heap.size := ⟨_, rfl⟩
      rw [← hbase] at ho
      have Hbz : Hid (w.heap.size ≤ base) := Lib.hid (by rw [hbase]; exact Hbw.out.size)
      have Hb3 : Hid (base ≤ w3.heap.size) := Lib.hid (by rw [hbase]; exact hb.size)
      have Ho := Lib.hid ho; have Hbg := Lib.hid (Hbw.out.trans (hb.mono Hbw.out.size))
      clear ho hb KG Hbw hbase
      go_wp2_with fail
      go_loopw [6, 27] (fun v i wq => ∃ k : Nat, i = .int .i64 (k : Int) ∧ k ≤ 2 ∧ Below w.heap.size w wq ∧ base ≤ wq.heap.size ∧ wq.ownsRow base 31 3 v (sumK n1 n2 k) (catK L1 L2 S1 S2 k)) (fun _ i _ => 2 - (intOf i).toNat)
      case atStart => exact ⟨0, rfl, by omega, Hbg.out, Hb3.out, Ho.out⟩
      case round =>
        obtain ⟨k, rfl, hk, hb, hbs, ho⟩ := hrel
        rcases (show k = 0 ∨ k = 1 ∨ k = 2 by omega) with rfl | rfl | rfl
        · obtain ⟨a0, _⟩ := HB.out _ hb
          obtain ⟨Av, nv, cv, rfl⟩ : ∃ A n c, u6 = .slice A n c := by
            rcases ho.2 with ⟨e, _⟩ | ⟨g, cap, _, e, _⟩
            · exact ⟨_, _, _, e⟩
            · exact ⟨_, _, _, e⟩
          have Hbw := Lib.hid hb; have Hov := Lib.hid ho; have Hbs := Lib.hid hbs
          clear hb ho hbs
          go_wp2_with (at_builtin; refine wpList_append_own_at _ rfl _ _ 22 rfl base 31 i _ 3 40 Tryz.underlying22 hi hz hsz hby rfl (by omega) _ 0 [] (by rfl) Hov.out A1 n1 c1 (flatC L1 S1 L1.length) (by rfl) (by rw [flatC_len, ← Hn1.out]) ((H1.out.below Hbw.out).newsC A1 rfl) H1.out.oneC (by unfold maxLen; have := Hb.out; omega) (by have := Hb.out; omega) Hbs.out ?_; intro v7 w7 ho7 hg7 _ _)
          have Ho7 : Hid (w7.ownsRow base 31 3 v7 n1 (flatC L1 S1 L1.length)) := Lib.hid (by rw [Nat.zero_add, List.nil_append] at ho7; exact ho7)
          have Hb7 : Hid (Below w.heap.size w w7) := Lib.hid (Hbw.out.grown hg7 Hbw.out.size fun k hk => Nat.le_trans Hbz.out (World.ownsRow.lt Hov.out k hk).1)
          have hg7s := Lib.hid hg7.size
          clear ho7 hg7
          go_wp2_with fail
          go_roundw
          case rel => exact ⟨1, by go_num, by omega, Hb7.out, Nat.le_trans Hbs.out hg7s.out, Ho7.out⟩
          case measure => simp [intOf]
        · obtain ⟨_, a1⟩ := HB.out _ hb
          obtain ⟨Av, nv, cv, rfl⟩ : ∃ A n c, u6 = .slice A n c := by
            rcases ho.2 with ⟨e, _⟩ | ⟨g, cap, _, e, _⟩
            · exact ⟨_, _, _, e⟩
            · exact ⟨_, _, _, e⟩
          have Hbw := Lib.hid hb; have Hov := Lib.hid ho; have Hbs := Lib.hid hbs
          clear hb ho hbs
          go_wp2_with (at_builtin; refine wpList_append_own_at _ rfl _ _ 22 rfl base 31 i _ 3 40 Tryz.underlying22 hi hz hsz hby rfl (by omega) _ n1 (flatC L1 S1 L1.length) (by rfl) Hov.out A2 n2 c2 (flatC L2 S2 L2.length) (by rfl) (by rw [flatC_len, ← Hn2.out]) ((H2.out.below Hbw.out).newsC A2 rfl) H2.out.oneC (by unfold maxLen; have := Hb.out; omega) (by have := Hb.out; omega) Hbs.out ?_; intro v7 w7 ho7 hg7 _ _)
          have Ho7 := Lib.hid ho7
          have Hb7 : Hid (Below w.heap.size w w7) := Lib.hid (Hbw.out.grown hg7 Hbw.out.size fun k hk => Nat.le_trans Hbz.out (World.ownsRow.lt Hov.out k hk).1)
          have hg7s := Lib.hid hg7.size
          clear ho7 hg7
          go_wp2_with fail
          go_roundw
          case rel => exact ⟨2, by go_num, by omega, Hb7.out, Nat.le_trans Hbs.out hg7s.out, Ho7.out⟩
          case measure => simp [intOf]
        · have Hbw := Lib.hid hb; have Hov := Lib.hid ho; have Hbs := Lib.hid hbs
          clear hb ho hbs
          go_wp2_with fail
          go_ret
          refine ⟨_, rfl, own_chosC (base := base) (S := catS L1.length S1 S2) ?_ ?_, Hbw.out⟩
          · rw [List.length_append, flatC_app, ← Hn1.out, ← Hn2.out, Hn1.out, Hn2.out]
            have := Hov.out
            rw [Hn1.out, Hn2.out] at this
            exact this
          · intro j hj
            rw [List.length_append] at hj
            unfold catS
            rw [cho_app]
            by_cases e : j < L1.length
            · rw [if_pos e, if_pos e]
              exact (H1.out.2 j e).below Hbw.out
            · rw [if_neg e, if_neg e]
              exact (H2.out.2 _ (by omega)).below Hbw.out
end Go.Proofs.YtcppcfinnbeboaaGreat
