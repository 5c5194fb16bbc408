/- Law 39: the reference's Moving. -/
import Derived.Deep.RegionHeld3
import Derived.Test.YtohjgegnamcnlaaGreatAhn
import Derived.Test.YtohjgegnamcnlaaGreatAjW
namespace Go.Proofs.YtohjgegnamcnlaaGreat
open Go.RowKit Go.Shelf

def RMovSpec (F : List Fct) (colI win : Int) (c : Int) (v : Value) (w' : World) : Prop :=
  if validF F = false then c = 1 ∧ v = .slice none 0 0
  else if win < 1 ∨ 34560000 < win then c = 2 ∧ v = .slice none 0 0
  else RGrpSpec (movF F win) [] 2 colI c v w'
def RMovRet (F : List Fct) (colI win : Int) (w : World) (e : Ending) (w' : World) : Prop := ∃ v c, e = .returned (.tuple #[v, .int .i64 c]) ∧ Below w.heap.size w w' ∧ RMovSpec F colI win c v w'
theorem mov_eq {F : List Fct} {col win c d : Int} {v u : Value} {w1 w2 : World} (h : MovSpec F col win c v w1) (g : RMovSpec F col win d u w2) : c = d ∧ ∃ B, IsFs w1 v B ∧ IsFs w2 u B := by
  unfold MovSpec at h
  unfold RMovSpec at g
  split at h
  · rename_i q
    rw [if_pos q] at g
    obtain ⟨rfl, rfl⟩ := h
    obtain ⟨rfl, rfl⟩ := g
    exact ⟨rfl, [], IsFs.nil, IsFs.nil⟩
  rename_i q
  rw [if_neg q] at g
  split at h
  · rename_i q
    rw [if_pos q] at g
    obtain ⟨rfl, rfl⟩ := h
    obtain ⟨rfl, rfl⟩ := g
    exact ⟨rfl, [], IsFs.nil, IsFs.nil⟩
  rename_i q
  rw [if_neg q] at g
  exact grp_eq h g
theorem movF_len (F : List Fct) (win : Int) : (movF F win).length = F.length := by simp [movF]
theorem movF_take {F : List Fct} {win : Int} {k : Nat} (hk : k < F.length) : (movF F win).take (k + 1) = (movF F win).take k ++ [((fc F k).1, ((fc F k).2.1, min 253402300800 ((fc F k).2.2 + win - 1)))] := by
  have hk2 : k < (movF F win).length := by rw [movF_len]; exact hk
  rw [List.take_succ_eq_append_getElem hk2]
  have h : (movF F win)[k] = ((fc F k).1, ((fc F k).2.1, min 253402300800 ((fc F k).2.2 + win - 1))) := by
    rw [← fc_at hk]
    simp [movF]
  rw [h]
theorem movF_from {F : List Fct} {win : Int} {f : Fct} (h : f ∈ movF F win) : ∃ g ∈ F, f.1 = g.1 := by
  unfold movF at h
  obtain ⟨g, hg, rfl⟩ := List.mem_map.1 h
  exact ⟨g, hg, rfl⟩
set_option maxRecDepth 100000 in
set_option maxHeartbeats 8000000 in
theorem r39Moving_c (v : Value) (F : List Fct) (col win : Int) (w : World) (hs : IsFs w v F) (hm : MachF F) (hn : F.length ≤ 16) (hsm : ∀ f ∈ F, ∀ x ∈ f.1, x.2.2.size ≤ 1000000000) : Calls Tryz.prog 17 #[v, .int .i64 col, .int .i64 win] w (RMovRet F col win w) := by
  have KV := Lib.hid (r39Valid_c v F w hs)
  obtain ⟨S, hs⟩ := hs
  obtain ⟨A, cc, rfl, hnc, hcc⟩ := hs.form
  have HFin := Lib.hid hs
  have KG : Hid (∀ X v2, IsFs X v2 (movF F win) → Calls Tryz.prog 11 #[v2, .slice none 0 0, .int .i64 2, .int .i64 col] X (RGrpRet (movF F win) [] 2 col X)) := Lib.hid fun X v2 h => r39Group_c v2 (.slice none 0 0) (movF F win) [] 2 col X h IsInts.nil (fun f hf => by obtain ⟨g, hg, e⟩ := movF_from hf; rw [e]; exact hm g hg) (by rw [movF_len]; exact hn) (by simp) (fun f hf => by obtain ⟨g, hg, e⟩ := movF_from hf; rw [e]; exact hsm g hg)
  clear hm hsm
  go_enter Tryz.func17, Tryz.ntmps17
  go_wp2_with fail
  refine KV.out.mono ?_
  rintro e W1 ⟨rfl, hb1⟩
  cases hv : validF F
  · have Hv := Lib.hid hv
    clear hv
    go_wp2_with fail
    go_ret2
    exact ⟨_, 1, rfl, hb1, by unfold RMovSpec; rw [if_pos Hv.out]; exact ⟨rfl, rfl⟩⟩
  have Hv := Lib.hid hv
  have hspn : ∀ i, i < F.length → (-62135596800 ≤ (fc F i).2.1 ∧ (fc F i).2.2 ≤ 253402300800 ∧ (fc F i).2.1 < (fc F i).2.2) ∧ 0 < (fc F i).1.length := fun i hi => by
    have h1 := (valid_rows hv).2 _ (fc_mem hi)
    have h2 := spT_ok h1.2.1
    unfold OkSp at h2
    exact ⟨⟨h2.2.1, h2.2.2, h2.1.2.1⟩, h1.1.1⟩
  have Hspn := Lib.hid hspn
  clear hv hspn
  cases q1 : decide (win < 1)
  rotate_left
  · have Hq := Lib.hid (of_decide_eq_true q1)
    go_wp2_with fail
    go_ret2
    exact ⟨_, 2, rfl, hb1, by unfold RMovSpec; rw [if_neg (by rw [Hv.out]; decide), if_pos (.inl Hq.out)]; exact ⟨rfl, rfl⟩⟩
  cases q2 : decide (34560000 < win)
  rotate_left
  · have Hq := Lib.hid (of_decide_eq_true q2)
    go_wp2_with fail
    go_ret2
    exact ⟨_, 2, rfl, hb1, by unfold RMovSpec; rw [if_neg (by rw [Hv.out]; decide), if_pos (.inr Hq.out)]; exact ⟨rfl, rfl⟩⟩
  have HSp : Hid (∀ c v w', RGrpSpec (movF F win) [] 2 col c v w' → RMovSpec F col win c v w') := Lib.hid fun c v w' h => by
    unfold RMovSpec
    rw [if_neg (by rw [Hv.out]; decide), if_neg (by have := of_decide_eq_false q1; have := of_decide_eq_false q2; omega)]
    exact h
  have Hw : Hid (1 ≤ win ∧ win ≤ 34560000) := Lib.hid (by have := of_decide_eq_false q1; have := of_decide_eq_false q2; omega)
  have HB1 := Lib.hid hb1
  go_wp2_with fail
  clear q1 q2
  go_loopw [8, 9] (fun o i X => ∃ (k : Nat) (G : List Fx), i = .int .i64 (k : Int) ∧ k ≤ F.length ∧ Hid (OwnsFx X W1.heap.size o G) ∧ Hid (G.map (·.2) = (movF F win).take k) ∧ Hid (Below W1.heap.size W1 X)) (fun _ i _ => F.length - (intOf i).toNat)
  case atStart => exact ⟨0, [], rfl, Nat.zero_le _, Lib.hid ⟨own_nil _ _ _ _, fun x hx => absurd hx (by simp)⟩, Lib.hid (by simp), Lib.hid (Below.refl _ _)⟩
  case round =>
    obtain ⟨k, G, rfl, hk, HO, HE, HB⟩ := hrel
    rename World => X
    have HBw : Hid (Below w.heap.size w X) := Lib.hid (HB1.out.trans (HB.out.mono HB1.out.size))
    by_cases hlt : k < F.length
    · obtain ⟨b, off, rfl, hbl⟩ := hs.addr (by omega)
      have hin := hs.below HBw.out
      have c0 := hin.c0 k hlt
      have c1 := hin.c1 k hlt
      have c2 := hin.c2 k hlt
      have hv := hs.2 k hlt
      obtain ⟨A1, p1, hS, _, _⟩ := hv.form
      rw [hS] at c0 hv
      have hbX : b < X.heap.size := Nat.lt_of_lt_of_le hbl HBw.out.size
      have htk := movF_take (win := win) hlt
      obtain ⟨hsp, hpos⟩ := Hspn.out k hlt
      generalize hf : fc F k = f at c0 c1 c2 hv htk hsp hpos
      obtain ⟨row, ⟨s1, s2⟩⟩ := f
      simp only at c0 c1 c2 hv htk hsp hpos
      have HTk := Lib.hid htk; have Hlt := Lib.hid hlt
      have hw1 := Hw.out
      have w1 : IntKind.i64.wrap (s2 + win) = s2 + win := by rw [IntKind.wrap_i64]; omega
      have w2 : IntKind.i64.wrap (s2 + win - 1) = s2 + win - 1 := by rw [IntKind.wrap_i64]; omega
      have FB : Hid (∀ Y, Below X.heap.size X Y → Y.cell? ⟨b, off + k * 3, none⟩ = some (.slice A1 row.length p1) ∧ Y.cell? ⟨b, off + k * 3 + 1, none⟩ = some (.int .i64 s1) ∧ Y.cell? ⟨b, off + k * 3 + 1 + 1, none⟩ = some (.int .i64 s2)) := Lib.hid fun Y h => ⟨(h.cell (p := ⟨b, off + k * 3, none⟩) hbX).trans c0, (h.cell (p := ⟨b, off + k * 3 + 1, none⟩) hbX).trans c1, (h.cell (p := ⟨b, off + k * 3 + 2, none⟩) hbX).trans c2⟩
      have FC : Hid (∀ Y : World, Y.heap[b]? = X.heap[b]? → Y.cell? ⟨b, off + k * 3, none⟩ = some (.slice A1 row.length p1) ∧ Y.cell? ⟨b, off + k * 3 + 1, none⟩ = some (.int .i64 s1) ∧ Y.cell? ⟨b, off + k * 3 + 1 + 1, none⟩ = some (.int .i64 s2)) := Lib.hid fun Y h => ⟨(World.cell?_of_block h).trans c0, (World.cell?_of_block h).trans c1, (World.cell?_of_block h).trans c2⟩
      have hGl : G.length < 900000000 := by
        have h1 := congrArg List.length HE.out
        rw [List.length_map, List.length_take, movF_len] at h1
        omega
      have HvX : Hid (IsVals X (.slice A1 row.length p1) row) := Lib.hid (hv.below HBw.out)
      have HvB : Hid (∀ q, sblk (.slice A1 row.length p1) = some q → q < w.heap.size) := Lib.hid fun q hq => hv.blk_lt hpos q hq
      have Hoo := Lib.hid (fun q hq => World.ownsRow.lt HO.out.own q hq)
      have HzX : Hid (w.heap.size ≤ W1.heap.size ∧ W1.heap.size ≤ X.heap.size ∧ b < w.heap.size) := Lib.hid ⟨HB1.out.size, HB.out.size, hbl⟩
      have kb : Below X.heap.size X X := Below.refl _ _
      clear hin c0 c1 c2 hv hS htk hf hsp hpos hw1
      go_wp2_with fail
      go_region_held3 (fun Y => Y.cell? ⟨b, off + k * 3, none⟩ = some (.slice A1 row.length p1) ∧ Y.cell? ⟨b, off + k * 3 + 1, none⟩ = some (.int .i64 s1) ∧ Y.cell? ⟨b, off + k * 3 + 1 + 1, none⟩ = some (.int .i64 s2)) ((first | exact FB.out _ kb | exact FB.out _ kb.drew | exact FB.out _ (kb.drew.alloc kb.drew.size _) | exact FB.out _ (kb.alloc kb.size _).drew | exact FB.out _ (kb.alloc kb.size _) | exact HS7)) (first
        | ((try rw [if_pos (by rfl)]); refine append_fx_wd _ _ (by rfl) W1.heap.size _ G (by rfl) HO.out (f := (row, (s1, min 253402300800 (s2 + win - 1)))) (by rfl) HvX.out (fun q hq => ⟨by have h1 := HvB.out q hq; have h2 := HzX.out; omega, fun e => by have h1 := (Hoo.out q e).1; have h2 := HvB.out q hq; have h3 := HzX.out; omega⟩) (by rfl) (by rfl) hGl HzX.out.2.1 (fun v7 w7 hown7 hb7 hbk7 => ?_); have HS7 := FC.out w7 (hbk7 b hbX (fun e => by have h1 := (Hoo.out b e).1; have h3 := HzX.out; omega))))
      all_goals
        have HO7 := Lib.hid hown7
        have HZ7 := Lib.hid (HB.out.trans hb7)
        clear hown7 hb7 hbk7
        go_wp2_with fail
        go_roundw
        case rel => exact ⟨k + 1, _, by go_num, Hlt.out, HO7, Lib.hid (by rw [List.map_append, HE.out, HTk.out]; rfl), HZ7⟩
        case measure => have := Hlt.out; simp [intOf]; omega
    · obtain rfl : k = F.length := by omega
      have hE := HE.out
      rw [List.take_of_length_le (by rw [movF_len]; exact Nat.le_refl _)] at hE
      have hfs := HO.out.fs
      rw [hE] at hfs
      have K := Lib.hid (KG.out X _ hfs)
      clear hE hfs
      go_wp2_with fail
      refine K.out.mono ?_
      rintro e W9 ⟨v9, c9, rfl, hb9, hsp⟩
      have HS9 := Lib.hid (HSp.out _ _ _ hsp)
      have HB9 := Lib.hid (HBw.out.trans (hb9.mono HBw.out.size))
      clear hb9 hsp
      go_wp2_with fail
      go_ret2
      exact ⟨_, _, rfl, HB9.out, HS9.out⟩
end Go.Proofs.YtohjgegnamcnlaaGreat
