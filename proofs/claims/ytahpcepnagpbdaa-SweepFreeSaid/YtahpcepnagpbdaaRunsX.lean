/- The walks of the reference's insert and Ends. -/
import Derived.Test.YtahpcepnagpbdaaRunsH
import Derived.Test.YtahpcepnagpbdaaRunsC
import Derived.Test.YtahpcepnagpbdaaRunsW
namespace Go.Proofs.Ytahpcepnagpbdaa
open Go.RowKit

theorem tInts : Try.prog.underlying 25 = some (.slice 3) := Try.underlying25
theorem tIntInfo : (Try.prog.info? 3).map (fun i => (i.zero, i.size, i.bytes)) = some (some (.int .i64 0), 1, 8) := by kernel_rfl
/-- A list of numbers handed back. -/
def RetIns (w : World) (S : List Int → Prop) (e : Ending) (w' : World) : Prop := ∃ r v, S r ∧ e = .returned v ∧ IsInts w' v r ∧ Below w.heap.size w w'

theorem r12insert_c (v : Value) (l : List Int) (x : Int) (w : World) (hs : IsInts w v l) (ha : Asc l) (hl : l.length ≤ 100000) :
    Calls Try.prog 92 #[v, .int .i64 x] w (RetIns w (InsSpec l x)) := by
  obtain ⟨A, c, rfl, hnc, hc⟩ := hs.form
  go_enter Try.func92, Try.ntmps92
  go_wp2
  go_loopw [5] (fun i wr => ∃ k : Nat, k ≤ l.length ∧ i = .int .i64 k ∧ Hid (∀ j, k ≤ j → j < l.length → x ≤ iv l j) ∧ Below w.heap.size w wr) (fun i _ => (intOf i).toNat)
  case atStart => exact ⟨l.length, Nat.le_refl _, rfl, fun j h1 h2 => by omega, Below.refl _ _⟩
  case round =>
    obtain ⟨k, hk, rfl, Hge, hb⟩ := hrel
    by_cases hcont : 0 < k ∧ x ≤ iv l (k - 1)
    · obtain ⟨hk0, hx⟩ := hcont
      obtain ⟨g, off, rfl, hbk⟩ := hs.addr (by omega)
      have c0 := (hs.below hb).c0 (k - 1) (by omega)
      have hge : ∀ j, k - 1 ≤ j → j < l.length → x ≤ iv l j := fun j h1 h2 => by
        rcases Nat.eq_or_lt_of_le h1 with h | h
        · rw [← h]; exact hx
        · exact Hge.out j (by omega) h2
      have Hge2 := Lib.hid hge; clear hge
      go_wp2
      go_roundw
      case rel => exact ⟨k - 1, by omega, by go_num, Hge2.out, hb⟩
      case measure => simp [intOf]; omega
    · have hlow : ∀ j, j < k → iv l j < x := fun j hj => by
        have h1 : iv l (k - 1) < x := by
          rcases Int.lt_or_le (iv l (k - 1)) x with h | h
          · exact h
          · exact absurd ⟨by omega, h⟩ hcont
        rcases Nat.eq_or_lt_of_le (show j ≤ k - 1 by omega) with h | h
        · rw [h]; exact h1
        · have := asc_lt ha h (by omega); omega
      by_cases hke : k < l.length
      · obtain ⟨g, off, rfl, hbk⟩ := hs.addr (by omega)
        have hgek := Hge.out k (Nat.le_refl _) hke
        have ck := (hs.below hb).c0 k hke
        have ck0 : k = 0 → wr.cell? ⟨g, off, none⟩ = some (.int .i64 (iv l 0)) := fun h => by subst h; exact ck
        by_cases heq : iv l k = x
        · have hres := ins_same ha (iv_mem hke)
          rw [heq] at hres
          have Hres := Lib.hid hres; clear hres
          rcases Nat.eq_zero_or_pos k with hz | hz
          · have ck0 := ck0 hz
            subst hz
            clear ck
            go_wp2
            go_ret
            exact ⟨l, _, Hres.out, rfl, hs.below hb, hb⟩
          · have c0 := (hs.below hb).c0 (k - 1) (by omega)
            have hx1 := hlow (k - 1) (by omega)
            go_wp2
            go_ret
            exact ⟨l, _, Hres.out, rfl, hs.below hb, hb⟩
        · have hres := ins_here (x := x) ha hk hlow (fun j h1 h2 => by
            rcases Nat.eq_or_lt_of_le h1 with h | h
            · rw [← h]; omega
            · have := asc_lt ha h h2; omega)
          have Hres := Lib.hid hres; clear hres
          rcases Nat.eq_zero_or_pos k with hz | hz
          · have ck0 := ck0 hz
            subst hz
            clear ck
            go_wp2_with (first
              | (at_builtin; refine append_rows tInts tIntInfo rfl (by omega) (by omega) rfl (.tmp 35) (.tmp 38) rfl w.heap.size _ 0 [] rfl (World.ownsRow_made wr #[] 0 hb.size (by unfold maxLen; omega) rfl) _ 0 _ rfl (flatI ((l.drop 0).take 0)) (by rw [flatI_length, List.drop_zero, List.length_take]; omega) (by intro h; cases h) (fun ad had => flatI_cells ((hs.below hb).alloc _) 0 0 (by omega) ad (fun b' off' h _ => by have h3 := had.symm.trans h; cases h3; rfl)) (flatI_one _) (by omega) (Nat.le_trans hb.size (by simp)) ?_; intro v1 w1 hown1 hb1; have hb1 := (hb.alloc hb.size _).trans hb1)
              | (at_builtin; refine append_rows tInts tIntInfo rfl (by omega) (by omega) rfl (.tmp 40) (.tmp 42) rfl w.heap.size _ _ _ rfl (hown1.alloc _) _ 1 1 rfl [.int .i64 x] rfl (by simp) (by intro ad hd j u hu; cases hd; rcases j with _ | j <;> simp at hu; subst hu; simp [Addr.add]) (by simp [Value.oneCell']) (by omega) (Nat.le_trans hb1.size (by simp)) ?_; intro v2 w2 hown2 hb2; have hb2 := (hb1.alloc hb1.size _).trans hb2)
              | (at_builtin; refine append_rows tInts tIntInfo rfl (by omega) (by omega) rfl (.tmp 44) (.tmp 47) rfl w.heap.size _ _ _ rfl hown2 _ l.length _ rfl (flatI ((l.drop 0).take l.length)) (by rw [flatI_length, List.length_take, List.length_drop]; omega) (by first | exact fun _ => rfl | (intro h; cases h)) (fun ad had => flatI_cells (hs.below hb2) 0 l.length (by omega) ad (fun b' off' h hn => by first | exact absurd hn (Nat.lt_irrefl 0) | (cases h; cases had; rfl))) (flatI_one _) (by omega) hb2.size ?_; intro v3 w3 hown3 hb3; have hb3 := hb2.trans hb3))
            go_ret
            exact ⟨_, v3, Hres.out, rfl, ints_of_own (own_ins (K := 0) hown3 (by omega) (by omega)), hb3⟩
          · have c0 := (hs.below hb).c0 (k - 1) (by omega)
            have hx1 := hlow (k - 1) (by omega)
            go_wp2_with (first
              | (at_builtin; refine append_rows tInts tIntInfo rfl (by omega) (by omega) rfl (.tmp 35) (.tmp 38) rfl w.heap.size _ 0 [] rfl (World.ownsRow_made wr #[] 0 hb.size (by unfold maxLen; omega) rfl) _ k _ rfl (flatI ((l.drop 0).take k)) (by rw [flatI_length, List.drop_zero, List.length_take]; omega) (by intro h; cases h) (fun ad had => flatI_cells ((hs.below hb).alloc _) 0 k (by omega) ad (fun b' off' h _ => by have h3 := had.symm.trans h; cases h3; rfl)) (flatI_one _) (by omega) (Nat.le_trans hb.size (by simp)) ?_; intro v1 w1 hown1 hb1; have hb1 := (hb.alloc hb.size _).trans hb1)
              | (at_builtin; refine append_rows tInts tIntInfo rfl (by omega) (by omega) rfl (.tmp 40) (.tmp 42) rfl w.heap.size _ _ _ rfl (hown1.alloc _) _ 1 1 rfl [.int .i64 x] rfl (by simp) (by intro ad hd j u hu; cases hd; rcases j with _ | j <;> simp at hu; subst hu; simp [Addr.add]) (by simp [Value.oneCell']) (by omega) (Nat.le_trans hb1.size (by simp)) ?_; intro v2 w2 hown2 hb2; have hb2 := (hb1.alloc hb1.size _).trans hb2)
              | (at_builtin; refine append_rows tInts tIntInfo rfl (by omega) (by omega) rfl (.tmp 44) (.tmp 47) rfl w.heap.size _ _ _ rfl hown2 _ (l.length - k) _ rfl (flatI ((l.drop k).take (l.length - k))) (by rw [flatI_length, List.length_take, List.length_drop]; omega) (by first | exact fun _ => rfl | (intro h; cases h)) (fun ad had => flatI_cells (hs.below hb2) k (l.length - k) (by omega) ad (fun b' off' h hn => by first | exact absurd hn (Nat.lt_irrefl 0) | (cases h; cases had; rfl))) (flatI_one _) (by omega) hb2.size ?_; intro v3 w3 hown3 hb3; have hb3 := hb2.trans hb3))
            go_ret
            exact ⟨_, v3, Hres.out, rfl, ints_of_own (own_ins (K := k) hown3 (by omega) (by omega)), hb3⟩
      · obtain rfl : k = l.length := by omega
        have hres := ins_here (x := x) ha hk hlow (fun j h1 h2 => absurd h2 (by omega))
        have Hres := Lib.hid hres; clear hres
        rcases Nat.eq_zero_or_pos l.length with hz | hz
        · have hres2 : InsSpec l x (l.take 0 ++ [x] ++ l.drop 0) := by have h := Hres.out; rw [hz] at h; exact h
          have Hres := Lib.hid hres2; clear hres2
          go_wp2_with (first
            | (at_builtin; refine append_rows tInts tIntInfo rfl (by omega) (by omega) rfl (.tmp 35) (.tmp 38) rfl w.heap.size _ 0 [] rfl (World.ownsRow_made wr #[] 0 hb.size (by unfold maxLen; omega) rfl) _ 0 _ rfl (flatI ((l.drop 0).take 0)) (by rw [flatI_length, List.drop_zero, List.length_take]; omega) (fun _ => rfl) (fun ad had => flatI_cells ((hs.below hb).alloc _) 0 0 (by omega) ad (fun b' off' h _ => by have h3 := had.symm.trans h; cases h3; rfl)) (flatI_one _) (by omega) (Nat.le_trans hb.size (by simp)) ?_; intro v1 w1 hown1 hb1; have hb1 := (hb.alloc hb.size _).trans hb1)
            | (at_builtin; refine append_rows tInts tIntInfo rfl (by omega) (by omega) rfl (.tmp 40) (.tmp 42) rfl w.heap.size _ _ _ rfl (hown1.alloc _) _ 1 1 rfl [.int .i64 x] rfl (by simp) (by intro ad hd j u hu; cases hd; rcases j with _ | j <;> simp at hu; subst hu; simp [Addr.add]) (by simp [Value.oneCell']) (by omega) (Nat.le_trans hb1.size (by simp)) ?_; intro v2 w2 hown2 hb2; have hb2 := (hb1.alloc hb1.size _).trans hb2)
            | (at_builtin; refine append_rows tInts tIntInfo rfl (by omega) (by omega) rfl (.tmp 44) (.tmp 47) rfl w.heap.size _ _ _ rfl hown2 _ 0 _ rfl (flatI ((l.drop 0).take 0)) (by rw [flatI_length, List.length_take, List.length_drop]; omega) (by first | exact fun _ => rfl | (intro h; cases h)) (fun ad had => flatI_cells (hs.below hb2) 0 0 (by omega) ad (fun b' off' h hn => by first | exact absurd hn (Nat.lt_irrefl 0) | (cases h; cases had; rfl))) (flatI_one _) (by omega) hb2.size ?_; intro v3 w3 hown3 hb3; have hb3 := hb2.trans hb3))
          go_ret
          exact ⟨_, v3, Hres.out, rfl, ints_of_own (own_ins (K := 0) hown3 (by omega) (by omega)), hb3⟩
        · obtain ⟨g, off, rfl, hbk⟩ := hs.addr (by omega)
          have c0 := (hs.below hb).c0 (l.length - 1) (by omega)
          have hx1 := hlow (l.length - 1) (by omega)
          go_wp2_with (first
            | (at_builtin; refine append_rows tInts tIntInfo rfl (by omega) (by omega) rfl (.tmp 35) (.tmp 38) rfl w.heap.size _ 0 [] rfl (World.ownsRow_made wr #[] 0 hb.size (by unfold maxLen; omega) rfl) _ l.length _ rfl (flatI ((l.drop 0).take l.length)) (by rw [flatI_length, List.drop_zero, List.length_take]; omega) (by intro h; cases h) (fun ad had => flatI_cells ((hs.below hb).alloc _) 0 l.length (by omega) ad (fun b' off' h _ => by have h3 := had.symm.trans h; cases h3; rfl)) (flatI_one _) (by omega) (Nat.le_trans hb.size (by simp)) ?_; intro v1 w1 hown1 hb1; have hb1 := (hb.alloc hb.size _).trans hb1)
            | (at_builtin; refine append_rows tInts tIntInfo rfl (by omega) (by omega) rfl (.tmp 40) (.tmp 42) rfl w.heap.size _ _ _ rfl (hown1.alloc _) _ 1 1 rfl [.int .i64 x] rfl (by simp) (by intro ad hd j u hu; cases hd; rcases j with _ | j <;> simp at hu; subst hu; simp [Addr.add]) (by simp [Value.oneCell']) (by omega) (Nat.le_trans hb1.size (by simp)) ?_; intro v2 w2 hown2 hb2; have hb2 := (hb1.alloc hb1.size _).trans hb2)
            | (at_builtin; refine append_rows tInts tIntInfo rfl (by omega) (by omega) rfl (.tmp 44) (.tmp 47) rfl w.heap.size _ _ _ rfl hown2 _ 0 _ rfl (flatI ((l.drop l.length).take 0)) (by rw [flatI_length, List.length_take, List.length_drop]; omega) (by first | exact fun _ => rfl | (intro h; cases h)) (fun ad had => flatI_cells (hs.below hb2) l.length 0 (by omega) ad (fun b' off' h hn => by first | exact absurd hn (Nat.lt_irrefl 0) | (cases h; cases had; rfl))) (flatI_one _) (by omega) hb2.size ?_; intro v3 w3 hown3 hb3; have hb3 := hb2.trans hb3))
          go_ret
          exact ⟨_, v3, Hres.out, rfl, ints_of_own (own_ins (K := l.length) hown3 (by omega) (by omega)), hb3⟩
          go_ret
          exact ⟨_, v3, Hres.out, rfl, ints_of_own (own_ins (K := l.length) hown3 (by omega) (by omega)), hb3⟩

theorem r12Ends_c (v : Value) (l : List Sp) (w : World) (hs : IsSpans w v l) (hl : l.length ≤ 10000) :
    Calls Try.prog 68 #[v] w (RetIns w (EndsSpec l l.length)) := by
  obtain ⟨A, c, rfl, hnc, hc⟩ := hs.form
  go_enter Try.func68, Try.ntmps68
  go_wp2
  go_loopw [3, 4] (fun o i wr => ∃ (k : Nat) (E : List Int), i = .int .i64 k ∧ k ≤ l.length ∧ Hid (EndsSpec l k E) ∧ IsInts wr o E ∧ Below w.heap.size w wr) (fun _ i _ => l.length - (intOf i).toNat)
  case atStart => exact ⟨0, [], rfl, Nat.zero_le _, ends_zero l, IsInts.nil, Below.refl _ _⟩
  case round =>
    obtain ⟨k, E, rfl, hk, HE, hE, hb⟩ := hrel
    by_cases hlt : k < l.length
    · obtain ⟨g, off, rfl, hbk⟩ := hs.addr (by omega)
      have c0 := (hs.below hb).c0 k hlt
      have c1 := (hs.below hb).c1 k hlt
      have hlen := HE.out.len
      go_wp2_with fail
      refine (r12insert_c _ E _ _ hE HE.out.asc (by omega)).mono ?_
      rintro e w1 ⟨E1, o1, h1, rfl, hE1, hb1⟩
      have H1 := Lib.hid h1; clear h1
      have hb1 := hb.trans (hb1.mono hb.size)
      have c0 := (hs.below hb1).c0 k hlt
      have c1 := (hs.below hb1).c1 k hlt
      have hlen1 := H1.out.len
      go_wp2_with fail
      refine (r12insert_c _ E1 _ _ hE1 H1.out.asc (by omega)).mono ?_
      rintro e w2 ⟨E2, o2, h2, rfl, hE2, hb2⟩
      have H2 := Lib.hid h2; clear h2
      have hb2 := hb1.trans (hb2.mono hb1.size)
      have hres := ends_step HE.out hlt H1.out H2.out
      have Hres := Lib.hid hres; clear hres
      go_wp2
      go_roundw
      case rel => exact ⟨k + 1, E2, by go_num, by omega, Hres.out, hE2, hb2⟩
      case measure => simp [intOf]; omega
    · obtain rfl : k = l.length := by omega
      go_wp2
      go_ret
      exact ⟨E, _, HE.out, rfl, hE, hb⟩
end Go.Proofs.Ytahpcepnagpbdaa
