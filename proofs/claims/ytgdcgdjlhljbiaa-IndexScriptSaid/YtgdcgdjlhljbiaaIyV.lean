/- Law 42: slices.IndexFunc and slices.Delete at changes, the closure that compares changes, interval.Has. -/
import Derived.Test.YtgdcgdjlhljbiaaIyU
namespace Go.Proofs.Ytgdcgdjlhljbiaa
open Go.RowKit Go.Shelf

theorem ivHas_c (p q x : Int) (w : World) (ho : okSpan (p, q) = true) : Calls Try.prog 40 #[.agg #[.int .i64 p, .int .i64 q], .int .i64 x] w (Ret w (.bool (decide (p ≤ x) && decide (x < q)))) := by
  have hb1 := (Below.refl w.heap.size w).alloc (Nat.le_refl _) (.cells #[.int .i64 p, .int .i64 q] 33)
  have hT := heap_alloc_new w (.cells #[.int .i64 p, .int .i64 q] 33)
  have KV : Hid (∀ W, Calls Try.prog 36 #[.agg #[.int .i64 p, .int .i64 q]] W (Ret W (.bool true))) := Lib.hid fun W => by have := ivValid_c p q W; rwa [ho] at this
  have HT := Lib.hid hT; have Hb1 := Lib.hid hb1
  clear ho hb1 hT
  cases h1 : decide (p ≤ x) <;> cases h2 : decide (x < q)
  all_goals
    go_enter Try.func40, Try.ntmps40
    go_wp2_with fail
    refine (KV.out _).mono ?_
    rintro e w1 ⟨rfl, hb⟩
    have hT := (hb.block _ (lt_of_block HT.out)).trans HT.out
    have t0 := blk_cell hT 0
    have t1 := blk_cell hT 1
    simp at t0 t1
    have HB := Lib.hid (Hb1.out.trans (hb.mono Hb1.out.size))
    clear hT hb
    go_wp2_with fail
    go_ret
    exact ⟨rfl, HB.out⟩

/-! ### the closure of the script: is this change's entry the one looked for -/
theorem ent_law42Script1 : ∀ (args : Array Value) (w : World), Sem.run Try.prog (callFunc 38 args) w = .ok (.enter 38 args) w := fun _ _ => by kernel_rfl
def BoxC (B : Nat) (x : En) (d : Bool) (w : World) : Prop := w.heap[B]? = some (.cells #[.int .i64 x.1, .int .i64 x.2.1, .int .i64 x.2.2, .bool d] 64 (0, 0))
theorem BoxC.below {B : Nat} {x : En} {d : Bool} {w w' : World} (h : BoxC B x d w) (hb : Below w.heap.size w w') : BoxC B x d w' := (hb.block _ (lt_of_block h)).trans h
theorem law42Script1_c (h : Ch) (B : Nat) (x : En) (d : Bool) (w : World) (hB : BoxC B x d w) : Calls Try.prog 38 #[.agg #[.int .i64 h.1.1, .int .i64 h.1.2.1, .int .i64 h.1.2.2, .bool h.2], .pointer (some ⟨B, 0, none⟩)] w (Ret w (.bool (sameE h.1 x))) := by
  obtain ⟨⟨a0, a1, a2⟩, a3⟩ := h
  obtain ⟨b0, b1, b2⟩ := x
  simp only
  have hb1 := (Below.refl w.heap.size w).alloc (Nat.le_refl _) (.cells #[.int .i64 a0, .int .i64 a1, .int .i64 a2, .bool a3] 64)
  have hB2 := hB.below hb1
  unfold BoxC at hB2
  have t0 := blk_cell hB2 0
  have t1 := blk_cell hB2 1
  have t2 := blk_cell hB2 2
  simp at t0 t1 t2
  have Hb1 := Lib.hid hb1
  clear hb1 hB2 hB
  unfold sameE
  simp only
  cases h0 : a0 == b0 <;> cases h1 : a1 == b1 <;> cases h2 : a2 == b2
  all_goals
    go_enter Try.func38, Try.ntmps38
    go_wp2_with fail
    go_ret
    exact ⟨rfl, Hb1.out⟩
/-- The first change with an entry. -/
def IdxC (L : List Ch) (x : En) (r : Int) : Prop := (r = -1 ∧ ∀ i, i < L.length → (ch L i).1 ≠ x) ∨ ∃ i : Nat, i < L.length ∧ r = i ∧ (ch L i).1 = x
def IdxCRet (L : List Ch) (x : En) (w : World) (e : Ending) (w' : World) : Prop := ∃ r, IdxC L x r ∧ e = .returned (.int .i64 r) ∧ Below w.heap.size w w'
set_option maxRecDepth 100000 in
theorem slIndexChange_c (B : Nat) (x : En) (d : Bool) (v : Value) (L : List Ch) (w : World) (hs : IsChs w v L) (hB : BoxC B x d w) : Calls Try.prog 37 #[v, .func (.func 38) #[] #[.pointer (some ⟨B, 0, none⟩)]] w (IdxCRet L x w) := by
  obtain ⟨A, c, rfl, hnc, hc⟩ := hs.form
  have HB := Lib.hid hB
  clear hB
  go_enter Try.func37, Try.ntmps37
  go_wp2
  go_loopw [8] (fun i wr => ∃ k : Nat, i = .int .i64 k ∧ k ≤ L.length ∧ Hid (∀ j, j < k → (ch L j).1 ≠ x) ∧ Below w.heap.size w wr) (fun i _ => L.length - (intOf i).toNat)
  case atStart => exact ⟨0, rfl, Nat.zero_le _, fun j hj => absurd hj (by omega), Below.refl _ _⟩
  case round =>
    obtain ⟨k, rfl, hk, HA, hb⟩ := hrel
    by_cases hlt : k < L.length
    · obtain ⟨b, off, rfl, hbk⟩ := hs.addr (by omega)
      have c0 := (hs.below hb).c0 k hlt
      have c1 := (hs.below hb).c1 k hlt
      have c2 := (hs.below hb).c2 k hlt
      have c3 := (hs.below hb).c3 k hlt
      have hcall := law42Script1_c (ch L k) B x d wr (HB.out.below hb)
      have hfd : sameE (ch L k).1 x = true → IdxC L x (k : Int) := fun h => .inr ⟨k, hlt, rfl, (sameE_iff _ _).1 h⟩
      have hst : sameE (ch L k).1 x = false → ∀ j, j < k + 1 → (ch L j).1 ≠ x := fun h j hj => by
        rcases Nat.eq_or_lt_of_le (show j ≤ k by omega) with e | e
        · rw [e]; exact fun h2 => by rw [(sameE_iff _ _).2 h2] at h; cases h
        · exact HA.out j e
      generalize ch L k = y at *
      obtain ⟨⟨y0, y1, y2⟩, y3⟩ := y
      simp only at c0 c1 c2 c3 hcall hfd hst
      cases hd : sameE (y0, y1, y2) x
      · rw [hd] at hcall
        have Hcall := Lib.hid hcall
        have Hst := Lib.hid (hst hd)
        clear hcall hst hfd hd
        go_wp2_with fail
        refine Hcall.out.mono ?_
        rintro e w2 ⟨rfl, hb2⟩
        have hb3 := hb.trans (hb2.mono hb.size)
        go_wp2
        go_roundw
        case rel => exact ⟨k + 1, by go_num, by omega, Hst.out, hb3⟩
        case measure => simp [intOf]; omega
      · rw [hd] at hcall
        have Hcall := Lib.hid hcall
        have Hfd := Lib.hid (hfd hd)
        clear hcall hst hfd hd
        go_wp2_with fail
        refine Hcall.out.mono ?_
        rintro e w2 ⟨rfl, hb2⟩
        have hb3 := hb.trans (hb2.mono hb.size)
        go_wp2
        go_ret
        exact ⟨_, Hfd.out, rfl, hb3⟩
    · obtain rfl : k = L.length := by omega
      have Hr : Hid (IdxC L x (-1)) := .inl ⟨rfl, HA.out⟩
      clear HA
      go_wp2
      go_ret
      exact ⟨_, Hr.out, rfl, hb⟩

/-! ### slices.Delete at changes -/
def DelH (base : Nat) (w : World) (v : Value) (l : List Ch) (k : Nat) (e : Ending) (w' : World) : Prop := ∃ v', e = .returned v' ∧ OwnsH w' base 64 v' (l.take k ++ l.drop (k + 1)) ∧ Below base w w' ∧ (∀ b, v.ownBlock ≠ some b → w'.heap[b]? = w.heap[b]?) ∧ (∀ b, v'.ownBlock = some b → v.ownBlock = some b)
set_option maxRecDepth 100000 in
set_option maxHeartbeats 2000000 in
theorem slDeleteChange_c (v : Value) (l : List Ch) (w : World) (base : Nat) (hown : OwnsH w base 64 v l) (k : Nat) (hk : k < l.length) (hl : l.length ≤ 100000) :
    Calls Try.prog 39 #[v, .int .i64 (k : Int), .int .i64 ((k + 1 : Nat) : Int)] w (DelH base w v l k) := by
  obtain ⟨g, cap, rfl, hgb, hgl, hcap, hcm⟩ := own_formH hown (by omega)
  obtain ⟨m, hn⟩ : ∃ m, m + 1 = l.length := ⟨l.length - 1, by omega⟩
  obtain ⟨i0, hi0, hz0, hsz0, hby0⟩ := info_parts tChangeInfo
  have hown1 : w.drew.ownsRow base 64 4 (.slice (some ⟨g, 0, none⟩) (m + 1) cap) (m + 1) (flatH l) := by rw [hn]; exact hown
  rw [← hn] at hcap ⊢
  have hkm : k ≤ m := by omega
  obtain ⟨_, hxl, _, hmx, cur, hblk, hcs, htk⟩ := own_blk hown1
  have hcell : ∀ j u, (flatH l)[j]? = some u → w.drew.cell? ⟨g, j, none⟩ = some u := fun j u hu => by
    have hj : j < (m + 1) * 4 := by
      rcases Nat.lt_or_ge j ((m + 1) * 4) with h | h
      · exact h
      · rw [List.getElem?_eq_none (by omega)] at hu; cases hu
    rw [blk_cell hblk, ← hu, ← htk, List.getElem?_take_of_lt hj, Array.getElem?_toList]
  have hsp : ∀ j, j < cap * 4 → (w.drew.cell? ⟨g, j, none⟩).isSome = true ∧ w.drew.frozen? ⟨g, j, none⟩ = false := fun j hj => by
    refine ⟨?_, blk_frozen hblk j⟩
    rw [blk_cell hblk, Array.getElem?_eq_getElem (by omega)]
    rfl
  have hdl : ((flatH l).drop ((k + 1) * 4)).length = (m - k) * 4 := by rw [List.length_drop, hxl, ← Nat.sub_mul]; congr 1; omega
  have hfin := own_del hown1 (show k < m + 1 by omega) (z := [.int .i64 0, .int .i64 0, .int .i64 0, .bool false]) rfl
  simp only [Nat.add_sub_cancel] at hfin
  have hone : ∀ u ∈ (flatH l).drop ((k + 1) * 4), u.oneCell' = true := fun u hu => flatH_one l u (List.mem_of_mem_drop hu)
  have hspare : ∀ j, j < ((flatH l).drop ((k + 1) * 4)).length → (w.drew.cell? ⟨g, 0 + k * 4 + j, none⟩).isSome = true ∧ w.drew.frozen? ⟨g, 0 + k * 4 + j, none⟩ = false := fun j hj => by
    rw [hdl] at hj
    exact hsp _ (by omega)
  have hb1 : Below base w ((w.drew.setCells g (k * 4) ((flatH l).drop ((k + 1) * 4)))) := below_setAll hgb _ _ _ (Below.refl _ _).drew
  have hb2 : Below base w ((w.drew.setCells g (k * 4) ((flatH l).drop ((k + 1) * 4))).setCells g (m * 4) [.int .i64 0, .int .i64 0, .int .i64 0, .bool false]) := below_setAll hgb _ _ _ hb1
  have hclr : ∀ ty c, (Builtin.clear_ #[62] ty #[.slice (some ⟨g, m * 4, none⟩) 1 c]).run Try.prog (w.drew.setCells g (k * 4) ((flatH l).drop ((k + 1) * 4))) = .ok (.tuple #[]) ((w.drew.setCells g (k * 4) ((flatH l).drop ((k + 1) * 4))).setCells g (m * 4) [.int .i64 0, .int .i64 0, .int .i64 0, .bool false]) := fun ty c => by
    have hblk1 := setCells_blk ((flatH l).drop ((k + 1) * 4)) _ _ (k * 4) hblk
    refine run_clear1 _ ty 62 64 #[.int .i64 0, .int .i64 0, .int .i64 0, .bool false] Try.underlying62 (Try.zeroValue64 _) g (m * 4) c (by simp [Value.oneCell']) (fun j hj => ?_) (fun j _ => blk_frozen hblk1 _)
    rw [blk_cell hblk1, Array.getElem?_eq_getElem (by rw [putAll_size, hcs]; simp at hj; omega)]
    rfl
  have hres : (flatH l).take (k * 4) ++ (flatH l).drop ((k + 1) * 4) = flatH (l.take k ++ l.drop (k + 1)) := by
    rw [flatH_append]
    congr 1
    · exact (flatMap_take (k := 4) _ (fun _ => rfl) l k).symm
    · exact (flatMap_drop (k := 4) _ (fun _ => rfl) l (k + 1)).symm
  have hrl : (l.take k ++ l.drop (k + 1)).length = m := by simp; omega
  rw [hres] at hfin
  have Hoth : Hid (∀ b, (Value.slice (some ⟨g, 0, none⟩) (m + 1) cap).ownBlock ≠ some b → ((w.drew.setCells g (k * 4) ((flatH l).drop ((k + 1) * 4))).setCells g (m * 4) [.int .i64 0, .int .i64 0, .int .i64 0, .bool false]).heap[b]? = w.heap[b]?) := Lib.hid fun b hb => by
    have hne : b ≠ g := fun e => hb (by rw [e]; rfl)
    exact (setCells_other hne _ _ _).trans (setCells_other hne _ _ _)
  have Hfin : Hid (OwnsH ((w.drew.setCells g (k * 4) ((flatH l).drop ((k + 1) * 4))).setCells g (m * 4) [.int .i64 0, .int .i64 0, .int .i64 0, .bool false]) base 64 (.slice (some ⟨g, 0, none⟩) m cap) (l.take k ++ l.drop (k + 1))) := Lib.hid (by unfold OwnsH; rw [hrl]; exact hfin)
  have Hb2 := Lib.hid hb2; have Hclr := Lib.hid hclr
  have i1 : (0 : Int) ≤ (k : Int) := by omega
  have i2 : (k : Int) ≤ (k : Int) + 1 := by omega
  have i3 : (k : Int) + 1 ≤ (m : Int) + 1 := by omega
  have i4 : ((k : Int) == (k : Int) + 1) = false := by rw [beq_eq_false_iff_ne]; omega
  have i7 : (k : Int) ≤ (cap : Int) := by omega
  have i8 : (0 : Int) ≤ (k : Int) + 1 := by omega
  have i10 : (0 : Int) ≤ (m : Int) := by omega
  have i11 : (m : Int) ≤ (m : Int) + 1 := by omega
  have i12 : (m : Int) + 1 ≤ (cap : Int) := by omega
  have i13 : ¬ cap = m := by omega
  have Hroom := Lib.hid (show k + (m - k) ≤ cap by omega)
  have He := Lib.hid (show k + (m - k) = m by omega)
  by_cases hce : cap = k + 1
  · obtain rfl : k = m := by omega
    subst hce
    have hdl0 : ((flatH l).drop ((k + 1) * 4)).length = 0 * 4 := by rw [hdl]; omega
    have hc : ∀ j u, ((flatH l).drop ((k + 1) * 4))[j]? = some u → w.drew.cell? ((⟨g, 0, none⟩ : Addr).add j) = some u := fun j u hu => by
      rw [List.getElem?_eq_none (by omega)] at hu
      cases hu
    have Hc := Lib.hid hc; have Hspare := Lib.hid hspare; have Hdl := Lib.hid hdl0; have Hone := Lib.hid hone
    have Hroom := Lib.hid (show k + 0 ≤ k + 1 by omega)
    clear hown hown1 hxl hmx hblk hcs htk hcell hsp hdl hfin hone hspare hc hb1 hb2 hclr hres hrl hn hkm hdl0
    go_enter Try.func39, Try.ntmps39
    go_wp2_with fail
    go_region_law ((refine step_append_room rfl (.tmp 22) (.tmp 25) 62 rfl 64 i0 4 Try.underlying62 hi0 hsz0 g 0 k (k + 1) (by rfl) ⟨g, 0, none⟩ 0 0 ((flatH l).drop ((k + 1) * 4)) (by rfl) Hdl.out Hc.out Hone.out Hroom.out Hspare.out ?_))
    rw [Nat.add_zero]
    have hclr := Hclr.out
    clear Hclr
    generalize w.drew.setCells g (k * 4) ((flatH l).drop ((k + 1) * 4)) = W1 at *
    go_wp2_with fail
    go_ret
    exact ⟨_, rfl, Hfin.out, Hb2.out, Hoth.out, fun _ h => h⟩
  · have hc : ∀ j u, ((flatH l).drop ((k + 1) * 4))[j]? = some u → w.drew.cell? ((⟨g, (k + 1) * 4, none⟩ : Addr).add j) = some u := fun j u hu => by
      rw [List.getElem?_drop] at hu
      have := hcell _ _ hu
      have e : (⟨g, (k + 1) * 4, none⟩ : Addr).add j = ⟨g, (k + 1) * 4 + j, none⟩ := by unfold Addr.add; split <;> simp_all
      rw [e]
      exact this
    have Hc := Lib.hid hc; have Hspare := Lib.hid hspare; have Hdl := Lib.hid hdl; have Hone := Lib.hid hone
    have i5 : ¬ cap = k + 1 := hce
    clear hown hown1 hxl hmx hblk hcs htk hcell hsp hdl hfin hone hspare hc hb1 hb2 hclr hres hrl hn hkm
    go_enter Try.func39, Try.ntmps39
    go_wp2_with fail
    go_region_law ((refine step_append_room rfl (.tmp 22) (.tmp 25) 62 rfl 64 i0 4 Try.underlying62 hi0 hsz0 g 0 k cap (by rfl) ⟨g, (k + 1) * 4, none⟩ (m - k) (cap - (k + 1)) ((flatH l).drop ((k + 1) * 4)) (by rfl) Hdl.out Hc.out Hone.out Hroom.out Hspare.out ?_))
    rw [He.out]
    have hclr := Hclr.out
    clear Hclr
    generalize w.drew.setCells g (k * 4) ((flatH l).drop ((k + 1) * 4)) = W1 at *
    go_wp2_with fail
    go_ret
    exact ⟨_, rfl, Hfin.out, Hb2.out, Hoth.out, fun _ h => h⟩
end Go.Proofs.Ytgdcgdjlhljbiaa
