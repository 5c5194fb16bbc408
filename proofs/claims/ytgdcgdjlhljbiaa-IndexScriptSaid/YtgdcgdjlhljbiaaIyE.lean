/- Law 42: slices.Delete at entries. -/
import Derived.Test.YtgdcgdjlhljbiaaIyD
import Derived.Test.YtgdcgdjlhljbiaaIyC
namespace Go.Proofs.Ytgdcgdjlhljbiaa
open Go.RowKit

theorem run_clear1 {P : Program} (w : World) (ty tS tE : TypeId) (z : Array Value) (hu : P.underlying tS = some (.slice tE)) (hzv : (zeroValue tE).run P w = .ok (.agg z) w) (b o c : Nat) (hz1 : ∀ v ∈ z.toList, v.oneCell' = true)
    (hc : ∀ j, j < z.size → (w.cell? ⟨b, o + j, none⟩).isSome = true) (hf : ∀ j, j < z.size → w.frozen? ⟨b, o + j, none⟩ = false) :
    (Builtin.clear_ #[tS] ty #[.slice (some ⟨b, o, none⟩) 1 c]).run P w = .ok (.tuple #[]) (w.setCells b o z.toList) := by
  have hst := run_storeCells_cells (P := P) b o z.toList 0 w (by simpa using hc) (by simpa using hf) hz1
  simp only [Nat.add_zero] at hst
  have hzc : (Builtin.zeroCells z 1).toList = z.toList := by
    simp only [Builtin.zeroCells, Nat.one_mul, Array.toList_map, Array.toList_range]
    apply List.ext_getElem
    · simp
    · intro i h1 h2
      have h3 : i < z.size := by simpa using h2
      simp [Nat.mod_eq_of_lt h3, getElem!_pos z i h3]
  simp [Builtin.clear_, run_underlying hu, hzv, Value.cells, hzc, hst]
theorem wpList_clear1 {P : Program} {ops : Array Oper} {rest : List Oper} {o : Oper} {a : Act} {Q : Exit → Act → World → Prop} (hgd : o.guard = none) (s : Operand) (t : TypeId)
    (ho : o.op = .call { callee := .builtin .clear, args := #[s], argTypes := #[t] }) {w w' : World} (v u : Value) (hs : a.eval s = v) (hr : (Builtin.clear_ #[t] o.type #[v]).run P w = .ok u w')
    (h : wpList P ops Q rest (a.put o.dst u) w') : wpList P ops Q (o :: rest) a w := by
  refine wpList_plain hgd fun K hK => ?_
  unfold Oper.wp execOp
  simp only [ho, resolve, invoke, builtin, Sem.run_bind, Sem.run_pure, Result.andThen_ok, List.map_toArray, List.map_cons, List.map_nil, hs, hr]
  exact hK _ _ h
theorem below_setAll {B b : Nat} {a : World} (hb : B ≤ b) : ∀ (vs : List Value) (o : Nat) (w : World), Below B a w → Below B a (w.setCells b o vs)
  | [], _, _, h => h
  | v :: r, o, w, h => by
    show Below B a ((w.setCell ⟨b, o, none⟩ v).setCells b (o + 1) r)
    exact below_setAll hb r _ _ (h.setCell (p := ⟨b, o, none⟩) hb v)
def DelE (base : Nat) (w : World) (l : List En) (k : Nat) (e : Ending) (w' : World) : Prop := ∃ v', e = .returned v' ∧ OwnsE w' base 75 v' (l.take k ++ l.drop (k + 1)) ∧ Below base w w'
set_option maxRecDepth 100000 in
set_option maxHeartbeats 2000000 in
theorem slDeleteEntry_c (v : Value) (l : List En) (w : World) (base : Nat) (hown : OwnsE w base 75 v l) (k : Nat) (hk : k < l.length) (hl : l.length ≤ 100000) :
    Calls Try.prog 66 #[v, .int .i64 (k : Int), .int .i64 ((k + 1 : Nat) : Int)] w (DelE base w l k) := by
  obtain ⟨g, cap, rfl, hgb, hgl, hcap, hcm⟩ := own_formE hown (by omega)
  obtain ⟨m, hn⟩ : ∃ m, m + 1 = l.length := ⟨l.length - 1, by omega⟩
  obtain ⟨i0, hi0, hz0, hsz0, hby0⟩ := info_parts tXEntryInfo
  have hown1 : w.drew.ownsRow base 75 3 (.slice (some ⟨g, 0, none⟩) (m + 1) cap) (m + 1) (flatE l) := by rw [hn]; exact hown
  rw [← hn] at hcap ⊢
  have hkm : k ≤ m := by omega
  obtain ⟨_, hxl, _, hmx, cur, hblk, hcs, htk⟩ := own_blk hown1
  have hcell : ∀ j u, (flatE l)[j]? = some u → w.drew.cell? ⟨g, j, none⟩ = some u := fun j u hu => by
    have hj : j < (m + 1) * 3 := by
      rcases Nat.lt_or_ge j ((m + 1) * 3) with h | h
      · exact h
      · rw [List.getElem?_eq_none (by omega)] at hu; cases hu
    rw [blk_cell hblk, ← hu, ← htk, List.getElem?_take_of_lt hj, Array.getElem?_toList]
  have hsp : ∀ j, j < cap * 3 → (w.drew.cell? ⟨g, j, none⟩).isSome = true ∧ w.drew.frozen? ⟨g, j, none⟩ = false := fun j hj => by
    refine ⟨?_, blk_frozen hblk j⟩
    rw [blk_cell hblk, Array.getElem?_eq_getElem (by omega)]
    rfl
  have hdl : ((flatE l).drop ((k + 1) * 3)).length = (m - k) * 3 := by rw [List.length_drop, hxl, ← Nat.sub_mul]; congr 1; omega
  have hfin := own_del hown1 (show k < m + 1 by omega) (z := [.int .i64 0, .int .i64 0, .int .i64 0]) rfl
  simp only [Nat.add_sub_cancel] at hfin
  have hone : ∀ u ∈ (flatE l).drop ((k + 1) * 3), u.oneCell' = true := fun u hu => flatE_one l u (List.mem_of_mem_drop hu)
  have hspare : ∀ j, j < ((flatE l).drop ((k + 1) * 3)).length → (w.drew.cell? ⟨g, 0 + k * 3 + j, none⟩).isSome = true ∧ w.drew.frozen? ⟨g, 0 + k * 3 + j, none⟩ = false := fun j hj => by
    rw [hdl] at hj
    exact hsp _ (by omega)
  have hb1 : Below base w ((w.drew.setCells g (k * 3) ((flatE l).drop ((k + 1) * 3)))) := below_setAll hgb _ _ _ (Below.refl _ _).drew
  have hb2 : Below base w ((w.drew.setCells g (k * 3) ((flatE l).drop ((k + 1) * 3))).setCells g (m * 3) [.int .i64 0, .int .i64 0, .int .i64 0]) := below_setAll hgb _ _ _ hb1
  have hclr : ∀ ty c, (Builtin.clear_ #[84] ty #[.slice (some ⟨g, m * 3, none⟩) 1 c]).run Try.prog (w.drew.setCells g (k * 3) ((flatE l).drop ((k + 1) * 3))) = .ok (.tuple #[]) ((w.drew.setCells g (k * 3) ((flatE l).drop ((k + 1) * 3))).setCells g (m * 3) [.int .i64 0, .int .i64 0, .int .i64 0]) := fun ty c => by
    have hblk1 := setCells_blk ((flatE l).drop ((k + 1) * 3)) _ _ (k * 3) hblk
    refine run_clear1 _ ty 84 75 #[.int .i64 0, .int .i64 0, .int .i64 0] Try.underlying84 (Try.zeroValue75 _) g (m * 3) c (by simp [Value.oneCell']) (fun j hj => ?_) (fun j _ => blk_frozen hblk1 _)
    rw [blk_cell hblk1, Array.getElem?_eq_getElem (by rw [putAll_size, hcs]; simp at hj; omega)]
    rfl
  have hres : (flatE l).take (k * 3) ++ (flatE l).drop ((k + 1) * 3) = flatE (l.take k ++ l.drop (k + 1)) := by
    rw [flatE_append]
    congr 1
    · exact (flatMap_take (k := 3) _ (fun _ => rfl) l k).symm
    · exact (flatMap_drop (k := 3) _ (fun _ => rfl) l (k + 1)).symm
  have hrl : (l.take k ++ l.drop (k + 1)).length = m := by simp; omega
  rw [hres] at hfin
  have Hfin : Hid (OwnsE ((w.drew.setCells g (k * 3) ((flatE l).drop ((k + 1) * 3))).setCells g (m * 3) [.int .i64 0, .int .i64 0, .int .i64 0]) base 75 (.slice (some ⟨g, 0, none⟩) m cap) (l.take k ++ l.drop (k + 1))) := Lib.hid (by unfold OwnsE; rw [hrl]; exact hfin)
  have Hb2 := Lib.hid hb2; have Hclr := Lib.hid hclr
  have i1 : (0 : Int) ≤ (k : Int) := by omega
  have i2 : (k : Int) ≤ (k : Int) + 1 := by omega
  have i3 : (k : Int) + 1 ≤ (m : Int) + 1 := by omega
  have i4 : ((k : Int) == (k : Int) + 1) = false := by rw [beq_eq_false_iff_ne]; omega
  have i7 : (k : Int) ≤ (cap : Int) := by omega
  have i8 : (0 : Int) ≤ (k : Int) + 1 := by omega
  have i10 : (0 : Int) ≤ (m : Int) := by omega
  have i11 : (m : Int) ≤ (m : Int) + 1 := by omega
  have i12 : (m : Int) + 1 ≤ (cap : Int) := by omega
  have i13 : ¬ cap = m := by omega
  have Hroom := Lib.hid (show k + (m - k) ≤ cap by omega)
  have He := Lib.hid (show k + (m - k) = m by omega)
  by_cases hce : cap = k + 1
  · obtain rfl : k = m := by omega
    subst hce
    have hdl0 : ((flatE l).drop ((k + 1) * 3)).length = 0 * 3 := by rw [hdl]; omega
    have hc : ∀ j u, ((flatE l).drop ((k + 1) * 3))[j]? = some u → w.drew.cell? ((⟨g, 0, none⟩ : Addr).add j) = some u := fun j u hu => by
      rw [List.getElem?_eq_none (by omega)] at hu
      cases hu
    have Hc := Lib.hid hc; have Hspare := Lib.hid hspare; have Hdl := Lib.hid hdl0; have Hone := Lib.hid hone
    have Hroom := Lib.hid (show k + 0 ≤ k + 1 by omega)
    clear hown hown1 hxl hmx hblk hcs htk hcell hsp hdl hfin hone hspare hc hb1 hb2 hclr hres hrl hn hkm hdl0
    go_enter Try.func66, Try.ntmps66
    go_wp2_with fail
    go_region_law ((refine step_append_room rfl (.tmp 22) (.tmp 25) 84 rfl 75 i0 3 Try.underlying84 hi0 hsz0 g 0 k (k + 1) (by rfl) ⟨g, 0, none⟩ 0 0 ((flatE l).drop ((k + 1) * 3)) (by rfl) Hdl.out Hc.out Hone.out Hroom.out Hspare.out ?_))
    rw [Nat.add_zero]
    have hclr := Hclr.out
    clear Hclr
    generalize w.drew.setCells g (k * 3) ((flatE l).drop ((k + 1) * 3)) = W1 at *
    go_wp2_with fail
    go_ret
    exact ⟨_, rfl, Hfin.out, Hb2.out⟩
  · have hc : ∀ j u, ((flatE l).drop ((k + 1) * 3))[j]? = some u → w.drew.cell? ((⟨g, (k + 1) * 3, none⟩ : Addr).add j) = some u := fun j u hu => by
      rw [List.getElem?_drop] at hu
      have := hcell _ _ hu
      have e : (⟨g, (k + 1) * 3, none⟩ : Addr).add j = ⟨g, (k + 1) * 3 + j, none⟩ := by unfold Addr.add; split <;> simp_all
      rw [e]
      exact this
    have Hc := Lib.hid hc; have Hspare := Lib.hid hspare; have Hdl := Lib.hid hdl; have Hone := Lib.hid hone
    have i5 : ¬ cap = k + 1 := hce
    clear hown hown1 hxl hmx hblk hcs htk hcell hsp hdl hfin hone hspare hc hb1 hb2 hclr hres hrl hn hkm
    go_enter Try.func66, Try.ntmps66
    go_wp2_with fail
    go_region_law ((refine step_append_room rfl (.tmp 22) (.tmp 25) 84 rfl 75 i0 3 Try.underlying84 hi0 hsz0 g 0 k cap (by rfl) ⟨g, (k + 1) * 3, none⟩ (m - k) (cap - (k + 1)) ((flatE l).drop ((k + 1) * 3)) (by rfl) Hdl.out Hc.out Hone.out Hroom.out Hspare.out ?_))
    rw [He.out]
    have hclr := Hclr.out
    clear Hclr
    generalize w.drew.setCells g (k * 3) ((flatE l).drop ((k + 1) * 3)) = W1 at *
    go_wp2_with fail
    go_ret
    exact ⟨_, rfl, Hfin.out, Hb2.out⟩
end Go.Proofs.Ytgdcgdjlhljbiaa
