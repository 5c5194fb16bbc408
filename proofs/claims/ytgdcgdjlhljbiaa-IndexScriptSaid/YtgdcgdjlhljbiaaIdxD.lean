/- Law 42: the walk of index.Valid. -/
import Derived.Test.YtgdcgdjlhljbiaaIdxC
namespace Go.Proofs.Ytgdcgdjlhljbiaa
open Go.RowKit

theorem tBoolInfo : (Try.prog.info? 4).map (fun i => (i.zero, i.size, i.bytes)) = some (some (.bool false), 1, 1) := by kernel_rfl
theorem made_bools (w : World) (n : Nat) (hn : n ≤ 1000000) : (Instr.makeSlice 73 (.int .i64 n) (.int .i64 n)).run Try.prog w = .ok (.slice (some ⟨w.heap.size, 0, none⟩) n n) (w.alloc (.cells ((List.replicate n false).map Value.bool).toArray 4)) := by
  obtain ⟨i, hi, hz, hsz, hby⟩ := info_parts tBoolInfo
  have hr := run_make (P := Try.prog) w 73 4 i (.bool false) Try.underlying73 hi hz .i64 .i64 n n (by omega) (Int.le_refl _) (by rw [hby]; omega) (by omega)
  rw [hr, hsz]
  have : madeCells (Value.bool false).cells ((n : Int).toNat * 1) = ((List.replicate n false).map Value.bool).toArray := by
    rw [← Array.toList_inj]
    show (madeCells #[Value.bool false] _).toList = _
    rw [toList_madeCells_one]
    simp
  rw [this]; rfl
theorem getD_bool {S : List Bool} {j : Nat} (h : j < S.length) : S.getD j false = S[j] := by simp [h]
/-- Does the list hold false? -/
theorem slIndexBools_c (g n : Nat) (S : List Bool) (hS : S.length = n) (hn : n ≤ 1000000) (w : World) (hc : ∀ i, i < n → w.cell? ⟨g, i, none⟩ = some (.bool (S.getD i false))) :
    Calls Try.prog 69 #[.slice (some ⟨g, 0, none⟩) n n, .bool false] w fun e w' => w' = w ∧ ∃ r : Int, e = .returned (.int .i64 r) ∧ decide (0 ≤ r) = !S.all id := by
  have Hc := Lib.hid hc; clear hc
  go_enter Try.func69, Try.ntmps69
  go_wp2_with fail
  go_loop [8] (fun i => ∃ k : Nat, k ≤ n ∧ i = .int .i64 k ∧ Hid (∀ j, j < k → S.getD j false = true)) (fun i => n - (intOf i).toNat)
  case atStart => exact ⟨0, Nat.zero_le _, rfl, fun j hj => absurd hj (by omega)⟩
  case round =>
    obtain ⟨k, hk, rfl, hp⟩ := hrel
    by_cases hlt : k < n
    · have c0 := Hc.out k hlt
      cases hd : S.getD k false
      · rw [hd] at c0
        have Hd := Lib.hid hd; clear hd
        go_wp2_with fail
        go_ret
        refine ⟨rfl, k, rfl, ?_⟩
        have : S.all id = false := by
          rw [Bool.eq_false_iff]
          intro h
          rw [List.all_eq_true] at h
          have h1 := h (S[k]'(by omega)) (List.getElem_mem _)
          have h2 := Hd.out
          rw [getD_bool (by omega)] at h2
          rw [h2] at h1; cases h1
        rw [this]; simp
      · rw [hd] at c0
        have Hd := Lib.hid hd; clear hd
        go_wp2_with fail
        go_round
        case rel => exact ⟨k + 1, by omega, by go_num, fun j hj => by
          rcases Nat.lt_or_ge j k with h | h
          · exact hp.out j h
          · obtain rfl : j = k := by omega
            exact Hd.out⟩
        case measure => simp [intOf]; omega
    · obtain rfl : k = n := by omega
      go_wp2
      go_ret
      refine ⟨rfl, -1, rfl, ?_⟩
      have : S.all id = true := by
        rw [List.all_eq_true]
        intro b hb
        obtain ⟨j, hj, rfl⟩ := List.mem_iff_getElem.1 hb
        have := hp.out j (by omega)
        rw [getD_bool hj] at this
        exact this
      rw [this]; rfl
theorem slContainsBools_c (g n : Nat) (S : List Bool) (hS : S.length = n) (hn : n ≤ 1000000) (w : World) (hc : ∀ i, i < n → w.cell? ⟨g, i, none⟩ = some (.bool (S.getD i false))) :
    Calls Try.prog 45 #[.slice (some ⟨g, 0, none⟩) n n, .bool false] w fun e w' => e = .returned (.bool (!S.all id)) ∧ w' = w := by
  have hcon := slIndexBools_c g n S hS hn w hc
  have Hcon := Lib.hid hcon; clear hcon hc
  go_enter Try.func45, Try.ntmps45
  go_wp2_with fail
  refine Hcon.out.mono ?_
  rintro e w' ⟨rfl, r, rfl, hr⟩
  go_wp2_with fail
  go_ret
  exact ⟨rfl, rfl⟩

/-- What Valid answers. -/
def treeB (N : List Nd) (root : Int) : Bool := decide (N.length ≤ 1000) && ((visitF N (N.length + 1) root (vst0 N.length)).1.2.2 && (visitF N (N.length + 1) root (vst0 N.length)).2.seen.all id)
theorem treeB_iff (N : List Nd) (root : Int) : treeB N root = true ↔ N.length ≤ 1000 ∧ validT N root := by
  unfold treeB
  rw [Bool.and_eq_true, decide_eq_true_eq, Bool.and_eq_true, ← valid_iff]
  have hk := (visit_keep N (N.length + 1) root (vst0 N.length) (by simp [vst0])).1
  rcases hv : visitF N (N.length + 1) root (vst0 N.length) with ⟨⟨h, m, ok⟩, s⟩
  rw [hv] at hk
  simp only at hk ⊢
  refine and_congr_right fun _ => ?_
  constructor
  · rintro ⟨rfl, ha⟩
    refine ⟨h, m, s, rfl, fun j hj => ?_⟩
    rw [getD_bool (by omega)]
    rw [List.all_eq_true] at ha
    exact ha _ (List.getElem_mem _)
  · rintro ⟨h', m', s', he, ha⟩
    simp only [Prod.mk.injEq] at he
    obtain ⟨⟨rfl, rfl, rfl⟩, rfl⟩ := he
    refine ⟨rfl, ?_⟩
    rw [List.all_eq_true]
    intro b hb
    obtain ⟨j, hj, rfl⟩ := List.mem_iff_getElem.1 hb
    have := ha j (by omega)
    rw [getD_bool hj] at this
    exact this
set_option maxRecDepth 100000 in
theorem xValid_c (v : Value) (root : Int) (N : List Nd) (w : World) (hs : IsNodes w v N) : Calls Try.prog 14 #[.agg #[v, .int .i64 root]] w (Ret w (.bool (treeB N root))) := by
  have hval : treeB N root = (decide (N.length ≤ 1000) && ((visitF N (N.length + 1) root (vst0 N.length)).1.2.2 && (visitF N (N.length + 1) root (vst0 N.length)).2.seen.all id)) := rfl
  have Hval := Lib.hid hval
  clear hval
  generalize treeB N root = r at *
  obtain ⟨A, c, rfl, hnc, hc⟩ := hs.form
  by_cases hn : N.length ≤ 1000
  rotate_left
  · have e : r = false := by rw [Hval.out, decide_eq_false hn]; rfl
    subst e
    have t0 : decide (1000 < (N.length : Int)) = true := by rw [decide_eq_true_eq]; omega
    go_enter Try.func14, Try.ntmps14
    go_wp2_with fail
    go_ret
    exact ⟨rfl, (Below.refl _ _).alloc (Nat.le_refl _) _⟩
  have t0 : decide (1000 < (N.length : Int)) = false := by rw [decide_eq_false_iff_not]; omega
  have hmk := fun w => made_bools w N.length (by omega)
  go_enter Try.func14, Try.ntmps14
  go_wp2_with fail
  go_region_held3 (fun w' => w'.cell? ⟨w.heap.size, 0, none⟩ = some (.slice A N.length c) ∧ w'.cell? ⟨w.heap.size, 1, none⟩ = some (.int .i64 root)) (go_keep) (first | fail)
  have hbw : Below w.heap.size w ((((w.alloc (.cells #[.slice A N.length c, .int .i64 root] 24)).alloc (.cells (Array.replicate N.length (Value.bool false)) 4)).alloc (.cells #[.slice A N.length c, .int .i64 root, .slice (some ⟨w.heap.size + 1, 0, none⟩) N.length N.length, .int .i64 0, .int .i64 0, .int .i64 0, .bool false] 77)).drew) := (((((Below.refl _ _).alloc (Nat.le_refl _) _).alloc (by simp) _).alloc (by simp; omega) _)).trans ((Below.refl _ _).drew)
  have hck : ChkAt ((((w.alloc (.cells #[.slice A N.length c, .int .i64 root] 24)).alloc (.cells (Array.replicate N.length (Value.bool false)) 4)).alloc (.cells #[.slice A N.length c, .int .i64 root, .slice (some ⟨w.heap.size + 1, 0, none⟩) N.length N.length, .int .i64 0, .int .i64 0, .int .i64 0, .bool false] 77)).drew) (w.heap.size + 1 + 1) (w.heap.size + 1) (.slice A N.length c) root (vst0 N.length) := by
    constructor
    · show (((w.alloc (.cells #[.slice A N.length c, .int .i64 root] 24)).alloc (.cells (Array.replicate N.length (Value.bool false)) 4)).alloc (.cells #[.slice A N.length c, .int .i64 root, .slice (some ⟨w.heap.size + 1, 0, none⟩) N.length N.length, .int .i64 0, .int .i64 0, .int .i64 0, .bool false] 77)).heap[w.heap.size + 1 + 1]? = _
      have h := heap_alloc_new ((w.alloc (.cells #[.slice A N.length c, .int .i64 root] 24)).alloc (.cells (Array.replicate N.length (Value.bool false)) 4)) (.cells #[.slice A N.length c, .int .i64 root, .slice (some ⟨w.heap.size + 1, 0, none⟩) N.length N.length, .int .i64 0, .int .i64 0, .int .i64 0, .bool false] 77)
      rw [show ((w.alloc (.cells #[.slice A N.length c, .int .i64 root] 24)).alloc (.cells (Array.replicate N.length (Value.bool false)) 4)).heap.size = w.heap.size + 1 + 1 from by simp] at h
      rw [h]
      simp [chkCells, vst0]
    · show (((w.alloc (.cells #[.slice A N.length c, .int .i64 root] 24)).alloc (.cells (Array.replicate N.length (Value.bool false)) 4)).alloc (.cells #[.slice A N.length c, .int .i64 root, .slice (some ⟨w.heap.size + 1, 0, none⟩) N.length N.length, .int .i64 0, .int .i64 0, .int .i64 0, .bool false] 77)).heap[w.heap.size + 1]? = _
      have hb := (Below.refl ((w.alloc (.cells #[.slice A N.length c, .int .i64 root] 24)).alloc (.cells (Array.replicate N.length (Value.bool false)) 4)).heap.size ((w.alloc (.cells #[.slice A N.length c, .int .i64 root] 24)).alloc (.cells (Array.replicate N.length (Value.bool false)) 4))).alloc (Nat.le_refl _) (.cells #[.slice A N.length c, .int .i64 root, .slice (some ⟨w.heap.size + 1, 0, none⟩) N.length N.length, .int .i64 0, .int .i64 0, .int .i64 0, .bool false] 77)
      rw [hb.block _ (by simp)]
      have h := heap_alloc_new (w.alloc (.cells #[.slice A N.length c, .int .i64 root] 24)) (.cells (Array.replicate N.length (Value.bool false)) 4)
      rw [show (w.alloc (.cells #[.slice A N.length c, .int .i64 root] 24)).heap.size = w.heap.size + 1 from by simp] at h
      rw [h]
      simp [vst0]
  have hr1 : ((((w.alloc (.cells #[.slice A N.length c, .int .i64 root] 24)).alloc (.cells (Array.replicate N.length (Value.bool false)) 4)).alloc (.cells #[.slice A N.length c, .int .i64 root, .slice (some ⟨w.heap.size + 1, 0, none⟩) N.length N.length, .int .i64 0, .int .i64 0, .int .i64 0, .bool false] 77)).drew).cell? ⟨w.heap.size, 1, none⟩ = some (.int .i64 root) := by
    have h := heap_alloc_new w (.cells #[.slice A N.length c, .int .i64 root] 24)
    have hb := ((((Below.refl (w.heap.size + 1) (w.alloc (.cells #[.slice A N.length c, .int .i64 root] 24))).alloc (by simp) (.cells (Array.replicate N.length (Value.bool false)) 4)).alloc (by simp) (.cells #[.slice A N.length c, .int .i64 root, .slice (some ⟨w.heap.size + 1, 0, none⟩) N.length N.length, .int .i64 0, .int .i64 0, .int .i64 0, .bool false] 77))).trans (Below.refl _ _).drew
    rw [hb.cell (p := ⟨w.heap.size, 1, none⟩) (show w.heap.size < w.heap.size + 1 by omega)]
    simp only [World.cell?, h]
    rfl
  generalize (((w.alloc (.cells #[.slice A N.length c, .int .i64 root] 24)).alloc (.cells (Array.replicate N.length (Value.bool false)) 4)).alloc (.cells #[.slice A N.length c, .int .i64 root, .slice (some ⟨w.heap.size + 1, 0, none⟩) N.length N.length, .int .i64 0, .int .i64 0, .int .i64 0, .bool false] 77)).drew = w1 at *
  have hs1 := hs.below hbw
  have hz1 := hbw.size
  have hvis := xvisit_c N hn w _ hs (w.heap.size + 1 + 1) (w.heap.size + 1) root (by omega) (by omega) (by omega) (N.length + 1) root (vst0 N.length) w1 (by simp [vst0]) (by simp [vst0]) hck hbw
  have hkeep := (visit_keep N (N.length + 1) root (vst0 N.length) (by simp [vst0])).1
  have hgB : w.heap.size + 1 ≤ w.heap.size + 1 + 1 := by omega
  rcases hv : visitF N (N.length + 1) root (vst0 N.length) with ⟨⟨h, m, ok⟩, s⟩
  rw [hv] at hvis hkeep Hval
  simp only at hkeep
  rw [decide_eq_true hn, Bool.true_and] at Hval
  simp only at Hval
  have hgw : w.heap.size ≤ w.heap.size + 1 := by omega
  generalize w.heap.size + 1 = g at *
  generalize hB : g + 1 = B at *
  have hgB' : g ≠ B := by omega
  have Hvis := Lib.hid hvis; have HB := Lib.hid hB
  clear hvis hB hck hmk hv
  go_wp2_with fail
  refine Hvis.out.mono ?_
  rintro e w2 ⟨rfl, hk2, hd2⟩
  have hret : Below w.heap.size w w2 := hbw.trans (hd2.below (by have := HB.out; omega) hgw hz1)
  cases ok
  · have e : r = false := Hval.out
    subst e
    go_wp2_with fail
    go_ret
    exact ⟨rfl, hret⟩
  · have e : r = s.seen.all id := by rw [Hval.out]; rfl
    have hcon := slContainsBools_c g N.length s.seen hkeep (by omega) w2 (fun i hi => hk2.sc i (show i < s.seen.length by omega))
    rw [← e] at hcon
    have k2 := hk2.k2
    rw [hkeep] at k2
    have Hcon := Lib.hid hcon; have Hret := Lib.hid hret
    clear hcon e hret
    go_wp2_with fail
    refine Hcon.out.mono ?_
    rintro e w3 ⟨rfl, rfl⟩
    go_wp2_with fail
    go_ret
    exact ⟨by simp, Hret.out⟩
end Go.Proofs.Ytgdcgdjlhljbiaa
