/- Law 47: slices.Repeat of one number. -/
import Derived.Test.YtcppcfinnbeboaaGreatDjS
namespace Go.Proofs.YtcppcfinnbeboaaGreat
open Go.RowKit Go.Shelf

theorem dj_copy {P : Program} (w : World) (dT sT ty elem : TypeId) (b o dLen dCap : Nat) (a : Addr) (sLen sCap size m : Nat) (cs : List Value)
    (hu : P.underlying dT = some (.slice elem)) (hs : (P.info? elem).map (·.size) = some size) (hm : m = Nat.min sLen dLen) (hn : cs.length = m * size)
    (hsrc : ∀ j v, cs[j]? = some v → w.cell? (a.add j) = some v) (hc : ∀ j, j < cs.length → (w.cell? ⟨b, o + j, none⟩).isSome = true) (hf : ∀ j, j < cs.length → w.frozen? ⟨b, o + j, none⟩ = false) (h1 : ∀ v ∈ cs, v.oneCell' = true) :
    (Builtin.copy_ #[dT, sT] ty #[.slice (some ⟨b, o, none⟩) dLen dCap, .slice (some a) sLen sCap]).run P w = .ok (goInt m) (w.setCells b o cs) := by
  have hl := run_loadCells_list (P := P) w a cs hsrc
  have hst := run_storeCells_cells (P := P) b o cs 0 w (by simpa using hc) (by simpa using hf) h1
  cases hq : P.info? elem with
  | none => simp [hq] at hs
  | some i =>
    have hi : i.size = size := by simpa [hq] using hs
    simp [Builtin.copy_, run_underlying hu, Builtin.lenOf, Builtin.firstCells, sizeOf, typeInfo, hq, hi, ← hm, ← hn, hl, hst]
theorem tIntInfo47 : (Tryz.prog.info? 3).map (fun i => (i.zero, i.size, i.bytes)) = some (some (.int .i64 0), 1, 8) := by kernel_rfl
theorem made_intN (w : World) (n : Nat) (hn : n ≤ 1000000) : (Instr.makeSlice 25 (.int .i64 n) (.int .i64 n)).run Tryz.prog w = .ok (.slice (some ⟨w.heap.size, 0, none⟩) n n) (w.alloc (.cells (Array.replicate n (.int .i64 0)) 3)) := by
  obtain ⟨i, hi, hz, hsz, hby⟩ := info_parts tIntInfo47
  have hr := run_make (P := Tryz.prog) w 25 3 i (.int .i64 0) Tryz.underlying25 hi hz .i64 .i64 n n (by omega) (Int.le_refl _) (by rw [hby]; omega) (by omega)
  rw [hr, hsz]
  have : madeCells (Value.int .i64 0).cells ((n : Int).toNat * 1) = (Array.replicate n (.int .i64 0)) := by
    rw [← Array.toList_inj]
    show (madeCells #[Value.int .i64 0] _).toList = _
    rw [toList_madeCells_one]
    simp
  rw [this]; rfl
/-- The first m numbers of a row are x. -/
def RepAt (w : World) (g n m : Nat) (x : Int) : Prop := ∃ cs : Array Value, w.heap[g]? = some (.cells cs 3 (0, 0)) ∧ cs.size = n ∧ ∀ j, j < m → cs[j]? = some (.int .i64 x)
theorem RepAt.copy {w : World} {g n m k : Nat} {x : Int} (h : RepAt w g n m x) (hk : m + k ≤ n) : RepAt (w.setCells g m (List.replicate k (.int .i64 x))) g n (m + k) x := by
  obtain ⟨cs, h1, h2, h3⟩ := h
  refine ⟨_, setCells_blk _ _ _ _ h1, by rw [putAll_size, h2], fun j hj => ?_⟩
  rw [putAll_get _ _ _ _ (by simp; omega)]
  by_cases hm : j < m
  · rw [if_neg (by omega)]; exact h3 j hm
  · rw [if_pos (by simp; omega), List.getElem?_replicate, if_pos (by omega)]
theorem RepAt.run {w : World} {g n m k : Nat} {x : Int} (h : RepAt w g n m x) (hm : m ≤ n) (hk : k = Nat.min m (n - m)) : ∀ ty dc sc, (Builtin.copy_ #[25, 25] ty #[.slice (some ⟨g, m, none⟩) (n - m) dc, .slice (some ⟨g, 0, none⟩) m sc]).run Tryz.prog w = .ok (goInt (k : Int)) (w.setCells g m (List.replicate k (.int .i64 x))) := fun ty dc sc => by
  obtain ⟨cs, h1, h2, h3⟩ := h
  have hkm : k ≤ m ∧ m + k ≤ n := by rw [hk]; simp only [Nat.min_def]; split <;> omega
  refine dj_copy w _ _ ty 3 g m (n - m) dc ⟨g, 0, none⟩ m sc 1 k _ Tryz.underlying25 (by kernel_rfl) hk (by simp) (fun j v hj => ?_) (fun j hj => ?_) (fun j _ => blk_soft h1 _) (fun v hv => ?_)
  · have hj2 : j < k := by
      rcases Nat.lt_or_ge j k with h | h
      · exact h
      · rw [List.getElem?_eq_none (by simpa using h)] at hj; cases hj
    rw [List.getElem?_replicate, if_pos hj2] at hj
    have e : (⟨g, 0, none⟩ : Addr).add j = ⟨g, j, none⟩ := by simp [Addr.add]; exact fun h => h.symm
    rw [e, blk_get h1, h3 j (by omega), hj]
  · rw [blk_get h1, Array.getElem?_eq_getElem (by simp at hj; omega)]
    rfl
  · rw [(List.mem_replicate.1 hv).2]
    rfl
theorem dj_belowSet {B b : Nat} {a : World} (hb : B ≤ b) : ∀ (vs : List Value) (o : Nat) (w : World), Below B a w → Below B a (w.setCells b o vs)
  | [], _, _, h => h
  | v :: r, o, w, h => by
    show Below B a ((w.setCell ⟨b, o, none⟩ v).setCells b (o + 1) r)
    exact dj_belowSet hb r _ _ (h.setCell (p := ⟨b, o, none⟩) hb v)
def RepRet (n : Nat) (x : Int) (w : World) (e : Ending) (w' : World) : Prop := ∃ g, e = .returned (.slice (some ⟨g, 0, none⟩) n n) ∧ RowAt w' g n (fun _ => x) ∧ w.heap.size ≤ g ∧ Below w.heap.size w w'
set_option maxRecDepth 100000 in
theorem slRepeatInt_c (g0 n : Nat) (x : Int) (w : World) (hx : w.cell? ⟨g0, 0, none⟩ = some (.int .i64 x)) (hg0 : g0 < w.heap.size) (hn : 0 < n) (hn2 : n < 25) : Calls Tryz.prog 78 #[.slice (some ⟨g0, 0, none⟩) 1 1, .int .i64 (n : Int)] w (RepRet n x w) := by
  have KM := Lib.hid fun W => bitsMul_c n hn2 W
  obtain ⟨W1, hW1⟩ : ∃ y, y = w.alloc (.cells (Array.replicate n (.int .i64 0)) 3) := ⟨_, rfl⟩
  obtain ⟨g, hg⟩ : ∃ y, y = w.heap.size := ⟨_, rfl⟩
  have hb1 : Below w.heap.size w W1 := by rw [hW1]; exact (Below.refl _ _).alloc (Nat.le_refl _) _
  have hr0 : RepAt W1 g n 0 x := ⟨_, by rw [hW1, hg]; exact heap_alloc_new w _, by simp, fun j hj => absurd hj (by omega)⟩
  have hx1 : W1.cell? ⟨g0, 0, none⟩ = some (.int .i64 x) := (hb1.cell (p := ⟨g0, 0, none⟩) hg0).trans hx
  have hcp1 : ∀ ty dc sc, (Builtin.copy_ #[25, 25] ty #[.slice (some ⟨g, 0, none⟩) n dc, .slice (some ⟨g0, 0, none⟩) 1 sc]).run Tryz.prog W1 = .ok (goInt 1) (W1.setCells g 0 [.int .i64 x]) := fun ty dc sc => by
    obtain ⟨cs, h1, h2, h3⟩ := hr0
    refine dj_copy W1 _ _ ty 3 g 0 n dc ⟨g0, 0, none⟩ 1 sc 1 1 [.int .i64 x] Tryz.underlying25 (by kernel_rfl) (by simp only [Nat.min_def]; split <;> omega) rfl (fun j v hj => ?_) (fun j hj => ?_) (fun j _ => blk_soft h1 _) (fun v hv => ?_)
    · cases j with
      | zero =>
        simp at hj
        rw [← hj]
        exact hx1
      | succ j => simp at hj
    · rw [blk_get h1, Array.getElem?_eq_getElem (by simp at hj; omega)]
      rfl
    · rw [List.mem_singleton.1 hv]
      rfl
  have hr1 : RepAt (W1.setCells g 0 [.int .i64 x]) g n 1 x := hr0.copy (k := 1) (by omega)
  have hb2 : Below w.heap.size w (W1.setCells g 0 [.int .i64 x]) := hb1.setCell (p := ⟨g, 0, none⟩) (by simp only; omega) _
  have n0 : decide ((n : Int) < 0) = false := decide_eq_false (by omega)
  have n1 : IntKind.u64.wrap (n : Int) = (n : Int) := by rw [IntKind.wrap_u64]; omega
  have n2 : IntKind.i64.wrap (n : Int) = (n : Int) := by rw [IntKind.wrap_i64]; omega
  have n3 : decide ((9223372036854775807 : Int) < (n : Int)) = false := decide_eq_false (by omega)
  have hmk := fun X => made_intN X n (by omega)
  have Hcp1 := Lib.hid hcp1; have Hr1 := Lib.hid hr1; have Hb2 := Lib.hid hb2; have HW1 := Lib.hid hW1; have Hg := Lib.hid hg; have Hn := Lib.hid hn; have Hn2 := Lib.hid hn2
  clear hb1 hr0 hx1 hcp1 hr1 hb2 hW1 hg hn hn2 hx hg0
  go_enter Tryz.func78, Tryz.ntmps78
  go_wp2_with fail
  refine (KM.out _).mono ?_
  rintro e w1 ⟨rfl, rfl⟩
  have hcp := Hcp1.out
  rw [HW1.out, Hg.out] at hcp
  go_wp2_with fail
  rw [← HW1.out, ← Hg.out]
  generalize W1.setCells g 0 [.int .i64 x] = W2 at hcp Hr1 Hb2 ⊢
  clear hcp Hcp1 hmk HW1
  go_loopw [8] (fun i wr => ∃ m : Nat, i = .int .i64 (m : Int) ∧ 0 < m ∧ m ≤ n ∧ RepAt wr g n m x ∧ Below w1.heap.size w1 wr) (fun i _ => n - (intOf i).toNat)
  case atStart => exact ⟨1, rfl, by omega, Hn.out, Hr1.out, Hb2.out⟩
  case round =>
    obtain ⟨m, rfl, hm0, hm, hr, hb⟩ := hrel
    rcases Nat.lt_or_ge m n with hlt | hge
    · have m0 : decide ((m : Int) < (n : Int)) = true := decide_eq_true (by omega)
      have m2 : (0 : Int) ≤ (m : Int) := by omega
      have m3 : (m : Int) ≤ (n : Int) := by omega
      have m4 : ¬ n = m := by omega
      obtain ⟨k, hk⟩ : ∃ k, k = Nat.min m (n - m) := ⟨_, rfl⟩
      have hk2 : 0 < k ∧ m + k ≤ n := by rw [hk]; simp only [Nat.min_def]; split <;> omega
      have hr2 : RepAt wr.drew g n m x := hr
      have hcp := hr2.run hm hk
      have hrk := hr2.copy (k := k) hk2.2
      have hbk : Below w1.heap.size w1 (wr.drew.setCells g m (List.replicate k (.int .i64 x))) := dj_belowSet (by rw [Hg.out]; exact Nat.le_refl _) _ _ _ hb.drew
      have k1 : IntKind.i64.wrap ((m : Int) + (k : Int)) = ((m + k : Nat) : Int) := by rw [IntKind.wrap_i64]; have := Hn2.out; omega
      have Hcp := Lib.hid hcp; have Hrk := Lib.hid hrk; have Hbk := Lib.hid hbk; have Hk2 := Lib.hid hk2
      clear hcp hrk hbk hk2 hr hr2 hb hk
      go_wp2_with fail
      go_region_law ((refine step_copy_runI rfl (.tmp 41) (.tmp 44) 25 25 rfl (.slice (some ⟨g, m, none⟩) (n - m) (n - m)) (.slice (some ⟨g, 0, none⟩) m n) (by simp [Act.eval, Act.put]) (by simp [Act.eval, Act.put]) (Hcp.out _ _ _) ?_))
      have hrk := Hrk.out; have hbk := Hbk.out
      generalize wr.drew.setCells g m (List.replicate k (.int .i64 x)) = W3 at hrk hbk ⊢
      simp [Act.put]
      go_wp2_with fail
      go_roundw
      case rel => exact ⟨m + k, by go_num, by omega, Hk2.out.2, hrk, hbk⟩
      case measure => have := Hk2.out; simp [intOf]; omega
    · obtain rfl : m = n := by omega
      have m0 : decide ((m : Int) < (m : Int)) = false := decide_eq_false (by omega)
      obtain ⟨cs, h1, h2, h3⟩ := hr
      have hfin : RepRet m x w1 (.returned (.slice (some ⟨g, 0, none⟩) m m)) wr := ⟨g, rfl, ⟨cs, h1, by omega, h3⟩, by rw [Hg.out]; exact Nat.le_refl _, hb⟩
      have Hfin := Lib.hid hfin
      clear hfin h1 h2 h3 hb
      go_wp2_with fail
      go_ret
      exact Hfin.out
end Go.Proofs.YtcppcfinnbeboaaGreat
