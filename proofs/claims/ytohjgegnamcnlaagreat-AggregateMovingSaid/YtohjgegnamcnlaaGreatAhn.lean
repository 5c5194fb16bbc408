/- Law 39: Clone at facts, aggregate.Moving. -/
import Derived.Test.YtohjgegnamcnlaaGreatAhc
import Derived.Test.YtohjgegnamcnlaaGreatAgU
namespace Go.Proofs.YtohjgegnamcnlaaGreat
open Go.RowKit Go.Shelf Go.Sort

def fcT (F : List Fct) (T : Nat → Int) : List Fct := (List.range F.length).map fun i => ((fc F i).1, ((fc F i).2.1, T i))
theorem fcT_len (F : List Fct) (T : Nat → Int) : (fcT F T).length = F.length := by simp [fcT]
theorem fcT_at {F : List Fct} {T : Nat → Int} {i : Nat} (h : i < F.length) : fc (fcT F T) i = ((fc F i).1, ((fc F i).2.1, T i)) := by
  have h2 : i < (fcT F T).length := by rw [fcT_len]; exact h
  rw [← fc_at h2]
  simp [fcT]
def ctT (F : List Fct) (S : Nat → Value) (T : Nat → Int) : List Value := (List.range F.length).flatMap fun i => [S i, .int .i64 (fc F i).2.1, .int .i64 (T i)]
theorem ctT_len (F : List Fct) (S : Nat → Value) (T : Nat → Int) : (ctT F S T).length = F.length * 3 := by
  unfold ctT
  rw [flatK_len (k := 3) (fun _ => rfl), List.length_range]
theorem ctT_get {F : List Fct} {S : Nat → Value} {T : Nat → Int} (i j : Nat) (hi : i < F.length) (hj : j < 3) : (ctT F S T)[i * 3 + j]? = [S i, .int .i64 (fc F i).2.1, .int .i64 (T i)][j]? := by
  unfold ctT
  rw [flatK_get (k := 3) (fun _ => rfl) (List.range F.length) i j (by simpa using hi) hj]
  simp
theorem ctT_set {F : List Fct} {S : Nat → Value} {T : Nat → Int} {k : Nat} (hk : k < F.length) (x : Int) : (ctT F S T).set (k * 3 + 2) (.int .i64 x) = ctT F S fun i => if i = k then x else T i := by
  apply List.ext_getElem?
  intro n
  rw [List.getElem?_set]
  rcases Nat.lt_or_ge n (F.length * 3) with hn | hn
  · have hi : n / 3 < F.length := by omega
    have e : n / 3 * 3 + n % 3 = n := by omega
    have g : ∀ T, (ctT F S T)[n]? = [S (n / 3), .int .i64 (fc F (n / 3)).2.1, .int .i64 (T (n / 3))][n % 3]? := fun T => by
      have := ctT_get (F := F) (S := S) (T := T) (n / 3) (n % 3) hi (by omega)
      rw [e] at this
      exact this
    rw [g, g, ctT_len]
    by_cases hh : k * 3 + 2 = n
    · have e1 : n / 3 = k := by omega
      have e2 : n % 3 = 2 := by omega
      rw [if_pos hh, if_pos (by omega), e1, e2]
      simp
    · rw [if_neg hh]
      by_cases hq : n / 3 = k
      · rcases (by omega : n % 3 = 0 ∨ n % 3 = 1) with e2 | e2 <;> rw [e2] <;> rfl
      · simp [hq]
  · rw [List.getElem?_eq_none (by rw [ctT_len]; exact hn), List.getElem?_eq_none (by rw [ctT_len]; exact hn), ctT_len]
    split
    · rw [if_neg (by omega)]
    · rfl
theorem ctT_fs {w : World} {base : Nat} {v : Value} {F : List Fct} {S : Nat → Value} {T : Nat → Int} (h : w.ownsRow base 49 3 v F.length (ctT F S T)) (hv : ∀ i, i < F.length → IsVals w (S i) (fc F i).1) : FsIn w v (fcT F T) S := by
  refine ⟨?_, fun i hi => ?_⟩
  · have : RowsIn w v F.length 3 (fcCell (fcT F T) S) := rows_of_own h fun i j hi hj => by
      rw [ctT_get i j hi hj]
      unfold fcCell
      rw [fcT_at hi]
      rcases (by omega : j = 0 ∨ j = 1 ∨ j = 2) with rfl | rfl | rfl <;> rfl
    rw [fcT_len]
    exact this
  · rw [fcT_len] at hi
    rw [fcT_at hi]
    exact hv i hi
theorem eql_nilF (a : Option Addr) (n c : Nat) (w : World) : (binOp .eql 22 (.slice a n c) (.slice none 0 0)).run Tryz.prog w = .ok (.bool a.isNone) w := by
  simp only [binOp]
  simp [run_equal_slice_nil (P := Tryz.prog) w 22 49 a n c tFacts]
attribute [local go_sem ↓] eql_nilF
def CloneFRet (F : List Fct) (S : Nat → Value) (w : World) (e : Ending) (w' : World) : Prop := ∃ v, e = .returned v ∧ w'.ownsRow w.heap.size 49 3 v F.length (ctT F S fun i => (fc F i).2.2) ∧ Below w.heap.size w w'
set_option maxRecDepth 100000 in
theorem slCloneFact_c (v : Value) (F : List Fct) (S : Nat → Value) (w : World) (hs : FsIn w v F S) (hl : F.length ≤ 100000) : Calls Tryz.prog 57 #[v] w (CloneFRet F S w) := by
  obtain ⟨A, c, rfl, hnc, hc⟩ := hs.form
  cases A with
  | none =>
    have hz : F.length = 0 := by
      rcases Nat.eq_zero_or_pos F.length with h | h
      · exact h
      · obtain ⟨b, off, h1, _⟩ := hs.addr h; cases h1
    obtain rfl : F = [] := List.length_eq_zero_iff.1 hz
    clear hs hnc hc hz
    go_enter Tryz.func57, Tryz.ntmps57
    go_wp2
    go_ret
    exact ⟨_, rfl, own_nil _ _ _ _, Below.refl _ _⟩
  | some ad =>
    obtain ⟨i, hi, hz, hsz, hby⟩ := info_parts tFactInfoA
    have hbA := (Below.refl w.heap.size w).alloc (Nat.le_refl _) (.cells #[] 49)
    have hsA := hs.below hbA
    have hone : ∀ u ∈ ctT F S (fun i => (fc F i).2.2), u.oneCell' = true := fun u hu => by
      obtain ⟨x, hx, hy⟩ := List.mem_flatMap.1 hu
      obtain ⟨A1, c1, hS, _, _⟩ := (hs.2 x (List.mem_range.1 hx)).form
      rw [hS] at hy
      simp only [List.mem_cons, List.not_mem_nil, or_false] at hy
      rcases hy with rfl | rfl | rfl <;> rfl
    have hnews : ∀ j u, (ctT F S (fun i => (fc F i).2.2))[j]? = some u → (w.alloc (.cells #[] 49)).cell? (ad.add j) = some u := fun j u hu => by
      have hj : j < F.length * 3 := by
        rcases Nat.lt_or_ge j (F.length * 3) with h | h
        · exact h
        · rw [List.getElem?_eq_none (by rw [ctT_len]; exact h)] at hu; cases hu
      obtain ⟨b, off, hb, _⟩ := hsA.addr (by omega)
      injection hb with hb
      subst hb
      have h1 := RowsIn.cells hsA.1 (j / 3) (j % 3) (by omega) (by omega)
      have h2 := ctT_get (F := F) (S := S) (T := fun i => (fc F i).2.2) (j / 3) (j % 3) (by omega) (by omega)
      rw [show j / 3 * 3 + j % 3 = j from by omega] at h2
      rw [h2] at hu
      have e2 : (⟨b, off, none⟩ : Addr).add j = ⟨b, off + j, none⟩ := by simp [Addr.add]
      rw [Nat.add_assoc off, show j / 3 * 3 + j % 3 = j from by omega] at h1
      rw [e2, h1, ← hu]
      unfold fcCell
      rcases (by omega : j % 3 = 0 ∨ j % 3 = 1 ∨ j % 3 = 2) with e | e | e <;> rw [e] <;> rfl
    have Hone := Lib.hid hone; have Hnews := Lib.hid hnews; have HbA := Lib.hid hbA; have Hl := Lib.hid hl
    clear hone hnews hbA hsA hs
    go_enter Tryz.func57, Tryz.ntmps57
    go_wp2_with (at_builtin; refine wpList_append_own_at (w := w.alloc (.cells #[] 49)) rfl _ _ 22 rfl w.heap.size 49 i _ 3 40 tFacts hi hz hsz hby rfl (by omega) _ 0 [] rfl (World.ownsRow_made w #[] 0 (Nat.le_refl _) (by unfold maxLen; omega) rfl) ad F.length c (ctT F S fun i => (fc F i).2.2) rfl (ctT_len _ _ _) Hnews.out Hone.out (by unfold maxLen; have := Hl.out; omega) (by have := Hl.out; omega) (by simp) ?_; intro v3 w1 hown1 hg1 _ _)
    go_ret
    have hb1 : Below w.heap.size w w1 := HbA.out.grown hg1 (by simp) (fun k hk => by
      have e : some w.heap.size = some k := hk
      injection e with e
      omega)
    rw [Nat.zero_add, List.nil_append] at hown1
    exact ⟨v3, rfl, hown1, hb1⟩
/-! ### Moving -/
theorem own_mono39 {w : World} {b1 b2 size n : Nat} {e : TypeId} {v : Value} {xs : List Value} (h : w.ownsRow b1 e size v n xs) (hb : b2 ≤ b1) : w.ownsRow b2 e size v n xs := by
  obtain ⟨h1, h2⟩ := h
  refine ⟨h1, h2.imp id ?_⟩
  rintro ⟨g, cap, cur, a, b, c⟩
  exact ⟨g, cap, cur, a, Nat.le_trans hb b, c⟩
def mvE (F : List Fct) (win : Int) (i : Nat) : Int := min 253402300800 ((fc F i).2.2 + win - 1)
def mvK (F : List Fct) (win : Int) (k i : Nat) : Int := if i < k then mvE F win i else (fc F i).2.2
def movF (F : List Fct) (win : Int) : List Fct := F.map fun f => (f.1, (f.2.1, min 253402300800 (f.2.2 + win - 1)))
theorem movF_of (F : List Fct) (win : Int) : fcT F (mvK F win F.length) = movF F win := by
  apply List.ext_getElem
  · simp [fcT, movF]
  · intro i h1 h2
    have hi : i < F.length := by rw [fcT_len] at h1; exact h1
    simp [fcT, movF, mvK, mvE, hi, fc_at]
theorem mvK_succ {F : List Fct} {win : Int} {k : Nat} : (fun i => if i = k then mvE F win k else mvK F win k i) = mvK F win (k + 1) := by
  funext i
  unfold mvK
  by_cases h : i = k
  · subst h; simp
  · rw [if_neg h]
    by_cases h2 : i < k
    · rw [if_pos h2, if_pos (by omega)]
    · rw [if_neg h2, if_neg (by omega)]
theorem mvK_zero {F : List Fct} {win : Int} : mvK F win 0 = fun i => (fc F i).2.2 := by
  funext i
  simp [mvK]
theorem movF_mach {F : List Fct} {win : Int} (h : MachF F) : MachF (movF F win) := fun f hf x hx => by
  obtain ⟨g, hg, rfl⟩ := List.mem_map.1 hf
  exact h g hg x hx
def MovSpec (F : List Fct) (colI win : Int) (c : Int) (v : Value) (w' : World) : Prop :=
  if validF F = false then c = 1 ∧ v = .slice none 0 0
  else if win < 1 ∨ 34560000 < win then c = 2 ∧ v = .slice none 0 0
  else GrpSpec (movF F win) [] 2 colI c v w'
def MovRet (F : List Fct) (colI win : Int) (w : World) (e : Ending) (w' : World) : Prop := ∃ v c, e = .returned (.tuple #[v, .int .i64 c]) ∧ Below w.heap.size w w' ∧ MovSpec F colI win c v w'
set_option maxRecDepth 100000 in
theorem aMoving_c (v : Value) (F : List Fct) (colI win : Int) (w : World) (hs : IsFs w v F) (hm : MachF F) (hn : F.length < 1000000000) : Calls Tryz.prog 16 #[v, .int .i64 colI, .int .i64 win] w (MovRet F colI win w) := by
  have K1 : Hid (Calls Tryz.prog 30 #[v] w (Ret w (.bool (validF F)))) := Lib.hid (avalid_c v F w hs hn)
  obtain ⟨S, hs⟩ := hs
  have K2 : Hid (F.length ≤ 100000 → ∀ X, Below w.heap.size w X → Calls Tryz.prog 57 #[v] X (CloneFRet F S X)) := Lib.hid fun h X hX => slCloneFact_c v F S X (hs.below hX) h
  have HV : Hid (∀ X, Below w.heap.size w X → ∀ i, i < F.length → IsVals X (S i) (fc F i).1) := Lib.hid fun X hX i hi => (hs.below hX).2 i hi
  have K3 : Hid (∀ X v2, Below w.heap.size w X → X.ownsRow w.heap.size 49 3 v2 F.length (ctT F S (mvK F win F.length)) → Calls Tryz.prog 10 #[v2, .slice none 0 0, .int .i64 2, .int .i64 colI] X (GroupRet (movF F win) [] 2 colI X)) := Lib.hid fun X v2 hX ho => by
    have h := ctT_fs ho (HV.out X hX)
    rw [movF_of] at h
    exact aGroup_c v2 _ (movF F win) [] 2 colI X ⟨S, h⟩ IsInts.nil (movF_mach hm) (by simp [movF]; exact hn)
  obtain ⟨A, cc, rfl, hnc, hcc⟩ := hs.form
  clear hs
  cases q1 : validF F
  · have Q1 := Lib.hid q1
    rw [q1] at K1
    clear q1
    go_enter Tryz.func16, Tryz.ntmps16
    go_wp2_with fail
    refine K1.out.mono ?_
    rintro e w1 ⟨rfl, hb1⟩
    go_wp2_with fail
    go_ret2
    exact ⟨_, _, rfl, hb1, by unfold MovSpec; rw [if_pos Q1.out]; exact ⟨rfl, rfl⟩⟩
  have Q1 := Lib.hid q1
  rw [q1] at K1
  obtain ⟨hl0, hall⟩ := valid_rows q1
  clear q1
  by_cases q2 : win < 1 ∨ 34560000 < win
  · have Q2 : Hid (∀ X : World, MovSpec F colI win 2 (.slice none 0 0) X) := Lib.hid fun X => by unfold MovSpec; rw [if_neg (by rw [Q1.out]; exact Bool.noConfusion), if_pos q2]; exact ⟨rfl, rfl⟩
    cases q3 : decide (win < 1)
    · have q4 : decide (34560000 < win) = true := decide_eq_true (by have := of_decide_eq_false q3; omega)
      clear q2
      go_enter Tryz.func16, Tryz.ntmps16
      go_wp2_with fail
      refine K1.out.mono ?_
      rintro e w1 ⟨rfl, hb1⟩
      go_wp2_with fail
      go_ret2
      exact ⟨_, _, rfl, hb1, Q2.out _⟩
    · clear q2
      go_enter Tryz.func16, Tryz.ntmps16
      go_wp2_with fail
      refine K1.out.mono ?_
      rintro e w1 ⟨rfl, hb1⟩
      go_wp2_with fail
      go_ret2
      exact ⟨_, _, rfl, hb1, Q2.out _⟩
  have HFin : Hid (∀ c v X, GrpSpec (movF F win) [] 2 colI c v X → MovSpec F colI win c v X) := Lib.hid fun c v X h => by unfold MovSpec; rw [if_neg (by rw [Q1.out]; exact Bool.noConfusion), if_neg q2]; exact h
  have q3 : decide (win < 1) = false := decide_eq_false (by omega)
  have q4 : decide (34560000 < win) = false := decide_eq_false (by omega)
  have HWn : Hid (1 ≤ win ∧ win ≤ 34560000) := Lib.hid (by omega)
  have HB : Hid (∀ i, i < F.length → -62135596800 ≤ (fc F i).2.2 ∧ (fc F i).2.2 ≤ 253402300800) := Lib.hid fun i hi => by
    obtain ⟨h1, h2, h3⟩ := spT_ok (hall (fc F i) (fc_mem hi)).2.1
    unfold OkSp at h1
    omega
  have Hl0 := Lib.hid hl0
  clear q2 hall hl0
  go_enter Tryz.func16, Tryz.ntmps16
  go_wp2_with fail
  refine K1.out.mono ?_
  rintro e w1 ⟨rfl, hb1⟩
  have K2 := Lib.hid (K2.out (by have := Hl0.out; omega) w1 hb1)
  have Hs1 := Lib.hid hb1.size
  go_wp2_with fail
  refine K2.out.mono ?_
  rintro e w2 ⟨v2, rfl, hown, hb2⟩
  have hbw := hb1.trans (hb2.mono hb1.size)
  have hown2 : w2.ownsRow w.heap.size 49 3 v2 F.length (ctT F S (mvK F win 0)) := by
    rw [mvK_zero]
    exact own_mono39 hown Hs1.out
  obtain ⟨A2, c2, rfl⟩ : ∃ A c, v2 = .slice A F.length c := by
    rcases hown.2 with ⟨e, e2⟩ | ⟨g, cap, cur, e, _⟩
    · exact ⟨none, 0, by rw [e, e2]⟩
    · exact ⟨_, _, e⟩
  have HO2 := Lib.hid hown2; have HBw := Lib.hid hbw
  clear hown hown2 hb1 hb2 hbw q3 q4
  go_wp2_with fail
  try go_frame
  go_loopw [8, 22] (fun _ i X => ∃ k : Nat, i = .int .i64 (k : Int) ∧ k ≤ F.length ∧ Hid (X.ownsRow w.heap.size 49 3 (.slice A2 F.length c2) F.length (ctT F S (mvK F win k))) ∧ Hid (Below w.heap.size w X)) (fun _ i _ => F.length - (intOf i).toNat)
  case atStart => exact ⟨0, rfl, Nat.zero_le _, HO2, HBw⟩
  case round =>
    obtain ⟨k, rfl, hk, HO, HBX⟩ := hrel
    rename World => X
    by_cases hlt : k < F.length
    · have hown := HO.out
      obtain ⟨g, rfl, hgb⟩ : ∃ g, A2 = some ⟨g, 0, none⟩ ∧ w.heap.size ≤ g := by
        rcases hown.2 with ⟨_, h0⟩ | ⟨g, cap', cur, h, hgb, _⟩
        · omega
        · injection h with h1 h2 h3; exact ⟨g, h1, hgb⟩
      have cz := hown.cellAt (k * 3 + 2) (by omega)
      rw [ctT_get k 2 hlt (by omega)] at cz
      have hold : mvK F win k k = (fc F k).2.2 := by simp [mvK]
      simp only [hold] at cz
      have f0 := hown.frozenAt (k * 3 + 2)
      have hst := (hown.stored (k * 3 + 2) (.int .i64 (mvE F win k))).1
      rw [ctT_set hlt, mvK_succ] at hst
      have HB2 := Lib.hid (HBX.out.setCell (p := ⟨g, k * 3 + 2, none⟩) hgb (.int .i64 (mvE F win k)))
      have hme : mvE F win k = min 253402300800 ((fc F k).2.2 + win - 1) := rfl
      rw [hme] at hst HB2
      have hbd := HB.out k hlt
      obtain ⟨w1', w2'⟩ := HWn.out
      obtain ⟨y, hy⟩ : ∃ y, y = (fc F k).2.2 := ⟨_, rfl⟩
      rw [← hy] at hst HB2 cz hbd
      have hw1 : IntKind.i64.wrap (y + win) = y + win := IntWalk.i64_in _ (by omega)
      have hw2 : IntKind.i64.wrap (y + win - 1) = y + win - 1 := IntWalk.i64_in _ (by omega)
      have HSt := Lib.hid hst
      have Hlt := Lib.hid hlt
      clear hst hown hold hme hy hbd w1' w2'
      go_wp2_with fail
      go_roundw
      case rel => exact ⟨k + 1, by go_num, Hlt.out, HSt, HB2⟩
      case measure => have := Hlt.out; simp [intOf]; omega
    · obtain rfl : k = F.length := by omega
      have K := Lib.hid (K3.out X _ HBX.out HO.out)
      go_wp2_with fail
      refine K.out.mono ?_
      rintro e w4 ⟨v4, c4, rfl, hb4, hsp⟩
      have HF4 := Lib.hid (HFin.out _ _ _ hsp)
      have hb5 := HBX.out.trans (hb4.mono HBX.out.size)
      clear hb4 hsp
      go_wp2_with fail
      go_ret2
      exact ⟨_, _, rfl, hb5, HF4.out⟩
end Go.Proofs.YtohjgegnamcnlaaGreat
