/- Texts joined: AjA, AjB, AjC, AjD, AjE. -/
import Derived.Test.YtohjgegnamcnlaaGreatAhc
import Derived.Test.YtohjgegnamcnlaaGreatPre
import Derived.Test.YtohjgegnamcnlaaGreatAhf

/- Law 39: plain law of the reference: the ends of facts, in order, and the rows between them. -/
namespace Go.Proofs.YtohjgegnamcnlaaGreat
open Go.RowKit Go.Shelf

def putL : List Int → Int → List Int
  | [], x => [x]
  | y :: l, x => if x ≤ y then (if x < y then x :: y :: l else y :: l) else y :: putL l x
theorem putL_mem : ∀ (l : List Int) (x z : Int), z ∈ putL l x ↔ z = x ∨ z ∈ l
  | [], x, z => by simp [putL]
  | y :: l, x, z => by
    have ih := putL_mem l x z
    unfold putL
    split
    · split
      · simp
      · have : x = y := by omega
        subst this
        simp
    · rw [List.mem_cons, ih, List.mem_cons]
      constructor
      · rintro (h | h | h)
        · exact .inr (.inl h)
        · exact .inl h
        · exact .inr (.inr h)
      · rintro (h | h | h)
        · exact .inr (.inl h)
        · exact .inl h
        · exact .inr (.inr h)
theorem putL_asc : ∀ (l : List Int) (x : Int), l.Pairwise (· < ·) → (putL l x).Pairwise (· < ·)
  | [], x, _ => by simp [putL]
  | y :: l, x, h => by
    obtain ⟨h1, h2⟩ := List.pairwise_cons.1 h
    unfold putL
    split
    · split
      · refine List.pairwise_cons.2 ⟨fun z hz => ?_, h⟩
        rcases List.mem_cons.1 hz with rfl | q
        · assumption
        · have := h1 z q
          omega
      · exact h
    · refine List.pairwise_cons.2 ⟨fun z hz => ?_, putL_asc l x h2⟩
      rcases (putL_mem l x z).1 hz with rfl | q
      · omega
      · exact h1 z q
theorem putL_len : ∀ (l : List Int) (x : Int), (putL l x).length ≤ l.length + 1
  | [], x => by simp [putL]
  | y :: l, x => by
    have ih := putL_len l x
    unfold putL
    split
    · split <;> simp
    · simp; omega
/-- The ends of the first facts, in order. -/
def endsN (F : List Fct) : Nat → List Int
  | 0 => []
  | k + 1 => putL (putL (endsN F k) (fc F k).2.1) (fc F k).2.2
theorem endsN_asc (F : List Fct) : ∀ k, (endsN F k).Pairwise (· < ·)
  | 0 => List.Pairwise.nil
  | k + 1 => putL_asc _ _ (putL_asc _ _ (endsN_asc F k))
theorem endsN_len (F : List Fct) : ∀ k, (endsN F k).length ≤ 2 * k
  | 0 => by simp [endsN]
  | k + 1 => by
    have h1 := putL_len (putL (endsN F k) (fc F k).2.1) (fc F k).2.2
    have h2 := putL_len (endsN F k) (fc F k).2.1
    have h3 := endsN_len F k
    show (putL (putL (endsN F k) (fc F k).2.1) (fc F k).2.2).length ≤ _
    omega
theorem endsN_mem (F : List Fct) : ∀ k (z : Int), z ∈ endsN F k ↔ ∃ i, i < k ∧ (z = (fc F i).2.1 ∨ z = (fc F i).2.2)
  | 0, z => by simp [endsN]
  | k + 1, z => by
    have ih := endsN_mem F k z
    show z ∈ putL (putL (endsN F k) (fc F k).2.1) (fc F k).2.2 ↔ _
    rw [putL_mem, putL_mem, ih]
    constructor
    · rintro (h | h | ⟨i, hi, h⟩)
      · exact ⟨k, by omega, .inr h⟩
      · exact ⟨k, by omega, .inl h⟩
      · exact ⟨i, by omega, h⟩
    · rintro ⟨i, hi, h⟩
      rcases Nat.lt_or_ge i k with q | q
      · exact .inr (.inr ⟨i, q, h⟩)
      · obtain rfl : i = k := by omega
        rcases h with h | h
        · exact .inr (.inl h)
        · exact .inl h
/-- No fact begins or ends behind a, up to t: the rows are the same. -/
theorem rows_between {F : List Fct} {a t : Int} (hat : a ≤ t) (h : ∀ i, i < F.length → ¬ (a < (fc F i).2.1 ∧ (fc F i).2.1 ≤ t) ∧ ¬ (a < (fc F i).2.2 ∧ (fc F i).2.2 ≤ t)) : rowsAt F t = rowsAt F a := by
  have key : ∀ k, k ≤ F.length → rowsN F t k = rowsN F a k := fun k => by
    induction k with
    | zero => exact fun _ => rfl
    | succ k ih =>
      intro hk
      rw [rowsN_succ, rowsN_succ, ih (by omega)]
      have hh := h k (by omega)
      have e : actB (fc F k) t = actB (fc F k) a := by
        unfold actB
        have e1 : decide ((fc F k).2.1 ≤ t) = decide ((fc F k).2.1 ≤ a) := by
          rw [decide_eq_decide]
          omega
        have e2 : decide (t < (fc F k).2.2) = decide (a < (fc F k).2.2) := by
          rw [decide_eq_decide]
          omega
        rw [e1, e2]
      rw [e]
  exact key F.length (Nat.le_refl _)
end Go.Proofs.YtohjgegnamcnlaaGreat

/- Law 39: the reference's put: a number into an ascending list. -/
namespace Go.Proofs.YtohjgegnamcnlaaGreat
open Go.RowKit Go.Shelf

/-- How far the loop of put has come: d tells whether the number is in. -/
def PutAt (l : List Int) (x : Int) (i : Nat) (d : Bool) (out : List Int) : Prop := if d = true then putL l x = out ++ l.drop i else putL l x = out ++ putL (l.drop i) x
theorem PutAt.start (l : List Int) (x : Int) : PutAt l x 0 false [] := by unfold PutAt; simp
theorem drop_cons {l : List Int} {i : Nat} (h : i < l.length) : l.drop i = iv l i :: l.drop (i + 1) := by rw [List.drop_eq_getElem_cons h, iv_at h]
theorem PutAt.in_ {l : List Int} {x : Int} {i : Nat} {out : List Int} (h : PutAt l x i true out) (hi : i < l.length) : PutAt l x (i + 1) true (out ++ [iv l i]) := by
  unfold PutAt at h ⊢
  rw [if_pos rfl] at h ⊢
  rw [h, drop_cons hi, List.append_assoc]
  rfl
theorem PutAt.gt {l : List Int} {x : Int} {i : Nat} {out : List Int} (h : PutAt l x i false out) (hi : i < l.length) (hx : ¬ x ≤ iv l i) : PutAt l x (i + 1) false (out ++ [iv l i]) := by
  unfold PutAt at h ⊢
  rw [if_neg (by decide)] at h ⊢
  rw [h, drop_cons hi, putL, if_neg hx, List.append_assoc]
  rfl
theorem PutAt.lt {l : List Int} {x : Int} {i : Nat} {out : List Int} (h : PutAt l x i false out) (hi : i < l.length) (hx : x < iv l i) : PutAt l x (i + 1) true (out ++ [x] ++ [iv l i]) := by
  unfold PutAt at h ⊢
  rw [if_neg (by decide)] at h
  rw [if_pos rfl, h, drop_cons hi, putL, if_pos (by omega), if_pos hx, List.append_assoc, List.append_assoc]
  rfl
theorem PutAt.eq {l : List Int} {x : Int} {i : Nat} {out : List Int} (h : PutAt l x i false out) (hi : i < l.length) (hx : x = iv l i) : PutAt l x (i + 1) true (out ++ [iv l i]) := by
  unfold PutAt at h ⊢
  rw [if_neg (by decide)] at h
  rw [if_pos rfl, h, drop_cons hi, putL, if_pos (by omega), if_neg (by omega), List.append_assoc]
  rfl
theorem PutAt.end_ {l : List Int} {x : Int} {d : Bool} {out : List Int} (h : PutAt l x l.length d out) : putL l x = if d = true then out else out ++ [x] := by
  unfold PutAt at h
  rw [List.drop_length] at h
  cases d
  · rw [if_neg (by decide)] at h ⊢
    rw [h]
    rfl
  · rw [if_pos rfl] at h ⊢
    rw [h, List.append_nil]
end Go.Proofs.YtohjgegnamcnlaaGreat

/- Law 39: the reference's put: the walk. -/
namespace Go.Proofs.YtohjgegnamcnlaaGreat
open Go.RowKit Go.Shelf

def IntsRet (m : List Int) (w : World) (e : Ending) (w' : World) : Prop := ∃ v, e = .returned v ∧ IsInts w' v m ∧ Below w.heap.size w w'
set_option maxRecDepth 100000 in
set_option maxHeartbeats 4000000 in
theorem r39put_c (v : Value) (l : List Int) (x : Int) (w : World) (hs : IsInts w v l) (hl : l.length ≤ 100000) : Calls Tryz.prog 78 #[v, .int .i64 x] w (IntsRet (putL l x) w) := by
  obtain ⟨A, c, rfl, hnc, hc⟩ := hs.form
  go_enter Tryz.func78, Tryz.ntmps78
  go_wp2_with fail
  go_loopw [5, 6, 7] (fun o d i X => ∃ (k : Nat) (z : Bool) (out : List Int), d = .bool z ∧ i = .int .i64 (k : Int) ∧ k ≤ l.length ∧ Hid (PutAt l x k z out) ∧ out.length ≤ 2 * k + 1 ∧ Hid (X.ownsRow w.heap.size 3 1 o out.length (flatI out)) ∧ Hid (Below w.heap.size w X)) (fun _ _ i _ => l.length - (intOf i).toNat)
  case atStart => exact ⟨0, false, [], rfl, rfl, Nat.zero_le _, Lib.hid (PutAt.start l x), by simp, Lib.hid (own_nil _ _ _ _), Lib.hid (Below.refl _ _)⟩
  case round =>
    obtain ⟨k, z, out, rfl, rfl, hk, HP, hol, HO, HB⟩ := hrel
    rename World => X
    by_cases hlt : k < l.length
    · obtain ⟨b, off, rfl, hbl⟩ := hs.addr (by omega)
      have c0 := (hs.below HB.out).c0 k hlt
      have Hlt := Lib.hid hlt
      obtain ⟨y, hy⟩ : ∃ y, y = iv l k := ⟨_, rfl⟩
      rw [← hy] at c0
      have HY := Lib.hid hy
      obtain ⟨no, hno⟩ : ∃ n, n = out.length := ⟨_, rfl⟩
      have hown := HO.out
      rw [← hno] at hown hol
      have hsz := HB.out.size
      have hno9 : no < 900000000 := by omega
      have HNo := Lib.hid hno
      clear hy hno
      cases z
      · cases q1 : decide (x ≤ y)
        · have HP2 := Lib.hid (HP.out.gt Hlt.out (by rw [← HY.out]; exact of_decide_eq_false q1))
          go_wp2_with (at_builtin; refine append1 tInts tIntInfo rfl (by omega) (by omega) rfl _ _ (by rfl) w.heap.size _ no (flatI out) [.int .i64 y] (by rfl) hown (by rfl) (by rfl) (by rfl) rfl (by simp [Value.oneCell']) hno9 hsz ?_; intro v8 w8 hown8 hb8 _ _)
          go_roundw
          case rel => exact ⟨k + 1, false, out ++ [y], rfl, by go_num, Hlt.out, by rw [HY.out]; exact HP2, by simp; have := HNo.out; omega, Lib.hid (by rw [List.length_append, ← HNo.out]; unfold flatI; rw [List.map_append]; exact hown8), Lib.hid (HB.out.trans hb8)⟩
          case measure => have := Hlt.out; simp [intOf]; omega
        · have hxy := of_decide_eq_true q1
          cases q2 : decide (x < y)
          · have HP2 := Lib.hid (HP.out.eq Hlt.out (by rw [← HY.out]; have := of_decide_eq_false q2; omega))
            go_wp2_with (at_builtin; refine append1 tInts tIntInfo rfl (by omega) (by omega) rfl _ _ (by rfl) w.heap.size _ no (flatI out) [.int .i64 y] (by rfl) hown (by rfl) (by rfl) (by rfl) rfl (by simp [Value.oneCell']) hno9 hsz ?_; intro v8 w8 hown8 hb8 _ _)
            go_roundw
            case rel => exact ⟨k + 1, true, out ++ [y], rfl, by go_num, Hlt.out, by rw [HY.out]; exact HP2, by simp; have := HNo.out; omega, Lib.hid (by rw [List.length_append, ← HNo.out]; unfold flatI; rw [List.map_append]; exact hown8), Lib.hid (HB.out.trans hb8)⟩
            case measure => have := Hlt.out; simp [intOf]; omega
          · have HP2 := Lib.hid (HP.out.lt Hlt.out (by rw [← HY.out]; exact of_decide_eq_true q2))
            have HC := Lib.hid fun (Q : World) (h : Below w.heap.size w Q) => (hs.below h).c0 k Hlt.out
            rw [← HY.out] at HC
            have hno10 : no + 1 < 900000000 := by omega
            go_wp2_with (at_builtin; first
              | (refine append1 tInts tIntInfo rfl (by omega) (by omega) rfl _ _ (by rfl) w.heap.size _ no (flatI out) [.int .i64 x] (by rfl) hown (by rfl) (by rfl) (by rfl) rfl (by simp [Value.oneCell']) hno9 hsz ?_; intro v8 w8 hown8 hb8 _ _; have hb9 := HB.out.trans hb8; have c9 := HC.out _ hb9; have hsz9 := hb9.size)
              | (refine append1 tInts tIntInfo rfl (by omega) (by omega) rfl _ _ (by rfl) w.heap.size _ (no + 1) (flatI out ++ [.int .i64 x]) [.int .i64 y] (by rfl) hown8 (by rfl) (by rfl) (by rfl) rfl (by simp [Value.oneCell']) hno10 hsz9 ?_; intro v7 w7 hown7 hb7 _ _))
            go_roundw
            case rel => exact ⟨k + 1, true, out ++ [x] ++ [y], rfl, by go_num, Hlt.out, by rw [HY.out]; exact HP2, by simp; have := HNo.out; omega, Lib.hid (by rw [List.length_append, List.length_append, ← HNo.out]; unfold flatI at hown7 ⊢; rw [List.map_append, List.map_append]; exact hown7), Lib.hid (hb9.trans hb7)⟩
            case measure => have := Hlt.out; simp [intOf]; omega
      · have HP2 := Lib.hid (HP.out.in_ Hlt.out)
        go_wp2_with (at_builtin; refine append1 tInts tIntInfo rfl (by omega) (by omega) rfl _ _ (by rfl) w.heap.size _ no (flatI out) [.int .i64 y] (by rfl) hown (by rfl) (by rfl) (by rfl) rfl (by simp [Value.oneCell']) hno9 hsz ?_; intro v8 w8 hown8 hb8 _ _)
        go_roundw
        case rel => exact ⟨k + 1, true, out ++ [y], rfl, by go_num, Hlt.out, by rw [HY.out]; exact HP2, by simp; have := HNo.out; omega, Lib.hid (by rw [List.length_append, ← HNo.out]; unfold flatI; rw [List.map_append]; exact hown8), Lib.hid (HB.out.trans hb8)⟩
        case measure => have := Hlt.out; simp [intOf]; omega
    · obtain rfl : k = l.length := by omega
      have hown := HO.out
      have hsz := HB.out.size
      obtain ⟨no, hno⟩ : ∃ n, n = out.length := ⟨_, rfl⟩
      rw [← hno] at hown hol
      have hno9 : no < 900000000 := by omega
      have HNo := Lib.hid hno
      clear hno
      cases z
      · go_wp2_with (at_builtin; refine append1 tInts tIntInfo rfl (by omega) (by omega) rfl _ _ (by rfl) w.heap.size _ no (flatI out) [.int .i64 x] (by rfl) hown (by rfl) (by rfl) (by rfl) rfl (by simp [Value.oneCell']) hno9 hsz ?_; intro v8 w8 hown8 hb8 _ _)
        go_ret
        have e : putL l x = out ++ [x] := by simpa using HP.out.end_
        refine ⟨_, rfl, ints_of_own (base := w.heap.size) (e := 3) ?_, HB.out.trans hb8⟩
        rw [e, List.length_append, ← HNo.out]
        unfold flatI
        rw [List.map_append]
        exact hown8
      · go_wp2_with fail
        go_ret
        have e : putL l x = out := by simpa using HP.out.end_
        refine ⟨_, rfl, ints_of_own (base := w.heap.size) (e := 3) ?_, HB.out⟩
        rw [e, ← HNo.out]
        exact hown
end Go.Proofs.YtohjgegnamcnlaaGreat

/- Law 39: civiltimeref12.Of. -/
namespace Go.Proofs.YtohjgegnamcnlaaGreat
open Go.RowKit Go.Shelf

theorem own_low {w : World} {b1 b2 size n : Nat} {e : TypeId} {v : Value} {xs : List Value} (h : w.ownsRow b1 e size v n xs) (hb : b2 ≤ b1) : w.ownsRow b2 e size v n xs := by
  obtain ⟨h1, h2⟩ := h
  refine ⟨h1, h2.imp id ?_⟩
  rintro ⟨g, cap, cur, hv, hg, r⟩
  exact ⟨g, cap, cur, hv, Nat.le_trans hb hg, r⟩
theorem spansB_all (l : List Sp) : spansB l = l.all okSpan := by
  unfold spansB
  rw [Bool.eq_iff_iff, List.all_eq_true, List.all_eq_true]
  constructor
  · intro h s hs
    obtain ⟨i, hi, rfl⟩ := mem_idx hs
    exact h i (List.mem_range.2 hi)
  · intro h i hi
    exact h _ (idx_mem (List.mem_range.1 hi))
set_option maxRecDepth 100000 in
theorem r12Of_c (v : Value) (l : List Sp) (w : World) (hs : IsSpans w v l) (hl : l.length ≤ 2500) : Calls Tryz.prog 63 #[v] w (OfRet l w) := by
  have hcon := r12Spans_c v l w hs
  rw [spansB_all] at hcon
  cases ho : l.all okSpan
  all_goals
    rw [ho] at hcon
    have Hcon := Lib.hid hcon; clear hcon
    have Ho := Lib.hid ho; clear ho
    go_enter Tryz.func63, Tryz.ntmps63
    go_wp2_with fail
    refine Hcon.out.mono ?_
    rintro e w1 ⟨rfl, hb⟩
  · go_wp2
    go_ret2
    exact ⟨([], 1), of_bad Ho.out, _, rfl, IsSpans.nil, hb⟩
  · go_wp2_with fail
    refine (r12Combine_c 1 gUnion keep_union rfl _ _ l [] w1 (hs.below hb) IsSpans.nil (okS_all Ho.out) (fun s hs => by simp at hs) (by omega) (by simp)).mono ?_
    rintro e w3 ⟨r, hr, vr, rfl, hsr, hb3⟩
    have hb := hb.trans (hb3.mono hb.size)
    have hspec := of_comb Ho.out hr.1 (fun x => by rw [hr.2.1 x]; simp [gUnion, mem]) (by have := hr.2.2; simpa using this)
    have hd := r12full_c vr r w3 hsr
    generalize opR r = res at hspec hd
    have Hspec := Lib.hid hspec; clear hspec hr
    have Hd := Lib.hid hd; clear hd
    go_wp2_with fail
    refine Hd.out.mono ?_
    rintro e w4 ⟨v4, rfl, hs4, hb4⟩
    have hb := hb.trans (hb4.mono hb.size)
    go_wp2
    go_ret2
    exact ⟨res, Hspec.out, v4, rfl, hs4, hb⟩
end Go.Proofs.YtohjgegnamcnlaaGreat

/- Law 39: the reference's has. -/
namespace Go.Proofs.YtohjgegnamcnlaaGreat
open Go.RowKit Go.Shelf

set_option maxRecDepth 100000 in
theorem r39has_c (v vq : Value) (R : List VRow) (r : VRow) (w : World) (hs : IsRv w v R) (hr : IsVals w vq r) (hl : R.length ≤ 1000000) : Calls Tryz.prog 45 #[v, vq] w (Ret w (.bool (hasR R r))) := by
  obtain ⟨S, hs⟩ := hs
  obtain ⟨A, c, rfl, hnc, hc⟩ := hs.form
  obtain ⟨A2, c2, rfl, _, _⟩ := hr.form
  obtain ⟨z, hz⟩ : ∃ z, z = hasR R r := ⟨_, rfl⟩
  rw [← hz]
  have HZ := Lib.hid hz
  clear hz
  go_enter Tryz.func45, Tryz.ntmps45
  go_wp2_with fail
  go_loopw [5] (fun i X => ∃ k : Nat, i = .int .i64 (k : Int) ∧ k ≤ R.length ∧ Hid (∀ j, j < k → vr R j ≠ r) ∧ Hid (Below w.heap.size w X)) (fun i _ => R.length - (intOf i).toNat)
  case atStart => exact ⟨0, rfl, Nat.zero_le _, Lib.hid (fun j hj => absurd hj (by omega)), Lib.hid (Below.refl _ _)⟩
  case round =>
    obtain ⟨k, rfl, hk, HN, HB⟩ := hrel
    rename World => X
    by_cases hlt : k < R.length
    · obtain ⟨b, off, rfl, hbl⟩ := hs.addr (by omega)
      have hin := hs.below HB.out
      have c0 := hin.cell k hlt
      have hv := hin.2 k hlt
      obtain ⟨Ak, ck, hSk, _, _⟩ := hv.form
      rw [hSk] at c0 hv
      have K := Lib.hid (r33Same_c _ _ (vr R k) r X hv (hr.below HB.out))
      have HE : Hid (sameR (vr R k) r = true → vr R k = r) := Lib.hid fun h => of_decide_eq_true h
      have HD : Hid (sameR (vr R k) r = false → vr R k ≠ r) := Lib.hid fun h => of_decide_eq_false h
      have HM := Lib.hid (vr_mem hlt)
      obtain ⟨x, hx⟩ : ∃ x, x = vr R k := ⟨_, rfl⟩
      have HX := Lib.hid hx
      rw [← hx] at hv K HE HD HM c0
      clear hx
      generalize sameR x r = q at K HE HD
      have Hlt := Lib.hid hlt
      clear hin hv hSk
      cases q
      · go_wp2_with fail
        refine K.out.mono ?_
        rintro e X2 ⟨rfl, hb⟩
        have HB2 := Lib.hid (HB.out.trans (hb.mono HB.out.size))
        clear hb
        go_wp2_with fail
        go_roundw
        case rel => exact ⟨k + 1, by go_num, Hlt.out, Lib.hid (fun j hj => by
          rcases Nat.lt_or_ge j k with e | e
          · exact HN.out j e
          · obtain rfl : j = k := by omega
            rw [← HX.out]; exact HD.out (by trivial)), HB2⟩
        case measure => have := Hlt.out; simp [intOf]; omega
      · go_wp2_with fail
        refine K.out.mono ?_
        rintro e X2 ⟨rfl, hb⟩
        have HB2 := Lib.hid (HB.out.trans (hb.mono HB.out.size))
        clear hb
        go_wp2_with fail
        go_ret
        have h1 := HM.out
        rw [HE.out (by trivial)] at h1
        have h2 : hasR R r = true := by
          cases q : hasR R r
          · exact absurd h1 (hasR_not.1 q)
          · rfl
        exact ⟨by rw [HZ.out, h2]; rfl, HB2.out⟩
    · obtain rfl : k = R.length := by omega
      go_wp2_with fail
      go_ret
      have h2 : hasR R r = false := hasR_not.2 fun h => by
        obtain ⟨j, hj, e⟩ := List.getElem_of_mem h
        rw [vr_at hj] at e
        exact HN.out j hj e
      exact ⟨by rw [HZ.out, h2]; rfl, HB.out⟩
end Go.Proofs.YtohjgegnamcnlaaGreat
