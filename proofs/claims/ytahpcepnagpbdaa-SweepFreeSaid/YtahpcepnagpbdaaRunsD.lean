
/- The walks of the four operations and Not. -/
import Derived.Test.YtahpcepnagpbdaaRunsC
import Derived.Test.YtahpcepnagpbdaaRunsQ
namespace Go.Proofs.Ytahpcepnagpbdaa
open Go.RowKit

def opR (r : List Sp) : List Sp × Int := if r.length ≤ 2000 then (r, 0) else ([], 5)
/-- What an operation on two lists hands back. -/
def OpSpec (g : Bool → Bool → Bool) (a b : List Sp) (r : List Sp × Int) : Prop :=
  if (validB a && validB b) = true then ∃ l, IsOp g a b l ∧ l.length ≤ 2 * a.length + 2 * b.length ∧ r = opR l else r = ([], 1)
def OpRet (g : Bool → Bool → Bool) (a b : List Sp) (w : World) (e : Ending) (w' : World) : Prop := ∃ r, OpSpec g a b r ∧ RetLE w r e w'

theorem rcombine_c (f : FuncId) (hf : ∀ (args : Array Value) (w : World), Sem.run Try.prog (callFunc f args) w = .ok (.enter f args) w) (g : Bool → Bool → Bool) (h0 : g false false = false)
    (hg : ∀ x y w, Calls Try.prog f #[.bool x, .bool y] w fun e w' => e = .returned (.bool (g x y)) ∧ w = w')
    (v1 v2 : Value) (a b : List Sp) (w : World) (h1 : IsSpans w v1 a) (h2 : IsSpans w v2 b) : Calls Try.prog 118 #[v1, v2, .func (.func f) #[] #[]] w (OpRet g a b w) := by
  cases h : (validB a && validB b)
  · refine (rcombine_bad v1 v2 _ a b w h1 h2 h).mono fun e w' he => ⟨_, ?_, he⟩
    rw [OpSpec, if_neg (by rw [h]; exact Bool.false_ne_true)]
  · have h' := h
    rw [Bool.and_eq_true] at h'
    refine (rcombine_ok f hf g hg v1 v2 a b w h1 h2 h'.1 h'.2).mono ?_
    rintro e w' ⟨m, hoff, hinv, hr⟩
    refine ⟨_, ?_, hr⟩
    rw [OpSpec, if_pos h]
    exact ⟨_, merge_isOp h0 h'.1 h'.2 hinv hoff, by have := hinv.out; have := hinv.i; have := hinv.k; omega, rfl⟩

theorem ent_rMinus1 : ∀ (args : Array Value) (w : World), Sem.run Try.prog (callFunc 119 args) w = .ok (.enter 119 args) w := fun _ _ => by kernel_rfl
def gUnion (x y : Bool) : Bool := x || y
def gMeet (x y : Bool) : Bool := x && y
def gMinus (x y : Bool) : Bool := x && !y
def gEither (x y : Bool) : Bool := x != y

theorem rMinus_c (v1 v2 : Value) (a b : List Sp) (w : World) (h1 : IsSpans w v1 a) (h2 : IsSpans w v2 b) : Calls Try.prog 95 #[v1, v2] w (OpRet gMinus a b w) := by
  go_enter Try.func95, Try.ntmps95
  go_wp2_with fail
  refine (rcombine_c _ ent_rMinus1 gMinus rfl rMinus1_c _ _ a b w h1 h2).mono ?_
  rintro e w1 ⟨r, hr, v, rfl, hv, hb⟩
  go_wp2
  go_ret2
  exact ⟨r, hr, v, rfl, hv, hb⟩
def NotSpec (a : List Sp) (s : Sp) (r : List Sp × Int) : Prop := if okSpan s = true then OpSpec gMinus [s] a r else r = ([], 1)
theorem spans_one {w : World} (p q : Int) (t : TypeId) : IsSpans (w.alloc (.cells #[.int .i64 p, .int .i64 q] t)) (.slice (some ⟨w.heap.size, 0, none⟩) 1 1) [(p, q)] := by
  refine ⟨_, 1, rfl, Nat.le_refl _, by omega, fun _ => ⟨w.heap.size, 0, rfl, by simp, fun i j hi hj => ?_⟩⟩
  obtain rfl : i = 0 := by simpa using hi
  rcases (by omega : j = 0 ∨ j = 1) with rfl | rfl <;> simp [spanCell, fr, tt]

theorem rNot_c (v : Value) (a : List Sp) (p q : Int) (w : World) (h : IsSpans w v a) :
    Calls Try.prog 77 #[v, .agg #[.int .i64 p, .int .i64 q]] w fun e w' => ∃ r, NotSpec a (p, q) r ∧ RetLE w r e w' := by
  cases ho : okSpan (p, q)
  · go_enter Try.func77, Try.ntmps77
    go_wp2_with fail
    refine (ivValid_c _ _ _).mono ?_
    rintro e w1 ⟨rfl, hb⟩
    have hb1 := (Below.alloc (Below.refl w.heap.size w) (Nat.le_refl _) (.cells #[.int .i64 p, .int .i64 q] 31)).trans (hb.mono (by simp))
    go_wp2
    go_ret2
    exact ⟨([], 1), by rw [NotSpec, if_neg (by rw [ho]; exact Bool.false_ne_true)], _, rfl, IsSpans.nil, hb1⟩
  · go_enter Try.func77, Try.ntmps77
    go_wp2_with fail
    refine (ivValid_c _ _ _).mono ?_
    rintro e w1 ⟨rfl, hb⟩
    have hb1 := (Below.alloc (Below.refl w.heap.size w) (Nat.le_refl _) (.cells #[.int .i64 p, .int .i64 q] 31)).trans (hb.mono (by simp))
    have c0 := hb.cell (p := ⟨w.heap.size, 0, none⟩) (by simp)
    have c1 := hb.cell (p := ⟨w.heap.size, 1, none⟩) (by simp)
    simp at c0 c1
    go_wp2_with fail
    have hb2 := hb1.alloc hb1.size (.cells #[.int .i64 p, .int .i64 q] 31)
    refine (rMinus_c _ _ [(p, q)] a _ (spans_one p q _) (h.below hb2)).mono ?_
    rintro e w2 ⟨r, hr, v2, rfl, hv, hb3⟩
    go_wp2
    go_ret2
    exact ⟨r, by rw [NotSpec, if_pos ho]; exact hr, v2, rfl, hv, hb2.trans (hb3.mono (by have := hb2.size; simpa using this))⟩

theorem op_cases {g : Bool → Bool → Bool} {a b : List Sp} {r : List Sp × Int} (h : OpSpec g a b r) (ha : validB a = true) (hb : validB b = true) :
    (∃ l, r = (l, 0) ∧ IsOp g a b l ∧ validB l = true) ∨ (r = ([], 5) ∧ ∃ l, IsOp g a b l ∧ 2000 < l.length ∧ l.length ≤ 2 * a.length + 2 * b.length) := by
  rw [OpSpec, if_pos (by rw [ha, hb]; rfl)] at h
  obtain ⟨l, h1, h2, rfl⟩ := h
  unfold opR
  by_cases hl : l.length ≤ 2000
  · rw [if_pos hl]; exact .inl ⟨l, rfl, h1, (validB_iff l).2 ⟨hl, h1.1⟩⟩
  · rw [if_neg hl]; exact .inr ⟨rfl, l, h1, by omega, h2⟩
theorem op_bad {g : Bool → Bool → Bool} {a b : List Sp} {r : List Sp × Int} (h : OpSpec g a b r) (hv : (validB a && validB b) = false) : r = ([], 1) := by
  rw [OpSpec, if_neg (by rw [hv]; exact Bool.false_ne_true)] at h
  exact h
theorem op_small {g : Bool → Bool → Bool} {a b : List Sp} {r : List Sp × Int} (h : OpSpec g a b r) (ha : validB a = true) (hb : validB b = true) (hs : 2 * a.length + 2 * b.length ≤ 2000) :
    ∃ l, r = (l, 0) ∧ IsOp g a b l ∧ validB l = true := by
  rcases op_cases h ha hb with h1 | ⟨_, l, _, h2, h3⟩
  · exact h1
  · omega
theorem op_err {g : Bool → Bool → Bool} {a b : List Sp} {r : List Sp × Int} (h : OpSpec g a b r) (hs : 2 * a.length + 2 * b.length ≤ 2000) : r.2 = if (validB a && validB b) = true then 0 else 1 := by
  cases hv : (validB a && validB b)
  · rw [op_bad h hv]; rfl
  · have h' := hv
    rw [Bool.and_eq_true] at h'
    obtain ⟨l, rfl, _⟩ := op_small h h'.1 h'.2 hs
    rfl
theorem op_point {g : Bool → Bool → Bool} {a b : List Sp} {r : List Sp × Int} (h : OpSpec g a b r) (x : Int) : r.2 ≠ 0 ∨ (validB r.1 && mem r.1 x) = g (validB a && mem a x) (validB b && mem b x) := by
  cases hv : (validB a && validB b)
  · left; rw [op_bad h hv]; decide
  · rw [Bool.and_eq_true] at hv
    rcases op_cases h hv.1 hv.2 with ⟨l, rfl, h1, h2⟩ | ⟨rfl, _⟩
    · right; simp only [h2, hv.1, hv.2, Bool.true_and]; exact h1.2 x
    · left; decide
theorem not_point {a : List Sp} {p q : Int} {r : List Sp × Int} (h : NotSpec a (p, q) r) (x : Int) : r.2 ≠ 0 ∨ (validB r.1 && mem r.1 x) = ((decide (p ≤ x) && decide (x < q)) && !(validB a && mem a x)) := by
  unfold NotSpec at h
  cases ho : okSpan (p, q)
  · rw [if_neg (by rw [ho]; exact Bool.false_ne_true)] at h
    left; rw [h]; decide
  · rw [if_pos ho] at h
    rcases op_point h x with h1 | h1
    · exact .inl h1
    · right
      rw [h1]
      have hv : validB [(p, q)] = true := by
        rw [validB_iff]; exact ⟨by simp, ⟨fun s hs => by rw [List.mem_singleton.1 hs]; exact (okSpan_iff _).1 ho, List.pairwise_singleton _ _⟩⟩
      rw [hv]
      simp [gMinus, mem]
end Go.Proofs.Ytahpcepnagpbdaa
