/- The examples of chapter 44: awake answers true. -/
import Derived.Test.YtahpcepnagpbdaaSwI
import Derived.Test.YtahpcepnagpbdaaSwE
import Derived.Test.YtahpcepnagpbdaaGreat44
import Derived.Test.YtahpcepnagpbdaaAwake
namespace Go.Proofs.Ytahpcepnagpbdaa
open Go.RowKit

def exL : List Sp := [(0, 10), (5, 15), (10, 20)]
theorem exL_right : rightB exL = true := by rfl
theorem exL_rooms {R : List Int} {c : Int} (h : RoomsRes exL R c) : R = [0, 1, 0] ∧ c = 2 := by
  refine rooms_res_one h ⟨[0, 1, 2], [(0, 0), (1, 1), (2, 0)], ⟨List.Perm.refl _, ?_⟩, ?_, rfl, rfl⟩
  · simp [lexLt, sp, fr, exL]
  · have h1 : RoomsOf exL [0] [(0, 0)] := .snoc (L := []) (A := []) .nil ⟨rfl, fun q hq => absurd hq (by omega)⟩
    have r1 : IsRoom exL [(0, 0)] 1 1 := ⟨rfl, fun q hq => by
      have : q = 0 := by omega
      subst this; rfl⟩
    have h2 : RoomsOf exL [0, 1] [(0, 0), (1, 1)] := .snoc (L := [0]) (A := [(0, 0)]) h1 r1
    exact .snoc (L := [0, 1]) (A := [(0, 0), (1, 1)]) h2 ⟨rfl, fun q hq => absurd hq (by omega)⟩
theorem exL_ends (x : Int) : x ∈ ([0, 5, 10, 15, 20] : List Int) ↔ ∃ s ∈ exL, x = s.1 ∨ x = s.2 := by
  constructor
  · intro h
    simp only [List.mem_cons, List.not_mem_nil, or_false] at h
    rcases h with rfl | rfl | rfl | rfl | rfl
    · exact ⟨(0, 10), by simp [exL], by simp⟩
    · exact ⟨(5, 15), by simp [exL], by simp⟩
    · exact ⟨(0, 10), by simp [exL], by simp⟩
    · exact ⟨(5, 15), by simp [exL], by simp⟩
    · exact ⟨(10, 20), by simp [exL], by simp⟩
  · rintro ⟨s, hs, h⟩
    simp only [exL, List.mem_cons, List.not_mem_nil, or_false] at hs
    rcases hs with rfl | rfl | rfl <;> rcases h with rfl | rfl <;> simp
theorem exL_dep {F : List Dep} (h : DepRes exL F) : F.length = 3 := by
  have : F = (dRun exL [0, 5, 10, 15, 20]).out := dep_one h ⟨[0, 5, 10, 15, 20], ⟨by simp [Asc], fun x => exL_ends x⟩, rfl⟩
  rw [this]; rfl
theorem exL_pack {r : List Nat} {k : Int} (h : PackSpec exL (0, 20) r k) : r = [0, 2] ∧ k = 0 := by
  rw [PackSpec, if_pos (by rfl)] at h
  obtain ⟨M, hM, rfl, rfl⟩ := h
  have e : M = [0, 1, 2] := ord_one hM ⟨by rw [show pickL exL (insideB (0, 20)) exL.length = [0, 1, 2] from by rfl], by simp [lexLt, sp, tt, exL]⟩
  subst e
  exact ⟨rfl, rfl⟩
theorem example44_c (w : World) : Calls Try.prog 41 #[] w fun e w' => ∃ v, e = .returned v ∧ IsSpans w' v exL ∧ Below w.heap.size w w' := by
  go_enter Try.func41, Try.ntmps41
  go_wp2
  go_ret
  exact ⟨_, rfl, spans_lit w.heap.size exL 3 rfl rfl rfl (by omega), by go_grown⟩
set_option maxRecDepth 100000 in
theorem awake44_c (w : World) : Calls Try.prog 13 #[] w (Ret w (.bool true)) := by
  go_enter Try.func13, Try.ntmps13
  go_wp2_with fail
  refine (example44_c _).mono ?_
  rintro e w1 ⟨v1, rfl, h1, hb1⟩
  go_wp2_with fail
  refine (sRooms_c _ exL _ h1).mono ?_
  rintro e w2 ⟨R, c, v2, hR, rfl, h2, hb2⟩
  rw [if_pos exL_right] at hR
  obtain ⟨rfl, rfl⟩ := exL_rooms hR
  clear hR
  have hB2 := hb1.trans (hb2.mono hb1.size)
  replace h1 := h1.below hb2
  clear hb1 hb2
  go_wp2_with fail
  refine (sPack_c _ exL 0 20 _ h1).mono ?_
  rintro e w3 ⟨r, k, v3, hP, rfl, h3, hb3⟩
  obtain ⟨rfl, rfl⟩ := exL_pack hP
  clear hP
  have hB3 := hB2.trans (hb3.mono hB2.size)
  replace h1 := h1.below hb3
  replace h2 := h2.below hb3
  clear hB2 hb3
  go_wp2_with fail
  refine (slEqualInt_c _ _ [0, 1, 0] [0, 1, 0] _ (h2.alloc _) (ints_lit w3.heap.size [0, 1, 0] 3 rfl rfl rfl (by omega))).mono ?_
  rintro e w4 ⟨rfl, hb4⟩
  rw [show sameI [0, 1, 0] [0, 1, 0] = true from by rfl]
  have hB4 := (hB3.alloc hB3.size (.cells #[.int .i64 0, .int .i64 1, .int .i64 0] 3)).trans (hb4.mono (by have := hB3.size; simp; omega))
  replace h1 := (h1.alloc (.cells #[.int .i64 0, .int .i64 1, .int .i64 0] 3)).below hb4
  replace h3 := (h3.alloc (.cells #[.int .i64 0, .int .i64 1, .int .i64 0] 3)).below hb4
  clear hB3 hb4 h2
  go_wp2_with fail
  refine (slEqualInt_c _ _ [0, 2] [0, 2] _ (h3.alloc _) (ints_lit w4.heap.size [0, 2] 2 rfl rfl rfl (by omega))).mono ?_
  rintro e w5 ⟨rfl, hb5⟩
  rw [show sameI [0, 2] [0, 2] = true from by rfl]
  have hB5 := (hB4.alloc hB4.size (.cells #[.int .i64 0, .int .i64 2] 3)).trans (hb5.mono (by have := hB4.size; simp; omega))
  replace h1 := (h1.alloc (.cells #[.int .i64 0, .int .i64 2] 3)).below hb5
  clear hB4 hb5 h3
  go_wp2_with fail
  refine (sDepth_c _ exL _ h1).mono ?_
  rintro e w6 ⟨F, v6, hF, rfl, h6, hb6⟩
  rw [if_pos exL_right] at hF
  have hl := exL_dep hF
  obtain ⟨A6, c6, rfl, hc6, _⟩ := h6.form
  have hB6 := hB5.trans (hb6.mono hB5.size)
  rw [hl]
  clear hl hF h6 hc6 hb6 hB5
  go_wp2
  go_ret
  exact ⟨rfl, hB6⟩
end Go.Proofs.Ytahpcepnagpbdaa
