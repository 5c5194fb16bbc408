/- Law 39: slices.Reverse at facts. -/
import Derived.Shelf.SlicesQ.Reverse
import Derived.Test.YtohjgegnamcnlaaAgR
import Derived.Test.YtohjgegnamcnlaaLayR
namespace Go.Proofs.Ytohjgegnamcnlaa
open Go.RowKit Go.Shelf

def SlF (x : Fx) : Prop := ∃ A n c, x.1 = .slice A n c
def RevRet (base : Nat) (w : World) (v : Value) (G : List Fx) (e : Ending) (w' : World) : Prop := e = .returned (.tuple #[]) ∧ OwnsFx w' base v G.reverse ∧ Below base w w'
theorem slReverseFact_c (v : Value) (G : List Fx) (w : World) (base : Nat) (hown : OwnsFx w base v G) (hl : G.length ≤ 100000000) : Calls Try.prog 30 #[v] w (RevRet base w v G) := by
  by_cases h0 : 0 < G.length
  · obtain ⟨g, cap, rfl, hgb, hglt, hcap, hcm⟩ := own_formG hown.own h0
    have hall : ∀ x ∈ G, SlF x := fun x hx => by
      obtain ⟨A, c, e, _⟩ := (hown.row x hx).1.form
      exact ⟨A, _, c, e⟩
    obtain ⟨L0, hL0⟩ : ∃ L0 : List {x : Fx // SlF x}, L0.map (·.1) = G := ⟨G.attach.map fun s => ⟨s.1, hall s.1 s.2⟩, by rw [List.map_map]; exact List.attach_map_subtype_val G⟩
    have hlen : L0.length = G.length := by rw [← hL0]; simp
    haveI : Inhabited {x : Fx // SlF x} := ⟨L0[0]⟩
    have hfl : ∀ L : List {x : Fx // SlF x}, L.flatMap (fun x => encFx x.1) = (L.map (·.1)).flatMap encFx := fun L => by rw [List.flatMap_map]
    have hown2 : w.ownsRow base 29 3 (.slice (some ⟨g, 0, none⟩) G.length cap) G.length (L0.flatMap fun x => encFx x.1) := by
      rw [hfl, hL0]; exact hown.own
    obtain ⟨hH, hblk, _⟩ := holdsK_own (enc := fun x : {x : Fx // SlF x} => encFx x.1) (k := 3) (fun _ => rfl) hown2
    have hcon := AnyQ.slices_Reverse lay_reverseFact 3 Try.isAgg29 Try.sizeOf29 (fun x : {x : Fx // SlF x} => encFx x.1) (fun _ => rfl) (fun x u hu => by
        obtain ⟨A, n, c, hx⟩ := x.2
        simp [encFx] at hu
        rcases hu with rfl | rfl | rfl
        · rw [hx]; rfl
        · rfl
        · rfl) g 0 cap L0.toArray w hH (by simp; omega)
    change Calls Try.prog 30 _ _ _ at hcon
    have hsz : L0.toArray.size = G.length := by simpa using hlen
    rw [hsz] at hcon
    refine hcon.mono ?_
    rintro e w' ⟨rfl, n, rfl⟩
    have hw : Go.Sort.putRowK (fun x : {x : Fx // SlF x} => encFx x.1) 3 (Sort.ahead w n) g 0 L0.toArray.reverse = sortWorldK (fun x : {x : Fx // SlF x} => encFx x.1) 3 w g 0 n L0.toArray.reverse #[] := by
      unfold sortWorldK
      rw [Go.Sort.grow_empty]
    rw [hw]
    have hd : L0.toArray.reverse.size = L0.length := by simp
    obtain ⟨o1, o2⟩ := own_sorted (enc := fun x : {x : Fx // SlF x} => encFx x.1) (k := 3) (fun _ => rfl) hown2 n #[] L0.toArray.reverse hd
    have hrev : L0.toArray.reverse.toList.map (·.1) = G.reverse := by rw [← hL0]; simp
    refine ⟨rfl, ⟨?_, fun x hx => ?_⟩, o2⟩
    · rw [List.length_reverse, ← hrev, ← hfl]; exact o1
    · have hx := List.mem_reverse.1 hx
      refine ⟨(hown.row x hx).1.blocks sortK_size fun b hb => sortK_other ((hown.row x hx).2 b hb).1 fun e => ((hown.row x hx).2 b hb).2 (by rw [e]; rfl), fun b hb => ⟨Nat.lt_of_lt_of_le ((hown.row x hx).2 b hb).1 sortK_size, ((hown.row x hx).2 b hb).2⟩⟩
  · obtain rfl : G = [] := List.length_eq_zero_iff.1 (by omega)
    obtain ⟨A, cap, rfl⟩ := hown.form
    have hcon := AnyQ.slices_Reverse_empty lay_reverseFact A cap w
    change Calls Try.prog 30 _ _ _ at hcon
    refine hcon.mono ?_
    rintro e w' ⟨rfl, rfl⟩
    exact ⟨rfl, hown, Below.refl _ _⟩
end Go.Proofs.Ytohjgegnamcnlaa
