/- Law 39: sums over a window. Plain law. -/
import Derived.Test.YtohjgegnamcnlaaAhl
import Derived.Test.YtohjgegnamcnlaaAhn
namespace Go.Proofs.Ytohjgegnamcnlaa
open Go.RowKit Go.Shelf

/-- The sums' list is normal where no sum is beyond the ints. -/
theorem grp_sum {F : List Fct} {colI e : Int} {v : Value} {w' : World} (hv : validF F = true) (hp : 0 < F.length) (hf : F.length ≤ 16) (hc : hasB F colI = true) (hk : (va (row0 F) colI.toNat).1 = 1)
    (hs : ∀ t, -9223372036854775808 ≤ sumAtT F colI.toNat t ∧ sumAtT F colI.toNat t ≤ 9223372036854775807) (hg : GrpSpec F [] 2 colI e v w') : e = 0 ∧ ∃ A, NormOf A (DGrp F [] 2 colI.toNat) ∧ A.length ≤ 1000 ∧ IsFs w' v A := by
  unfold GrpSpec at hg
  have hbad : bad1 F 2 colI = false := by unfold bad1; rw [hv, hc]; rfl
  rw [if_neg (by rw [hbad]; decide), if_neg (by omega), if_neg (by show ¬ (true = false); decide), if_neg (by decide), if_neg (fun e => e.2 hk)] at hg
  rcases hg with ⟨⟨t, r, hr, he⟩, _⟩ | ⟨_, A, hA, _, h2⟩
  · have hm : memG [] (rowsAt F t) (pickR r []) = rowsAt F t := by unfold memG pickR; simp
    rw [hm] at he
    have hs := hs t
    unfold sumAtT at hs
    unfold resR at he
    rw [if_neg (by decide), if_pos rfl] at he
    unfold resS at he
    rw [if_pos (by omega)] at he
    exact absurd rfl he
  · rcases h2 with ⟨h3, _⟩ | ⟨h3, h4, h5⟩
    · exfalso
      rename_i h7
      have : F.length * (2 * F.length) ≤ 16 * (2 * 16) := Nat.mul_le_mul hf (by omega)
      omega
    · exact ⟨h4, A, hA, h3, h5⟩
/-- The rows of a normal list of sums at a time. -/
theorem rows_sum_none {F A : List Fct} {col : Nat} {t : Int} (h : NormOf A (DGrp F [] 2 col)) (h0 : rowsAt F t = []) : rowsAt A t = [] := by
  rw [List.eq_nil_iff_forall_not_mem]
  intro r hr
  have := (h.pts r t).1 (rowsAt_mem.1 hr)
  exact ((grp_all rfl).1 this).1 h0
theorem nodup_one {α : Type} {l : List α} {x : α} (hn : l.Nodup) (h : ∀ y, y ∈ l ↔ y = x) : l = [x] := by
  match l, hn, h with
  | [], _, h => exact absurd ((h x).2 rfl) (by simp)
  | [y], _, h => rw [(h y).1 (by simp)]
  | y :: z :: l, hn, h =>
    have e1 := (h y).1 (by simp)
    have e2 := (h z).1 (by simp)
    rw [e1, e2] at hn
    simp at hn
theorem rows_sum_some {F A : List Fct} {col : Nat} {t : Int} (h : NormOf A (DGrp F [] 2 col)) (hs : -9223372036854775808 ≤ sumAtT F col t ∧ sumAtT F col t ≤ 9223372036854775807) (h0 : rowsAt F t ≠ []) : rowsAt A t = [[(1, sumAtT F col t, ⟨#[]⟩)]] := by
  refine nodup_one (rowsN_nodup A t A.length) fun r => ?_
  have e : r ∈ rowsAt A t ↔ DGrp F [] 2 col r t := rowsAt_mem.trans (h.pts r t)
  have e2 := sum_res hs
  refine e.trans ((grp_all rfl).trans ?_)
  rw [e2]
  exact ⟨fun h => h.2, fun h => ⟨h0, h⟩⟩
/-! ### facts with later ends -/
theorem movF_len (F : List Fct) (w : Int) : (movF F w).length = F.length := by simp [movF]
theorem movF_at {F : List Fct} {w : Int} {i : Nat} (h : i < F.length) : fc (movF F w) i = ((fc F i).1, ((fc F i).2.1, min 253402300800 ((fc F i).2.2 + w - 1))) := by
  have h2 : i < (movF F w).length := by rw [movF_len]; exact h
  rw [← fc_at h2]
  simp [movF, fc_at h]
theorem movF_row0 {F : List Fct} {w : Int} (h : 0 < F.length) : row0 (movF F w) = row0 F := by
  unfold row0
  rw [movF_at h]
theorem movF_valid {F : List Fct} {w : Int} (hw : 1 ≤ w) (h : validF F = true) : validF (movF F w) = true := by
  have hl := (valid_rows h).1
  unfold validF at h ⊢
  simp only [Bool.and_eq_true, decide_eq_true_eq, List.all_eq_true] at h ⊢
  refine ⟨by rw [movF_len]; exact hl, fun f hf => ?_⟩
  obtain ⟨g, hg, rfl⟩ := List.mem_map.1 hf
  have hpos : 0 < F.length := List.length_pos_of_mem hg
  rw [movF_row0 hpos]
  have hk := h.2 g hg
  unfold okFct at hk ⊢
  simp only [Bool.and_eq_true, decide_eq_true_eq] at hk ⊢
  refine ⟨⟨⟨⟨?_, hk.1.1.1.2⟩, hk.1.1.2⟩, hk.1.2⟩, hk.2⟩
  have hs := hk.1.1.1.1
  unfold spT at hs ⊢
  simp only [Bool.and_eq_true, decide_eq_true_eq] at hs ⊢
  omega
theorem movF_one {F : List Fct} (h : validF F = true) : movF F 1 = F := by
  have hr := (valid_rows h).2
  unfold movF
  refine (List.map_congr_left fun f hf => ?_).trans (List.map_id F)
  have hs := (hr f hf).2.1
  unfold spT at hs
  simp only [Bool.and_eq_true, decide_eq_true_eq] at hs
  have : min 253402300800 (f.2.2 + 1 - 1) = f.2.2 := by omega
  rw [this]
  rfl
theorem movF_has {F : List Fct} {w colI : Int} (h : hasB F colI = true) : hasB (movF F w) colI = true := by
  unfold hasB at h ⊢
  rw [movF_len]
  rcases Nat.eq_zero_or_pos F.length with e | e
  · rw [decide_eq_true e]; rfl
  · rw [movF_row0 e]; exact h
theorem movF_act {F : List Fct} {w t : Int} {i : Nat} (h : i < F.length) (ht : t < 253402300800) : actB (fc (movF F w) i) t = (decide ((fc F i).2.1 ≤ t) && decide (t - w + 1 < (fc F i).2.2)) := by
  rw [movF_at h]
  unfold actB
  simp only
  have e : decide (t < min 253402300800 ((fc F i).2.2 + w - 1)) = decide (t - w + 1 < (fc F i).2.2) := by rw [decide_eq_decide]; omega
  rw [e]
theorem sum_num {F : List Fct} {col : Nat} {B : Int} (hB : 0 ≤ B) (hl : F.length ≤ 16) (h : ∀ f ∈ F, -B ≤ (va f.1 col).2.1 ∧ (va f.1 col).2.1 ≤ B) (t : Int) : -(B * 16) ≤ sumAtT F col t ∧ sumAtT F col t ≤ B * 16 := by
  have h1 := sumI_bound (B := B) (colN (rowsAt F t) col) fun x hx => by
    obtain ⟨r, hr, rfl⟩ := List.mem_map.1 hx
    obtain ⟨f, hf, rfl, _⟩ := rowsAt_mem.1 hr
    exact h f hf
  have h3 := rowsN_len F t F.length
  have h5 : (colN (rowsAt F t) col).length = (rowsN F t F.length).length := by unfold colN rowsAt; rw [List.length_map]
  have h6 : B * ((colN (rowsAt F t) col).length : Int) ≤ B * 16 := Int.mul_le_mul_of_nonneg_left (by omega) hB
  unfold sumAtT
  omega
theorem movF_num {F : List Fct} {w : Int} {P : VRow → Prop} (h : ∀ f ∈ F, P f.1) : ∀ f ∈ movF F w, P f.1 := fun f hf => by
  obtain ⟨g, hg, rfl⟩ := List.mem_map.1 hf
  exact h g hg
/-- Moving answers the sums of the facts with later ends. -/
theorem mov_sum {F : List Fct} {colI w e : Int} {v : Value} {w' : World} (hv : validF F = true) (hp : 0 < F.length) (hf : F.length ≤ 16) (hc : hasB F colI = true) (hk : (va (row0 F) colI.toNat).1 = 1) (hw : 1 ≤ w ∧ w ≤ 34560000)
    (hs : ∀ t, -9223372036854775808 ≤ sumAtT (movF F w) colI.toNat t ∧ sumAtT (movF F w) colI.toNat t ≤ 9223372036854775807) (hg : MovSpec F colI w e v w') : e = 0 ∧ ∃ A, NormOf A (DGrp (movF F w) [] 2 colI.toNat) ∧ A.length ≤ 1000 ∧ IsFs w' v A := by
  unfold MovSpec at hg
  rw [if_neg (by rw [hv]; decide), if_neg (by omega)] at hg
  exact grp_sum (movF_valid hw.1 hv) (by rw [movF_len]; exact hp) (by rw [movF_len]; exact hf) (movF_has hc) (by rw [movF_row0 hp]; exact hk) hs hg
end Go.Proofs.Ytohjgegnamcnlaa
