/- Law 39: the reference's Ends. -/
import Derived.Deep.RegionHeld3
import Derived.Test.YtohjgegnamcnlaaGreatZac
namespace Go.Proofs.YtohjgegnamcnlaaGreat
open Go.RowKit Go.Shelf

set_option maxRecDepth 100000 in
set_option maxHeartbeats 4000000 in
theorem r39Ends_c (v : Value) (F : List Fct) (w : World) (hs : IsFs w v F) (hn : F.length ≤ 40000) : Calls Tryz.prog 42 #[v] w (IntsRet (endsN F F.length) w) := by
  obtain ⟨S, hs⟩ := hs
  obtain ⟨A, cc, rfl, hnc, hcc⟩ := hs.form
  go_enter Tryz.func42, Tryz.ntmps42
  go_wp2_with fail
  go_loopw [3, 4] (fun o i X => ∃ k : Nat, i = .int .i64 (k : Int) ∧ k ≤ F.length ∧ Hid (IsInts X o (endsN F k)) ∧ Hid (Below w.heap.size w X)) (fun _ i _ => F.length - (intOf i).toNat)
  case atStart => exact ⟨0, rfl, Nat.zero_le _, Lib.hid IsInts.nil, Lib.hid (Below.refl _ _)⟩
  case round =>
    obtain ⟨k, rfl, hk, HI, HB⟩ := hrel
    rename World => X
    obtain ⟨Ao, co, hoe, _, _⟩ := IsInts.form HI.out
    obtain ⟨nl, hnl⟩ : ∃ z, z = (endsN F k).length := ⟨_, rfl⟩
    rw [← hnl] at hoe
    subst hoe
    by_cases hlt : k < F.length
    · obtain ⟨b, off, rfl, hbl⟩ := hs.addr (by omega)
      have hin := hs.below HB.out
      have c1 := hin.c1 k hlt
      have c2 := hin.c2 k hlt
      have hlen := endsN_len F k
      have hlp := putL_len (endsN F k) (fc F k).2.1
      have K1 : Hid (∀ Q, Below X.heap.size X Q → Calls Tryz.prog 78 #[.slice Ao nl co, .int .i64 (fc F k).2.1] Q (IntsRet (putL (endsN F k) (fc F k).2.1) Q)) := Lib.hid fun Q h => r39put_c _ _ _ Q (HI.out.below h) (by omega)
      have K2 : Hid (∀ Q v2, IsInts Q v2 (putL (endsN F k) (fc F k).2.1) → Calls Tryz.prog 78 #[v2, .int .i64 (fc F k).2.2] Q (IntsRet (endsN F (k + 1)) Q)) := Lib.hid fun Q v2 h => r39put_c _ _ _ Q h (by omega)
      generalize (fc F k).2.1 = s1 at *
      generalize (fc F k).2.2 = s2 at *
      have hblX : b < X.heap.size := Nat.lt_of_lt_of_le hbl HB.out.size
      have FB : Hid (∀ Q, Below X.heap.size X Q → Q.cell? ⟨b, off + k * 3 + 1, none⟩ = some (.int .i64 s1) ∧ Q.cell? ⟨b, off + k * 3 + 2, none⟩ = some (.int .i64 s2)) := Lib.hid fun Q h => ⟨(h.cell (p := ⟨b, off + k * 3 + 1, none⟩) hblX).trans c1, (h.cell (p := ⟨b, off + k * 3 + 2, none⟩) hblX).trans c2⟩
      have Hlt := Lib.hid hlt
      have kb : Below X.heap.size X X := Below.refl _ _
      clear hin c1 c2 hlen hlp hnl
      go_wp2_with fail
      go_region_held3 (fun Q => Q.cell? ⟨b, off + k * 3 + 1, none⟩ = some (.int .i64 s1) ∧ Q.cell? ⟨b, off + k * 3 + 2, none⟩ = some (.int .i64 s2)) ((first | exact FB.out _ kb | exact FB.out _ kb.drew | exact HS2 | exact HS1)) (first
        | (go_at_call 78; (with_reducible refine (K1.out _ kb.drew).mono ?_); rintro e Wa ⟨va, rfl, hva, hba⟩; have hb1 := kb.drew.trans (hba.mono kb.drew.size); have HS1 := FB.out _ hb1)
        | (go_at_call 78; (with_reducible refine (K2.out _ _ hva).mono ?_); rintro e Wb ⟨vb, rfl, hvb, hbb⟩; have hb2 := hb1.trans (hbb.mono hb1.size); have HS2 := FB.out _ hb2))
      all_goals
        go_wp2_with fail
        go_roundw
        case rel => exact ⟨k + 1, by go_num, Hlt.out, Lib.hid hvb, Lib.hid (HB.out.trans (hb2.mono HB.out.size))⟩
        case measure => have := Hlt.out; simp [intOf]; omega
    · obtain rfl : k = F.length := by omega
      clear hnl
      go_wp2_with fail
      go_ret
      exact ⟨_, rfl, HI.out, HB.out⟩
end Go.Proofs.YtohjgegnamcnlaaGreat
