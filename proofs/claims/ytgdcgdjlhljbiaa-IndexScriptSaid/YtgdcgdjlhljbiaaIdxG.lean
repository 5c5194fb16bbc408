/- Law 42: the walk of the reference's walk. -/
import Derived.Test.YtgdcgdjlhljbiaaIdxE
import Derived.Test.YtgdcgdjlhljbiaaIdxF
import Derived.Deep.RegionHeld3
namespace Go.Proofs.Ytgdcgdjlhljbiaa
open Go.RowKit

theorem tREntryInfo : (Try.prog.info? 39).map (fun i => (i.zero, i.size, i.bytes)) = some (some (.agg #[.int .i64 0, .int .i64 0, .int .i64 0]), 3, 24) := by kernel_rfl
/-- A list of entries that the call made. -/
def EntsRet (t : TypeId) (base : Nat) (w1 w : World) (L : List En) (e : Ending) (w' : World) : Prop := ∃ v', e = .returned v' ∧ OwnsE w' base t v' L ∧ Below base w1 w' ∧ Below w.heap.size w w'
set_option maxRecDepth 100000 in
set_option maxHeartbeats 8000000 in
theorem r42walk_c {N : List Nd} {i : Int} {L : List Nat} {h m : Int} (hsub : Sub N i L h m) : ∀ (w : World) (v : Value) (root : Int), IsNodes w v N → L.length ≤ 1000 →
    Calls Try.prog 48 #[.agg #[v, .int .i64 root], .int .i64 i] w (EntsRet 39 w.heap.size w w (entsOf N L)) := by
  induction hsub with
  | nil =>
    intro w v root hs _
    obtain ⟨A, c, rfl, hnc, hc⟩ := hs.form
    go_enter Try.func48, Try.ntmps48
    go_wp2_with fail
    go_ret
    have hb := (Below.refl w.heap.size w).alloc (Nat.le_refl _) (.cells #[.slice A N.length c, .int .i64 root] 24)
    exact ⟨_, rfl, OwnsE.nil, hb, hb⟩
  | @node k L R a b x y hk h1 h2 h3 h4 h5 h6 h7 ih1 ih2 =>
    intro w v root hs hlen
    obtain ⟨A, c, rfl, hnc, hc⟩ := hs.form
    obtain ⟨b0, off, rfl, hb0⟩ := hs.addr (by omega)
    have hlenL : L.length ≤ 1000 := by simp at hlen; omega
    have hlenR : R.length ≤ 1000 := by simp at hlen; omega
    have hlen2 : L.length + 1 + R.length ≤ 1000 := by simp at hlen; omega
    have d0 := hs.c0 k hk
    have d1 := hs.c1 k hk
    have d2 := hs.c2 k hk
    have d3 := hs.c3 k hk
    have d4 := hs.c4 k hk
    have d5 := hs.c5 k hk
    have d6 := hs.c6 k hk
    have hbT := (Below.refl w.heap.size w).alloc (Nat.le_refl _) (.cells #[.slice (some ⟨b0, off, none⟩) N.length c, .int .i64 root] 24)
    have hbT2 := hbT.alloc hbT.size (.cells #[.int .i64 (nd N k).f, .int .i64 (nd N k).t, .int .i64 (nd N k).v, .int .i64 (nd N k).l, .int .i64 (nd N k).r, .int .i64 (nd N k).m, .int .i64 (nd N k).h] 60)
    have hT0 : ((w.alloc (.cells #[.slice (some ⟨b0, off, none⟩) N.length c, .int .i64 root] 24)).alloc (.cells #[.int .i64 (nd N k).f, .int .i64 (nd N k).t, .int .i64 (nd N k).v, .int .i64 (nd N k).l, .int .i64 (nd N k).r, .int .i64 (nd N k).m, .int .i64 (nd N k).h] 60)).cell? ⟨w.heap.size, 0, none⟩ = some (.slice (some ⟨b0, off, none⟩) N.length c) := by simp
    have hT1 : ((w.alloc (.cells #[.slice (some ⟨b0, off, none⟩) N.length c, .int .i64 root] 24)).alloc (.cells #[.int .i64 (nd N k).f, .int .i64 (nd N k).t, .int .i64 (nd N k).v, .int .i64 (nd N k).l, .int .i64 (nd N k).r, .int .i64 (nd N k).m, .int .i64 (nd N k).h] 60)).cell? ⟨w.heap.size, 1, none⟩ = some (.int .i64 root) := by simp
    have hn := heap_alloc_new (w.alloc (.cells #[.slice (some ⟨b0, off, none⟩) N.length c, .int .i64 root] 24)) (.cells #[.int .i64 (nd N k).f, .int .i64 (nd N k).t, .int .i64 (nd N k).v, .int .i64 (nd N k).l, .int .i64 (nd N k).r, .int .i64 (nd N k).m, .int .i64 (nd N k).h] 60)
    rw [show (w.alloc (.cells #[.slice (some ⟨b0, off, none⟩) N.length c, .int .i64 root] 24)).heap.size = w.heap.size + 1 from by simp] at hn
    have hz : w.heap.size + 1 < ((w.alloc (.cells #[.slice (some ⟨b0, off, none⟩) N.length c, .int .i64 root] 24)).alloc (.cells #[.int .i64 (nd N k).f, .int .i64 (nd N k).t, .int .i64 (nd N k).v, .int .i64 (nd N k).l, .int .i64 (nd N k).r, .int .i64 (nd N k).m, .int .i64 (nd N k).h] 60)).heap.size := lt_of_block hn
    have HT0 := Lib.hid hT0; have HT1 := Lib.hid hT1; have Hn := Lib.hid hn; have HbT2 := Lib.hid hbT2; have Hz := Lib.hid hz
    clear hT0 hT1 hn hbT2 hbT hz
    clear h1 h2 h3 h4 h5 h6 h7
    go_enter Try.func48, Try.ntmps48
    go_wp2_with fail
    have hbw := HbT2.out; have hT0 := HT0.out; have hT1 := HT1.out; have hn := Hn.out; have hz := Hz.out
    clear HT0 HT1 Hn HbT2 Hz d0 d1 d2 d3 d4 d5 d6
    generalize (w.alloc (.cells #[.slice (some ⟨b0, off, none⟩) N.length c, .int .i64 root] 24)).alloc (.cells #[.int .i64 (nd N k).f, .int .i64 (nd N k).t, .int .i64 (nd N k).v, .int .i64 (nd N k).l, .int .i64 (nd N k).r, .int .i64 (nd N k).m, .int .i64 (nd N k).h] 60) = w1 at *
    have hs1 := hs.below hbw
    have p0 : w1.cell? ⟨w.heap.size + 1, 0, none⟩ = some (.int .i64 (nd N k).f) := by simp only [World.cell?, hn]; rfl
    have p1 : w1.cell? ⟨w.heap.size + 1, 1, none⟩ = some (.int .i64 (nd N k).t) := by simp only [World.cell?, hn]; rfl
    have p2 : w1.cell? ⟨w.heap.size + 1, 2, none⟩ = some (.int .i64 (nd N k).v) := by simp only [World.cell?, hn]; rfl
    have p3 : w1.cell? ⟨w.heap.size + 1, 3, none⟩ = some (.int .i64 (nd N k).l) := by simp only [World.cell?, hn]; rfl
    have p4 : w1.cell? ⟨w.heap.size + 1, 4, none⟩ = some (.int .i64 (nd N k).r) := by simp only [World.cell?, hn]; rfl
    obtain ⟨q, hq⟩ : ∃ q, q = w.heap.size + 1 := ⟨_, rfl⟩
    obtain ⟨tb, htb⟩ : ∃ q, q = w.heap.size := ⟨_, rfl⟩
    rw [← hq] at p0 p1 p2 p3 p4 hz ⊢
    rw [← htb] at hT0 hT1 ⊢
    have htq : tb < w1.heap.size := by omega
    have hSof : ∀ W', Below w1.heap.size w1 W' → (W'.cell? ⟨tb, 0, none⟩ = some (.slice (some ⟨b0, off, none⟩) N.length c) ∧ W'.cell? ⟨tb, 1, none⟩ = some (.int .i64 root) ∧ W'.cell? ⟨q, 0, none⟩ = some (.int .i64 (nd N k).f) ∧ W'.cell? ⟨q, 1, none⟩ = some (.int .i64 (nd N k).t) ∧ W'.cell? ⟨q, 2, none⟩ = some (.int .i64 (nd N k).v) ∧ W'.cell? ⟨q, 3, none⟩ = some (.int .i64 (nd N k).l) ∧ W'.cell? ⟨q, 4, none⟩ = some (.int .i64 (nd N k).r)) := fun W' hb =>
      ⟨(hb.cell htq).trans hT0, (hb.cell htq).trans hT1, (hb.cell hz).trans p0, (hb.cell hz).trans p1, (hb.cell hz).trans p2, (hb.cell hz).trans p3, (hb.cell hz).trans p4⟩
    have H1 : ∀ W, Below w1.heap.size w1 W → Calls Try.prog 48 #[.agg #[.slice (some ⟨b0, off, none⟩) N.length c, .int .i64 root], .int .i64 (nd N k).l] W (EntsRet 39 w1.heap.size w1 W (entsOf N L)) := fun W hb =>
      (ih1 W _ root (hs1.below hb) hlenL).mono fun _ _ ⟨v', he, ho, _, hb'⟩ => ⟨v', he, ho.mono hb.size, hb.trans (hb'.mono hb.size), hb'⟩
    have H2 : ∀ W, Below w1.heap.size w1 W → Calls Try.prog 48 #[.agg #[.slice (some ⟨b0, off, none⟩) N.length c, .int .i64 root], .int .i64 (nd N k).r] W (EntsRet 39 w1.heap.size w1 W (entsOf N R)) := fun W hb =>
      (ih2 W _ root (hs1.below hb) hlenR).mono fun _ _ ⟨v', he, ho, _, hb'⟩ => ⟨v', he, ho.mono hb.size, hb.trans (hb'.mono hb.size), hb'⟩
    have HS := Lib.hid hSof; have HH1 := Lib.hid H1; have HH2 := Lib.hid H2
    have HQ := Lib.hid hq; have HTB := Lib.hid htb; have Hbw := Lib.hid hbw
    clear hSof H1 H2 ih1 ih2 hq htb p0 p1 p2 p3 p4 hT0 hT1 hn hbw hs1
    have hd0 : Below w1.heap.size w1 w1.drew := (Below.refl _ _).drew
    have hres : entsOf N L ++ [ent (nd N k)] ++ entsOf N R = entsOf N (L ++ [k] ++ R) := by simp [entsOf]
    have Hres := Lib.hid hres; clear hres
    have hdA : Below w1.heap.size w1 (w1.alloc (.cells #[.int .i64 (nd N k).f, .int .i64 (nd N k).t, .int .i64 (nd N k).v] 39)).drew := ((Below.refl _ _).alloc (Nat.le_refl _) _).drew
    have hS0 := HS.out _ hd0
    go_region_held3 (fun w' => w'.cell? ⟨tb, 0, none⟩ = some (.slice (some ⟨b0, off, none⟩) N.length c) ∧ w'.cell? ⟨tb, 1, none⟩ = some (.int .i64 root) ∧ w'.cell? ⟨q, 0, none⟩ = some (.int .i64 (nd N k).f) ∧ w'.cell? ⟨q, 1, none⟩ = some (.int .i64 (nd N k).t) ∧ w'.cell? ⟨q, 2, none⟩ = some (.int .i64 (nd N k).v) ∧ w'.cell? ⟨q, 3, none⟩ = some (.int .i64 (nd N k).l) ∧ w'.cell? ⟨q, 4, none⟩ = some (.int .i64 (nd N k).r)) ((first | exact HS.out _ kb5 | exact HS.out _ kb4 | exact HS.out _ kb3 | exact HS.out _ kb2 | exact HS.out _ hd0 | exact HS.out _ hdA | exact HS.out _ (kb2.alloc kb2.size _) | fail)) (first | (go_at_call 48; (with_reducible refine (HH2.out _ kb3).mono ?_); rintro e w4 ⟨vR, rfl, hR, kb4, hb4⟩) | (go_at_call 48; (with_reducible refine (HH1.out _ hd0).mono ?_); rintro e w2 ⟨vL, rfl, hL, kb2, hb2⟩) | (go_at_call 48; (with_reducible refine (HH1.out _ hdA).mono ?_); rintro e w2 ⟨vL, rfl, hL, kb2, hb2⟩) | (rw [if_pos (by rfl)]; refine append_ents_wp Try.underlying35 tREntryInfo (.tmp 23) (.tmp 27) (by rfl) w1.heap.size _ _ (entsOf N L ++ [ent (nd N k)]) (entsOf N R) (by rfl) (by rfl) (h3.below hb4) hR.ents (by simp [entsOf]; omega) kb4.size (fun v5 w5 h5 hb5 => ?_); have kb5 := kb4.trans hb5) | (rw [if_pos (by rfl)]; refine append_ents_wp Try.underlying35 tREntryInfo (.tmp 16) (.tmp 22) (by rfl) w1.heap.size _ _ (entsOf N L) [ent (nd N k)] (by rfl) (by rfl) hL ((show OwnsE (w1.alloc (.cells #[.int .i64 (nd N k).f, .int .i64 (nd N k).t, .int .i64 (nd N k).v] 39)).drew w1.heap.size 39 (.slice (some ⟨w1.heap.size, 0, none⟩) 1 1) [ent (nd N k)] from OwnsE.lit (ent (nd N k)) w1).below hb2).ents (by simp [entsOf]; omega) kb2.size (fun v3 w3 h3 hb3 => ?_); have kb3 := kb2.trans hb3) | (rw [if_pos (by rfl)]; refine append_ents_wp Try.underlying35 tREntryInfo (.tmp 16) (.tmp 22) (by rfl) w1.heap.size _ _ (entsOf N L) [ent (nd N k)] (by rfl) (by rfl) (hL.alloc _) (OwnsE.lit (ent (nd N k)) w2).ents (by simp [entsOf]; omega) (kb2.alloc kb2.size _).size (fun v3 w3 h3 hb3 => ?_); have kb3 := (kb2.alloc kb2.size (.cells #[.int .i64 (nd N k).f, .int .i64 (nd N k).t, .int .i64 (nd N k).v] 39)).trans hb3) | fail)
    all_goals
      go_wp2_with fail
      go_ret
      have hbw := Hbw.out
      have hb5 : Below w.heap.size w w5 := hbw.trans (kb5.mono hbw.size)
      refine ⟨v5, rfl, ?_, hb5, hb5⟩
      have h6 := Hres.out ▸ h5
      exact h6.mono hbw.size
end Go.Proofs.Ytgdcgdjlhljbiaa
