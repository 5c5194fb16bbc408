/- SweepMany: long lists are accepted up to the limit; a row of spans that touch needs one room, and one that begins with each of them a room for each; a join with too many pairs is refused. No condition. -/
import Derived.Test.YtahpcepnagpbdaaAwake44
import Derived.Test.YtahpcepnagpbdaaManyP
import Derived.Test.YtahpcepnagpbdaaSwP
import Derived.Test.YtahpcepnagpbdaaOpen
namespace Go.Proofs.Ytahpcepnagpbdaa
open Go.RowKit Go.ChangeShapes Go.WideShapes Go.ChangeAt

theorem append_spanK {P : Program} {tS tE : TypeId} (hS : P.underlying tS = some (.slice tE)) (hE : (P.info? tE).map (fun i => (i.zero, i.size, i.bytes)) = some (some (.agg #[.int .i64 0, .int .i64 0]), 2, 16))
    {ops : Array Oper} {rest : List Oper} {o : Oper} {a : Act} {Q : Exit → Act → World → Prop} (hgd : o.guard = none) (s x : Operand)
    (ho : o.op = .call { callee := .builtin .append, args := #[s, x], argTypes := #[tS, tS] })
    {w : World} (base : Nat) (v : Value) (l : List Sp) (p q : Int) (hs : a.eval s = v) (hown : w.ownsRow base tE 2 v l.length (flat l))
    (hx : a.eval x = .slice (some ⟨w.heap.size, 0, none⟩) 1 1) (hlen : l.length < 1000000000) (hbase : base ≤ w.heap.size)
    (h : ∀ v' w', w'.ownsRow base tE 2 v' (l ++ [(p, q)]).length (flat (l ++ [(p, q)])) → Below base w w' → w.grownBy w' v.ownBlock → (∀ b, b < w.heap.size → v.ownBlock ≠ some b → v'.ownBlock ≠ some b) → wpList P ops Q rest (a.put o.dst v') w') :
    wpList P ops Q (o :: rest) a (w.alloc (.cells #[.int .i64 p, .int .i64 q] tE)) := by
  obtain ⟨i, hi, hz, hsz, hby⟩ := info_parts hE
  refine wpList_append_own_at (w.alloc (.cells #[.int .i64 p, .int .i64 q] tE)) hgd s x tS ho base tE i _ 2 16 hS hi hz hsz hby rfl (by omega) v l.length (flat l) hs (hown.alloc _) ⟨w.heap.size, 0, none⟩ 1 1
    [.int .i64 p, .int .i64 q] hx rfl ?_ (by simp [Value.oneCell']) (by unfold maxLen; omega) (by omega) (by simp; omega) ?_
  · intro j u hu
    rcases j with _ | _ | j <;> simp at hu
    · subst hu; simp [Addr.add]
    · subst hu; simp [Addr.add]
  · intro v' w' hown' hg _ hob
    have hal := (Below.refl w.heap.size w).alloc (Nat.le_refl _) (.cells #[.int .i64 p, .int .i64 q] tE)
    refine h v' w' ?_ ?_ ?_ ?_
    · rw [flat_snoc]; simpa using hown'
    · refine ((Below.refl base w).alloc hbase _).grown hg (by simp; omega) ?_
      intro k hk
      exact (hown.lt k hk).1
    · exact ⟨hg.os.trans hal.os, hg.tape.trans hal.tape, hg.output.trans hal.output, Nat.le_trans hal.size hg.size, fun b hb hne => (hg.block b (by simp; omega) hne).trans (hal.block b hb)⟩
    · intro b hb hne
      rcases hob with e | e
      · rw [e]; exact hne
      · rw [e]; intro e'; have := Option.some.inj e'; simp at this; omega
def Dj (a b : Value) : Prop := ∀ k, a.ownBlock = some k → b.ownBlock ≠ some k
theorem dj_nil : Dj (.slice none 0 0) (.slice none 0 0) := fun k hk => by simp [Value.ownBlock] at hk
theorem Dj.symm {a b : Value} (h : Dj a b) : Dj b a := fun k hk e => h k e hk
theorem Dj.ne {a b : Value} (h : Dj a b) : b.ownBlock = none ∨ b.ownBlock ≠ a.ownBlock := by
  cases hb : b.ownBlock with
  | none => exact .inl rfl
  | some k => exact .inr fun e => h k e.symm hb
theorem Dj.step {a a' b : Value} {n : Nat} (h : Dj a b) (hb : ∀ k, b.ownBlock = some k → k < n) (hx : ∀ k, k < n → a.ownBlock ≠ some k → a'.ownBlock ≠ some k) : Dj a' b := fun k hk e =>
  hx k (hb k e) (fun e' => h k e' e) hk
theorem wfu8 {n : Int} (h : (Lit.int .u8 n).wf = true) : 0 ≤ n ∧ n ≤ 255 := by
  simp [Lit.wf, IntKind.min, IntKind.max, IntKind.signed, IntKind.bits] at h
  omega
theorem wfu16 {x : Int} (h : (Lit.int .u16 x).wf = true) : 0 ≤ x ∧ x ≤ 65535 := by
  simp [Lit.wf, IntKind.min, IntKind.max, IntKind.signed, IntKind.bits] at h
  omega

set_option maxRecDepth 100000 in
set_option maxHeartbeats 4000000 in
theorem lawMany_c (n u : Int) (w : World) (hn0 : 0 ≤ n) (hn1 : n ≤ 65535) (hu0 : 0 ≤ u) (hu1 : u ≤ 255) :
    Calls Try.prog 8 #[.int .u16 n, .int .u8 u] w (Ret w (.bool true)) := by
  obtain ⟨m, hm, hme⟩ : ∃ m : Nat, m ≤ 1002 ∧ n % 1003 = (m : Int) := ⟨(n % 1003).toNat, by omega, by omega⟩
  obtain ⟨K, hK, hK5, hKe⟩ : ∃ K : Nat, 1 ≤ K ∧ K ≤ 5 ∧ u % 5 + 1 = (K : Int) := ⟨(u % 5 + 1).toNat, by omega, by omega, by omega⟩
  go_enter Try.func8, Try.ntmps8
  go_wp2_with fail
  refine (awake44_c _).mono ?_
  rintro e w1 ⟨rfl, hB⟩
  go_wp2_with fail
  rw [hme]
  clear hme
  go_loopw [7, 8, 26] (fun o p i wr => ∃ k : Nat, i = .int .i64 k ∧ k ≤ m ∧ wr.ownsRow w1.heap.size 31 2 o (rowL K k).length (flat (rowL K k)) ∧ wr.ownsRow w1.heap.size 31 2 p (nestL k).length (flat (nestL k)) ∧ Dj o p ∧ Below w1.heap.size w1 wr) (fun _ _ i _ => m - (intOf i).toNat)
  case atStart => exact ⟨0, rfl, Nat.zero_le _, own_nil _ _ _ _, own_nil _ _ _ _, dj_nil, Below.refl _ _⟩
  case round =>
    obtain ⟨k, rfl, hk, hown1, hown2, hdj, hbw⟩ := hrel
    by_cases hlt : k < m
    · have hb0 : K * k ≤ 5 * 1002 := Nat.mul_le_mul hK5 (by omega)
      have hp1 : (K : Int) * (k : Int) = ((K * k : Nat) : Int) := by rw [Int.natCast_mul]
      have hp2 : (K : Int) * ((k : Int) + 1) = ((K * k + K : Nat) : Int) := by rw [Int.mul_add, Int.mul_one, Int.natCast_add, Int.natCast_mul]
      have HS1 : Hid (rowL K k ++ [((K : Int) * (k : Int), (K : Int) * ((k : Int) + 1))] = rowL K (k + 1)) := by rw [hp1, hp2, rowL_succ]; exact rfl
      have HS2 : Hid (nestL k ++ [((k : Int), 2000)] = nestL (k + 1)) := (nestL_succ k).symm
      have q1 : 0 ≤ (K : Int) * (k : Int) := by omega
      have q2 : (K : Int) * (k : Int) ≤ 5010 := by omega
      have q3 : 0 ≤ (K : Int) * ((k : Int) + 1) := by omega
      have q4 : (K : Int) * ((k : Int) + 1) ≤ 5015 := by omega
      have l1 : (rowL K k).length < 1000000000 := by rw [rowL_len]; omega
      have l2 : (nestL k).length < 1000000000 := by rw [nestL_len]; omega
      clear hp1 hp2 hb0
      go_wp2_with (at_builtin; first
        | (refine append_spanK tSpans tSpanInfo (by rfl) (.tmp 29) (.tmp 38) (by rfl) w1.heap.size _ (rowL K k) _ _ (by rfl) hown1 (by rfl) l1 hbw.size ?_; intro v5 w5 hown5 hb5 hg5 hx5; have hown6 := World.ownsRow.kept hown2 hg5 hdj.ne; have hdj5 := (hdj.step (fun k hk => (hown2.lt k hk).2) hx5).symm; have hbw5 := hbw.trans hb5; rw [HS1.out] at hown5; clear hown1 hown2 hdj hg5 hx5 hb5)
        | (refine append_spanK tSpans tSpanInfo (by rfl) (.tmp 40) (.tmp 43) (by rfl) w1.heap.size _ (nestL k) _ _ (by rfl) hown6 (by rfl) l2 hbw5.size ?_; intro v7 w7 hown7 hb7 hg7 hx7; have hown8 := World.ownsRow.kept hown5 hg7 hdj5.ne; have hdj7 := (hdj5.step (fun k hk => (hown5.lt k hk).2) hx7).symm; have hbw7 := hbw5.trans hb7; rw [HS2.out] at hown7; clear hown5 hown6 hdj5 hg7 hx7 hb7))
      go_roundw
      case rel => exact ⟨k + 1, by go_num, hlt, hown8, hown7, hdj7, hbw7⟩
      case measure => simp [intOf]; omega
    · obtain rfl : m = k := by omega
      have h1 := spans_of_own hown1
      have h2 := spans_of_own hown2
      have hB := hB.trans (hbw.mono hB.size)
      clear hown1 hown2 hdj hbw
      go_wp2_with fail
      refine (sRooms_c _ _ _ h1).mono ?_
      rintro e w3 ⟨R, c, v3, hR, rfl, h3, hb⟩
      have h1 := h1.below hb
      have h2 := h2.below hb
      have hB := hB.trans (hb.mono hB.size)
      clear hb
      go_wp2_with fail
      refine (sRooms_c _ _ _ h2).mono ?_
      rintro e w4 ⟨R2, c2, v4, hR2, rfl, h4, hb⟩
      have h1 := h1.below hb
      have h2 := h2.below hb
      have h3 := h3.below hb
      have hB := hB.trans (hb.mono hB.size)
      clear hb h4
      go_wp2_with fail
      refine (sJoin_c _ _ _ _ 8191 _ h1 h1).mono ?_
      rintro e w5 ⟨x, kx, v5, hJ, rfl, h5, hb⟩
      have h1 := h1.below hb
      have h2 := h2.below hb
      have h3 := h3.below hb
      have hB := hB.trans (hb.mono hB.size)
      clear hb
      rw [rightB_row hK hK5 hm] at hR
      rw [rightB_nest hm] at hR2
      rw [JoinSpec, rightB_row hK hK5 hm] at hJ
      obtain ⟨A3, c3, rfl, _, _⟩ := h3.form
      obtain ⟨A5, c5, rfl, _, _⟩ := h5.form
      clear h5 h3
      by_cases hbig : m ≤ 1000
      · have hd : decide (m ≤ 1000) = true := decide_eq_true hbig
        rw [if_pos hd] at hR hR2
        rw [hd, if_pos ⟨rfl, by omega, by omega⟩, PairsSpec, joinP_every, rowL_len] at hJ
        clear hd
        by_cases hz : m = 0
        · subst hz
          obtain ⟨rfl, rfl⟩ := rooms_nil hR
          obtain ⟨rfl, rfl⟩ := rooms_nil hR2
          rw [if_pos (by omega)] at hJ
          obtain ⟨rfl, rfl⟩ := hJ
          clear hR hR2
          go_wp2
          go_ret
          exact ⟨rfl, hB⟩
        · have hm1 : 1 ≤ m := by omega
          have e1 := row_rooms hK hK5 hm1 hm hR
          have e2 := nest_rooms hm hR2
          subst e1 e2
          have hz' : ((m : Int) == 0) = false := by rw [beq_eq_false_iff_ne]; omega
          have HJ := Lib.hid hJ
          have D1 := Lib.hid (fun F (h : DepRes (rowL K m) F) => row_dep hK hm1 h)
          have D2 := Lib.hid (fun F (h : DepRes (nestL m) F) => nest_dep hm1 hm h)
          have HB1 : Hid (rightB (rowL K m) = true) := by rw [rightB_row hK hK5 hm]; exact decide_eq_true hbig
          have HB2 : Hid (rightB (nestL m) = true) := by rw [rightB_nest hm]; exact decide_eq_true hbig
          clear hR hR2 hJ hz
          go_wp2_with fail
          refine (sDepth_c _ _ _ h1).mono ?_
          rintro e w6 ⟨F, v6, hF, rfl, h6, hb⟩
          rw [if_pos HB1.out] at hF
          have hl6 := D1.out F hF
          obtain ⟨A6, c6, rfl, _, _⟩ := h6.form
          rw [hl6]
          have h2 := h2.below hb
          have hB := hB.trans (hb.mono hB.size)
          clear hb hF h6 hl6
          go_wp2_with fail
          refine (sDepth_c _ _ _ h2).mono ?_
          rintro e w7 ⟨F2, v7, hF2, rfl, h7, hb⟩
          rw [if_pos HB2.out] at hF2
          have hl7 := D2.out F2 hF2
          obtain ⟨A7, c7, rfl, _, _⟩ := h7.form
          rw [hl7]
          have hB := hB.trans (hb.mono hB.size)
          clear hb hF2 h7 hl7
          have hJ := HJ.out
          have mm : m * m ≤ 1000 * 1000 := Nat.mul_le_mul hbig hbig
          have m1 : (m : Int) * (m : Int) = ((m * m : Nat) : Int) := by rw [Int.natCast_mul]
          by_cases hq : m * m ≤ 10000
          · rw [if_pos hq] at hJ
            obtain ⟨hx, rfl⟩ := hJ
            have hxl : x.length = m * m := by rw [hx, joinP_every, rowL_len]
            have hxi : (x.length : Int) = (m : Int) * (m : Int) := by rw [hxl, Int.natCast_mul]
            have m2 : (m : Int) * (m : Int) ≤ 10000 := by omega
            have m3 : 0 ≤ (m : Int) * (m : Int) := by omega
            have m4 : ((x.length : Int) == (m : Int) * (m : Int)) = true := beq_iff_eq.2 hxi
            clear HJ hx hxl mm m1 hq hxi
            go_wp2
            go_ret
            exact ⟨rfl, hB⟩
          · rw [if_neg hq] at hJ
            obtain ⟨rfl, rfl⟩ := hJ
            have m2 : 10000 < (m : Int) * (m : Int) := by omega
            have m3 : (m : Int) * (m : Int) ≤ 1000000 := by omega
            clear HJ mm m1 hq
            go_wp2
            go_ret
            exact ⟨rfl, hB⟩
      · have hd : decide (m ≤ 1000) = false := decide_eq_false hbig
        rw [hd, if_neg Bool.false_ne_true] at hR hR2
        rw [hd, if_neg (fun h => Bool.false_ne_true h.1)] at hJ
        obtain ⟨rfl, rfl⟩ := hR
        obtain ⟨rfl, rfl⟩ := hR2
        obtain ⟨rfl, rfl⟩ := hJ
        clear hd
        go_wp2
        go_ret
        exact ⟨rfl, hB⟩

set_option maxRecDepth 100000 in
theorem lawMany_lifted (os : Os) (started : os.Started) (H : Type) (enc : TypeId × Value → H) :
    ReturnsInHanded {} Try.checked os 8 .any (Rows.sweepManySpec.pre6 enc Try.prog Try.f8 Rows.sweepManyRow.domain false) (Rows.sweepManySpec.post enc Try.prog Try.f8 false true false false) := by
  refine returnsInHanded_of_change (C := Try.checked) Try.own started (by kernel_rfl) Try.func8
    (ChangeSpec.witness6 (enc := enc) (C := Try.checked) false ⟨#[], #[.int .u16 0, .int .u8 0], []⟩ 8 (by kernel_rfl) (by kernel_rfl) (by kernel_rfl) (by kernel_rfl)) ?_
  intro W base args ds gs before hval0 hW hcnd _
  have hval : ∀ (j : Nat) t v, Try.f8.params[j]? = some t → args[j]? = some v → Value.okWide Try.prog W .any base t v := hval0
  have hW' := hW
  obtain ⟨p, q, hA0, hV, rfl, hfz, hnd⟩ := hW
  have hA : DataW.TrodAll enc Try.prog W 0 (fun _ => true) true Try.f8.params.toList args.toList ds p := hA0
  have hA1 := hA0
  rw [Try.params8] at hA hval
  obtain ⟨v0, v1, d0, d1, p0, p1, rfl, rfl, hp, h0, h1⟩ := trodAll_two hA
  obtain ⟨rfl, rfl⟩ := trodVars_none hV
  obtain ⟨n, rfl, rfl, rfl, g0⟩ := open_int Try.underlying52 (hval 0 52 v0 rfl rfl) h0
  obtain ⟨u, rfl, rfl, rfl, g1⟩ := open_int Try.underlying5 (hval 1 5 v1 rfl rfl) h1
  clear hA0 hval0
  have hlt : ∀ x ∈ p, x.block < W.heap.size := fun x hx => hW'.lt x (by simp [hx])
  refine (lawMany_c n u W (wfu16 g0).1 (wfu16 g0).2 (wfu8 g1).1 (wfu8 g1).2).mono fun e W' ⟨he, hg⟩ => ?_
  subst he
  exact ⟨_, rfl, post_of_below (pa := p) (pv := []) hW' (fun _ _ _ => trodAll_mk1 (shut_bool Try.underlying4 _))
    (fun sp hsp => trodAll_keep Try.laidOut hg (by kernel_rfl) hA1 hlt (fun x hx => hsp x (by simp [hx])))
    (fun _ _ => rfl) rfl hg (ok_one (by kernel_rfl) rfl (okWide_bool_mk Try.underlying4 _))⟩

theorem lawMany_holds : Rows.SweepManySaid :=
  OpenClaim.holds_of_wide 8 Try.f8 rfl rfl rfl rfl rfl rfl rfl ⟨rfl, rfl, rfl, rfl, rfl⟩ rfl rfl rfl rfl rfl (by kernel_rfl) Try.func8 (by kernel_rfl)
    (of_decide_eq_true (by kernel_rfl)) (by unfold Func.isWrapper; first | (rw [if_pos (by decide +kernel)]; kernel_rfl) | (rw [if_neg (by decide +kernel)]; exact ⟨rfl, rfl⟩))
    (fun os started H enc _ => lawMany_lifted os started H enc)
#print axioms lawMany_holds
end Go.Proofs.Ytahpcepnagpbdaa
