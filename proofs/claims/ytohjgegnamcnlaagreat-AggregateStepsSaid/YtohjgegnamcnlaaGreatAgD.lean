/- Law 39: value.Encode. -/
import Derived.Test.YtohjgegnamcnlaaGreatAgC
namespace Go.Proofs.YtohjgegnamcnlaaGreat
open Go.RowKit Go.Shelf
open Go.Sort (grow grow_grow grow_empty)

theorem tBytes : Tryz.prog.underlying 112 = some (.slice 5) := Tryz.underlying112
theorem tByteInfo : (Tryz.prog.info? 5).map (fun i => (i.zero, i.size, i.bytes)) = some (some (.int .u8 0), 1, 1) := by kernel_rfl
theorem tStr : Tryz.prog.underlying 9 = some .string := Tryz.underlying9
def byC (l : List Int) : List Value := l.map (Value.int .u8)
def OwnsY (w : World) (base : Nat) (v : Value) (l : List Int) : Prop := w.ownsRow base 5 1 v l.length (byC l)
theorem OwnsY.below {w w' : World} {base : Nat} {v : Value} {l : List Int} (h : OwnsY w base v l) (hb : Below w.heap.size w w') : OwnsY w' base v l := own_below h hb (Nat.le_refl _)
theorem byC_append (a b : List Int) : byC (a ++ b) = byC a ++ byC b := by simp [byC]
theorem byC_str (s : ByteArray) : byC (sNums s) = Lib.strCells s := by
  unfold byC sNums Lib.strCells
  rw [List.map_map]
  rfl
/-- append(own, byte) -/
theorem append_byte {ops : Array Oper} {rest : List Oper} {o : Oper} {a : Act} {Q : Exit → Act → World → Prop} (hgd : o.guard = none) (s x : Operand)
    (ho : o.op = .call { callee := .builtin .append, args := #[s, x], argTypes := #[112, 112] })
    {w : World} {p : Int} {t : TypeId} (base : Nat) (v : Value) (l : List Int) (hs : a.eval s = v) (hown : OwnsY w base v l)
    {b : Nat} (hx : a.eval x = .slice (some ⟨b, 0, none⟩) 1 1) (hb0 : w.heap.size = b) (hlen : l.length < 900000000) (hbase : base ≤ w.heap.size)
    (h : ∀ v' w', OwnsY w' base v' (l ++ [p]) → Below base w w' → (∀ k, k < w.heap.size → v.ownBlock ≠ some k → w'.heap[k]? = w.heap[k]?) → wpList Tryz.prog ops Q rest (a.put o.dst v') w') :
    wpList Tryz.prog ops Q (o :: rest) a (w.alloc (.cells #[.int .u8 p] t)) := by
  refine append1 tBytes tByteInfo rfl (by omega) (by omega) hgd s x ho base v l.length (byC l) [.int .u8 p] hs hown hx hb0 rfl rfl (by simp [Value.oneCell']) hlen hbase ?_
  intro v' w' h1 h2 h3 _
  refine h v' w' ?_ h2 h3
  unfold OwnsY
  rw [byC_append, List.length_append]
  exact h1
theorem append_text {ops : Array Oper} {rest : List Oper} {o : Oper} {a : Act} {Q : Exit → Act → World → Prop} (hgd : o.guard = none) (s x : Operand)
    (ho : o.op = .call { callee := .builtin .append, args := #[s, x], argTypes := #[112, 9] })
    {w : World} (base : Nat) (v : Value) (l : List Int) (hs : a.eval s = v) (hown : OwnsY w base v l) (t : ByteArray)
    (hx : a.eval x = .string t) (hlen : l.length < 900000000) (ht : t.size ≤ 1000) (hbase : base ≤ w.heap.size)
    (h : ∀ v' w', OwnsY w' base v' (l ++ sNums t) → Below base w w' → wpList Tryz.prog ops Q rest (a.put o.dst v') w') :
    wpList Tryz.prog ops Q (o :: rest) a w := by
  obtain ⟨i, hi, hzz, hss, hbb⟩ := info_parts tByteInfo
  refine Lib.wpList_append_own_string w hgd s x 112 9 ho base 5 i tBytes tStr hi hzz hss hbb v l.length (byC l) hs hown t hx (by unfold maxLen; omega) (by omega) hbase ?_
  intro v' w' h1 h2 _
  refine h v' w' ?_ ((Below.refl base w).grown h2 hbase fun k hk => (hown.lt k hk).1)
  unfold OwnsY
  rw [byC_append, List.length_append, byC_str]
  have e : (sNums t).length = t.size := by simp [sNums]
  rw [e]
  exact h1
theorem make_bytes {ops : Array Oper} {rest : List Oper} {o : Oper} {a : Act} {Q : Exit → Act → World → Prop} (hgd : o.guard = none) (l c : Operand)
    (ho : o.op = Op.makeSlice 112 l c) {w : World} (base n : Nat) (hl : a.eval l = .int .i64 0) (hc : a.eval c = .int .i64 (n : Int)) (hn : n ≤ 1000000) (hbase : base ≤ w.heap.size)
    (h : ∀ v' w', OwnsY w' base v' [] → Below base w w' → wpList Tryz.prog ops Q rest (a.put o.dst v') w') : wpList Tryz.prog ops Q (o :: rest) a w := by
  obtain ⟨i, hi, hzz, hss, hbb⟩ := info_parts tByteInfo
  refine wpList_make_own w hgd l c 112 ho base 5 i (.int .u8 0) 1 tBytes hi hzz hss .i64 .i64 _ n hl hc rfl (by rw [hbb]; omega) (by unfold maxLen; omega) hbase ?_
  intro w' h1 h2
  refine h _ w' h1 ((Below.refl _ w).grown h2 hbase fun k hk => by cases hk)
/-! ### the walk -/
theorem take_va (r : VRow) (k : Nat) (h : k < r.length) : numsR (r.take (k + 1)) = numsR (r.take k) ++ numsV (va r k) := by
  unfold numsR
  rw [List.take_succ_eq_append_getElem h, List.flatMap_append, va_at h]
  simp
theorem enc_take (n : Int) (k : Nat) (h : k < 8) : ((List.range 8).take (k + 1)).map (enc1 n) = ((List.range 8).take k).map (enc1 n) ++ [enc1 n k] := by
  rw [List.take_succ_eq_append_getElem (by simpa using h)]
  simp
def EncRet (r : VRow) (w : World) (e : Ending) (w' : World) : Prop := ∃ v, e = .returned (.tuple #[v, .int .i64 0]) ∧ OwnsY w' w.heap.size v (numsR r) ∧ Below w.heap.size w w'
theorem OwnsY.lt {w : World} {base : Nat} {v : Value} {l : List Int} (h : OwnsY w base v l) : v.ownBlock ≠ some w.heap.size := fun e => by
  have := (World.ownsRow.lt h _ e).2
  omega
theorem cell_two {w w' : World} {q : Nat} {C : Array Value} {t : TypeId} (h : w.heap[q]? = some (.cells C t (0, 0))) (hb : w'.heap[q]? = w.heap[q]?) : w'.heap[q]? = some (.cells C t (0, 0)) := hb.trans h
set_option maxRecDepth 100000 in
set_option maxHeartbeats 4000000 in
theorem vEncode_c (v : Value) (r : VRow) (w : World) (hs : IsVals w v r) (ok : okR r) (hl : r.length ≤ 1000) : Calls Tryz.prog 73 #[v] w (EncRet r w) := by
  have K := Lib.hid (vall_c v r w hs)
  obtain ⟨A, c, rfl, hnc, hc⟩ := hs.form
  rw [rowB_ok ok] at K
  have Hl := Lib.hid hl; have Hok := Lib.hid ok
  have g0 : decide (1000 < (r.length : Int)) = false := decide_eq_false (by omega)
  have g1 : IntKind.i64.wrap (9 * (r.length : Int)) = ((9 * r.length : Nat) : Int) := by rw [IntKind.wrap_i64]; omega
  go_enter Tryz.func73, Tryz.ntmps73
  go_wp2_with fail
  refine K.out.mono ?_
  rintro e w1 ⟨rfl, hg⟩
  have hb1 := gw_below hg
  clear hg
  go_wp2_with (at_make; refine make_bytes rfl _ _ (by rfl) w.heap.size (9 * r.length) (by rfl) (by first | rfl | (rw [← g1]; rfl)) (by omega) hb1.size ?_; intro v2 w2 hown2 hb2)
  have hbw := hb1.trans hb2
  go_loopw [4, 21] (fun o i wr => ∃ k : Nat, k ≤ r.length ∧ i = .int .i64 (k : Int) ∧ OwnsY wr w.heap.size o (numsR (r.take k)) ∧ Below w.heap.size w wr) (fun _ i _ => r.length - (intOf i).toNat)
  case atStart => exact ⟨0, Nat.zero_le _, rfl, hown2, hbw⟩
  case round =>
    obtain ⟨k, hk, rfl, hown, hb⟩ := hrel
    clear hb1 hb2 hown2 hbw K
    by_cases hlt : k < r.length
    · obtain ⟨b, off, rfl, hbk⟩ := hs.addr (by omega)
      have c0 := (hs.below hb).c0 k hlt
      have c1 := (hs.below hb).c1 k hlt
      have c2 := (hs.below hb).c2 k hlt
      have hokx : okV (va r k) := ok _ (va_mem hlt)
      have HT := Lib.hid (take_va r k hlt)
      have hlen : (numsR (r.take k)).length < 100000 := by
        have := numsR_len (r := r.take k) fun v hv => ok v (List.mem_of_mem_take hv)
        rw [List.length_take] at this
        omega
      generalize numsR (r.take k) = L at hown HT hlen
      generalize va r k = x at c0 c1 c2 hokx HT
      obtain ⟨kd, n, s⟩ := x
      have hsz : s.size ≤ 1000 ∧ 0 ≤ kd ∧ kd ≤ 255 := by
        rcases vB_kind hokx.1 with ⟨p, q⟩ | ⟨p, _, q, _⟩ | ⟨p, q, _⟩ | ⟨p, q⟩ <;> simp only at p q <;> subst p
        · rw [q]; exact ⟨by decide, by omega⟩
        · omega
        · rw [q]; exact ⟨by decide, by omega⟩
        · rw [q]; exact ⟨by decide, by omega⟩
      obtain ⟨hs1, hs2, hs3⟩ := hsz
      have hT : (wr.alloc (.cells #[.int .i64 kd, .int .i64 n, .string s] 51)).heap[wr.heap.size]? = some (.cells #[.int .i64 kd, .int .i64 n, .string s] 51 (0, 0)) := heap_alloc_new wr _
      have t0 := (blk_get hT 0)
      simp at t0
      have hne := hown.lt
      have FT : Hid (∀ X : World, X.heap[wr.heap.size]? = (wr.alloc (.cells #[.int .i64 kd, .int .i64 n, .string s] 51)).heap[wr.heap.size]? → X.cell? ⟨wr.heap.size, 0, none⟩ = some (.int .i64 kd) ∧ X.cell? ⟨wr.heap.size, 1, none⟩ = some (.int .i64 n) ∧ X.cell? ⟨wr.heap.size, 2, none⟩ = some (.string s)) := Lib.hid fun X hX => by
        have hX2 := hX.trans hT
        have a0 := blk_get hX2 0
        have a1 := blk_get hX2 1
        have a2 := blk_get hX2 2
        simp at a0 a1 a2
        exact ⟨a0, a1, a2⟩
      have hownW := hown.below ((Below.refl wr.heap.size wr).alloc (Nat.le_refl _) (.cells #[.int .i64 kd, .int .i64 n, .string s] 51))
      have hbW : Below w.heap.size w (wr.alloc (.cells #[.int .i64 kd, .int .i64 n, .string s] 51)) := hb.alloc hb.size _
      have Hlt := Lib.hid hlt
      clear hbk hT hk hown hb hlt ok hl hs
      cases k2 : (kd == 2)
      · cases k3 : (kd == 3)
        · go_wp2_with (at_builtin; refine append_byte rfl _ _ (by rfl) w.heap.size _ L (by rfl) hownW (by rfl) (by simp) (by omega) hbW.size ?_; intro v4 w4 hown4 hb4 hbk4; obtain ⟨y0, y1, y2⟩ := FT.out _ (hbk4 wr.heap.size (by simp) hne); have hb4 := hbW.trans hb4)
          have hlen4 : (L ++ [kd]).length < 200000 := by simp; omega
          clear hownW hbW hne FT y0 y1 y2 c0 c1 c2 hlen
          obtain ⟨L4, hL4⟩ : ∃ l, l = L ++ [kd] := ⟨_, rfl⟩
          rw [← hL4] at hown4 hlen4
          have HL4 : Hid (L ++ [kd] = L4) := Lib.hid hL4.symm
          clear hL4
          go_loopw [4, 8] (fun o i wq => ∃ m : Nat, m ≤ 8 ∧ i = .int .i64 (56 - 8 * (m : Int)) ∧ OwnsY wq w.heap.size o (L4 ++ ((List.range 8).take m).map (enc1 n)) ∧ Below w.heap.size w wq) (fun _ i _ => (intOf i + 8).toNat)
          case atStart => exact ⟨0, by omega, rfl, by simpa using hown4, hb4⟩
          case round =>
            obtain ⟨m, hm, rfl, hown5, hb5⟩ := hrel
            by_cases hm8 : m < 8
            · have hlen5 : (L4 ++ ((List.range 8).take m).map (enc1 n)).length < 300000 := by simp; omega
              have HL5 : Hid (∀ p, p = enc1 n m → L4 ++ ((List.range 8).take (m + 1)).map (enc1 n) = L4 ++ ((List.range 8).take m).map (enc1 n) ++ [p]) := Lib.hid fun p hp => by rw [enc_take n m hm8, hp, List.append_assoc]
              generalize L4 ++ ((List.range 8).take m).map (enc1 n) = L5 at hown5 hlen5 HL5
              have Hm8 := Lib.hid hm8
              go_wp2_with (at_builtin; refine append_byte rfl _ _ (by rfl) w.heap.size _ L5 (by rfl) hown5 (by rfl) (by simp) (by omega) hb5.size ?_; intro v6 w6 hown6 hb6 _; have hb6 := hb5.trans hb6)
              go_roundw
              case rel =>
                refine ⟨m + 1, Hm8.out, by go_num, ?_, hb6⟩
                rw [HL5.out (enc1 n m) rfl]
                exact hown6
              case measure => have := Hm8.out; simp [intOf]; omega
            · obtain rfl : m = 8 := by omega
              have HN : Hid (numsR (r.take (k + 1)) = L4 ++ ((List.range 8).take 8).map (enc1 n)) := Lib.hid (by
                rw [HT.out, ← HL4.out, List.append_assoc]
                unfold numsV
                rw [if_neg (by simpa using k2), if_neg (by simpa using k3)]
                rfl)
              rw [← HN.out] at hown5
              go_wp2_with fail
              go_roundw
              case rel => exact ⟨k + 1, Hlt.out, by go_num, hown5, hb5⟩
              case measure => have := Hlt.out; simp [intOf]; omega
        · have kd3 : kd = 3 := by simpa using k3
          have HN : Hid (numsR (r.take (k + 1)) = L ++ [kd] ++ [n]) := Lib.hid (by
            rw [HT.out, List.append_assoc]
            unfold numsV
            rw [if_neg (by simpa using k2), if_pos kd3]
            rfl)
          have hn3 : 0 ≤ n ∧ n ≤ 255 := by
            rcases vB_kind hokx.1 with ⟨p, _⟩ | ⟨p, _⟩ | ⟨p, _, q⟩ | ⟨p, _⟩ <;> simp only at p
            · omega
            · omega
            · simp only at q; omega
            · omega
          obtain ⟨hn31, hn32⟩ := hn3
          clear kd3
          go_wp2_with (at_builtin; first | (refine append_byte rfl _ _ (by rfl) w.heap.size _ L (by rfl) hownW (by rfl) (by simp) (by omega) hbW.size ?_; intro v4 w4 hown4 hb4 hbk4; obtain ⟨y0, y1, y2⟩ := FT.out _ (hbk4 wr.heap.size (by simp) hne); have hb4 := hbW.trans hb4) | (refine append_byte rfl _ _ (by rfl) w.heap.size _ (L ++ [kd]) (by rfl) hown4 (by rfl) (by simp) (by simp; omega) hb4.size ?_; intro v5 w5 hown5 hb5 _; have hb5 := hb4.trans hb5))
          rw [← HN.out] at hown5
          go_roundw
          case rel => exact ⟨k + 1, Hlt.out, by go_num, hown5, hb5⟩
          case measure => have := Hlt.out; simp [intOf]; omega
      · have kd2 : kd = 2 := by simpa using k2
        have HN : Hid (numsR (r.take (k + 1)) = L ++ [kd] ++ sNums s ++ [0]) := Lib.hid (by
          rw [HT.out, List.append_assoc, List.append_assoc]
          unfold numsV
          rw [if_pos kd2]
          rfl)
        have hsl : (sNums s).length ≤ 1000 := by simp [sNums]; omega
        clear kd2
        go_wp2_with (at_builtin; first | (refine append_byte rfl _ _ (by rfl) w.heap.size _ L (by rfl) hownW (by rfl) (by simp) (by omega) hbW.size ?_; intro v4 w4 hown4 hb4 hbk4; obtain ⟨y0, y1, y2⟩ := FT.out _ (hbk4 wr.heap.size (by simp) hne); have hb4 := hbW.trans hb4) | (refine append_text rfl _ _ (by rfl) w.heap.size _ (L ++ [kd]) (by rfl) hown4 s (by rfl) (by simp; omega) hs1 hb4.size ?_; intro v5 w5 hown5 hb5; have hb5 := hb4.trans hb5) | (refine append_byte rfl _ _ (by rfl) w.heap.size _ (L ++ [kd] ++ sNums s) (by rfl) hown5 (by rfl) (by simp) (by simp only [List.length_append, List.length_singleton]; omega) hb5.size ?_; intro v6 w6 hown6 hb6 _; have hb6 := hb5.trans hb6))
        rw [← HN.out] at hown6
        go_roundw
        case rel => exact ⟨k + 1, Hlt.out, by go_num, hown6, hb6⟩
        case measure => have := Hlt.out; simp [intOf]; omega
    · obtain rfl : k = r.length := by omega
      rw [List.take_length] at hown
      go_wp2_with fail
      go_ret2
      exact ⟨_, rfl, hown, hb⟩
/-! ### aggregate.code -/
theorem conv_bytes {w : World} {base : Nat} {v : Value} {l : List Int} (h : OwnsY w base v l) : (convert 112 9 v).run Tryz.prog w = .ok (.string (strOfNums l)) w := by
  have hb : Tryz.prog.underlying 5 = some (.int .u8) := Tryz.underlying5
  rcases h.2 with ⟨rfl, hl⟩ | ⟨g, cap, cur, rfl, hg, hh, h4, h5, h6, h7⟩
  · have : l = [] := List.length_eq_zero_iff.1 hl
    subst this
    exact run_convert_bytes_nil w 112 5 tBytes hb 0 0 9 tStr
  · refine run_convert_bytes_arg w 112 5 tBytes hb g 0 l.length cap l rfl (fun i hi => ?_) 9 tStr
    rw [Nat.zero_add, blk_get hh, ← Array.getElem?_toList]
    have e : (cur.toList.take (l.length * 1))[i]? = (byC l)[i]? := by rw [h7]
    rw [List.getElem?_take_of_lt (by omega)] at e
    rw [e]
    simp [byC, List.getD, hi]
theorem acode_c (v : Value) (r : VRow) (w : World) (hs : IsVals w v r) (ok : okR r) (hl : r.length ≤ 1000) : Calls Tryz.prog 36 #[v] w (Ret w (.string (encR r))) := by
  have K := Lib.hid (vEncode_c v r w hs ok hl)
  obtain ⟨A, c, rfl, hnc, hc⟩ := hs.form
  clear hs
  go_enter Tryz.func36, Tryz.ntmps36
  go_wp2_with fail
  refine K.out.mono ?_
  rintro e w1 ⟨v1, rfl, hown, hb⟩
  have hcv := conv_bytes hown
  go_wp2_with fail
  go_ret
  exact ⟨rfl, hb⟩
end Go.Proofs.YtohjgegnamcnlaaGreat
