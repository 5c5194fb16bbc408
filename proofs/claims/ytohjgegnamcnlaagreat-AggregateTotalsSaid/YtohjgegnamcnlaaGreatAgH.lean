/- Law 39: aggregate.each: visitors; the walk. -/
import Derived.Carry
import Derived.Test.YtohjgegnamcnlaaGreatZab
namespace Go.Proofs.YtohjgegnamcnlaaGreat
open Go.RowKit Go.Shelf

/-! ### strings in a block -/
def StrAt (w : World) (g n : Nat) (f : Nat → ByteArray) : Prop := ∃ cs : Array Value, w.heap[g]? = some (.cells cs 9 (0, 0)) ∧ n ≤ cs.size ∧ ∀ j, j < n → cs[j]? = some (.string (f j))
section
variable {w w' : World} {g n : Nat} {f : Nat → ByteArray}
theorem StrAt.block (h : StrAt w g n f) (hb : w'.heap[g]? = w.heap[g]?) : StrAt w' g n f := by
  obtain ⟨cs, h1, h2, h3⟩ := h
  exact ⟨cs, hb.trans h1, h2, h3⟩
theorem StrAt.lt (h : StrAt w g n f) : g < w.heap.size := by obtain ⟨cs, h1, _⟩ := h; exact blk_lt h1
theorem StrAt.below (h : StrAt w g n f) (hb : Below w.heap.size w w') : StrAt w' g n f := h.block (hb.block g h.lt)
theorem StrAt.cell (h : StrAt w g n f) (j : Nat) (hj : j < n) : w.cell? ⟨g, j, none⟩ = some (.string (f j)) := by
  obtain ⟨cs, h1, _, h3⟩ := h
  rw [blk_get h1, h3 j hj]
theorem StrAt.soft (h : StrAt w g n f) (j : Nat) : w.frozen? ⟨g, j, none⟩ = false := by
  obtain ⟨cs, h1, _⟩ := h
  exact blk_soft h1 j
theorem StrAt.set (h : StrAt w g n f) (j : Nat) (hj : j < n) (x : ByteArray) : StrAt (w.setCell ⟨g, j, none⟩ (.string x)) g n (fun b => if b = j then x else f b) := by
  obtain ⟨cs, h1, h2, h3⟩ := h
  refine ⟨_, blk_set h1 j _, by simpa using h2, fun k hk => ?_⟩
  rw [Array.getElem?_setIfInBounds]
  by_cases e : k = j
  · subst e
    simp
    omega
  · rw [if_neg (fun h => e h.symm)]
    simp only [e, if_false]
    exact h3 k hk
theorem StrAt.congr {q : Nat → ByteArray} (h : StrAt w g n f) (he : ∀ j, j < n → f j = q j) : StrAt w g n q := by
  obtain ⟨cs, h1, h2, h3⟩ := h
  exact ⟨cs, h1, h2, fun j hj => by rw [h3 j hj, he j hj]⟩
theorem StrAt.notmap (h : StrAt w g n f) {b m : Nat} {q : ByteArray → Option Value} (hm : MapIs w b m q) : g ≠ b := fun e => by
  obtain ⟨cs, h1, _⟩ := h
  obtain ⟨D, ⟨es, clock, h2, _⟩, _⟩ := hm
  rw [e, h2] at h1
  cases h1
end
theorem tStrings : Tryz.prog.underlying 110 = some (.slice 9) := Tryz.underlying110
theorem tStrInfo : (Tryz.prog.info? 9).map (fun i => (i.zero, i.size, i.bytes)) = some (some (.string ⟨#[]⟩), 1, 16) := by kernel_rfl
theorem made_strs {w : World} {base n g : Nat} (h : w.ownsRow base 9 1 (.slice (some ⟨g, 0, none⟩) n n) n (madeCells #[.string ⟨#[]⟩] n).toList) : StrAt w g n (fun _ => ⟨#[]⟩) := by
  rcases h.2 with ⟨h0, _⟩ | ⟨g', cap, cur, hv, hg, hh, h4, h5, h6, h7⟩
  · cases h0
  · injection hv with e1 e2 e3
    injection e1 with e1
    injection e1 with e1
    subst e1
    refine ⟨cur, hh, by omega, fun j hj => ?_⟩
    rw [toList_madeCells_one] at h7
    have e : (cur.toList.take (n * 1))[j]? = (List.replicate n (Value.string ⟨#[]⟩))[j]? := by rw [h7]
    rw [List.getElem?_take_of_lt (by omega), List.getElem?_replicate, if_pos hj, Array.getElem?_toList] at e
    exact e
theorem first_none {F : List Fct} {k : Nat} (h : firstN F k (codeF F k) = none) (x : ByteArray) : updF (firstF F k) (codeF F k) (some (.int .i64 (k : Int))) x = firstF F (k + 1) x := by
  unfold updF firstF
  conv => rhs; unfold firstN
  by_cases e : x = codeF F k
  · subst e
    rw [if_pos rfl, h]
    simp
  · rw [if_neg e]
    cases q : firstN F k x with
    | none =>
      show none = Option.map _ (if codeF F k = x then some k else none)
      rw [if_neg (fun e2 => e e2.symm)]
      rfl
    | some i => rfl
theorem first_some {F : List Fct} {k i : Nat} (h : firstN F k (codeF F k) = some i) (x : ByteArray) : firstF F k x = firstF F (k + 1) x := by
  unfold firstF
  conv => rhs; unfold firstN
  cases q : firstN F k x with
  | none =>
    have : codeF F k ≠ x := fun e => by rw [e, q] at h; cases h
    simp [this]
  | some i => rfl
theorem zero_int (w : World) : (zeroValue 3).run Tryz.prog w = .ok (.int .i64 0) w := by kernel_rfl
theorem tMapSI : Tryz.prog.underlying 109 = some (.map 9 3) := Tryz.underlying109
theorem codeF_size {F : List Fct} (hok : OkF F) (hrl : ∀ f ∈ F, f.1.length ≤ 100) (k : Nat) : (codeF F k).size ≤ maxLen := by
  unfold codeF encR
  rw [strOfNums_size]
  by_cases hk : k < F.length
  · have h1 := numsR_len (hok _ (fc_mem hk))
    have h2 := hrl _ (fc_mem hk)
    unfold maxLen
    omega
  · have : fc F k = ([], (0, 0)) := by unfold fc; rw [List.getD_eq_getElem?_getD, List.getElem?_eq_none (by omega)]; rfl
    rw [this]
    decide
/-! ### visitors -/
/-- What each does itself: it writes the blocks from zs on up to z1, and new ones. -/
structure Oz (zs z1 : Nat) (W W' : World) : Prop where
  size : W.heap.size ≤ W'.heap.size
  env : Below 0 W W'
  oth : ∀ b, b < W.heap.size → ¬ (zs ≤ b ∧ b < z1) → W'.heap[b]? = W.heap[b]?
theorem Oz.below {zs z1 base : Nat} {w W W' : World} (h : Oz zs z1 W W') (hb : Below base w W) (h0 : base ≤ w.heap.size) (hz : base ≤ zs) : Below base w W' :=
  ⟨h.env.os.trans hb.os, h.env.tape.trans hb.tape, h.env.output.trans hb.output, Nat.le_trans hb.size h.size, fun k hk => (h.oth k (by have := hb.size; omega) (by omega)).trans (hb.block k hk)⟩
/-- What a visitor may do: it leaves the blocks from zs on up to z1 alone, and those below base. -/
structure Kv (base zs z1 : Nat) (W W' : World) : Prop where
  bel : Below base W W'
  oth : ∀ b, zs ≤ b → b < z1 → W'.heap[b]? = W.heap[b]?
/-- The rows of some facts (their numbers: js). -/
def rowsJ (F : List Fct) (js : List Nat) : List VRow := js.map fun j => (fc F j).1
structure Visitor39 (F : List Fct) (S : Nat → Value) (base zs z1 : Nat) (f : FuncId) (caps : Array Value) (J : List Vis → World → Prop) (Fin : List Vis → Int → World → Prop) : Prop where
  ent : ∀ (args : Array Value) (w : World), Sem.run Tryz.prog (callFunc f args) w = .ok (.enter f args) w
  keep : ∀ Vs W W', J Vs W → Oz zs z1 W W' → J Vs W'
  call : ∀ X v (js : List Nat) Vs (s : Sp), J Vs X → z1 ≤ X.heap.size → (∃ P, VisOk F (Vs ++ [(s, rowsJ F js)]) P) → (∃ q, X.ownsRow q 47 1 v js.length (js.map S)) → (∀ j ∈ js, j < F.length) → js.length ≤ 2000 → Vs.length ≤ 2000 →
    Calls Tryz.prog f (#[.agg #[.int .i64 s.1, .int .i64 s.2], v] ++ caps) X (fun e w' => ∃ c : Int, e = .returned (.int .i64 c) ∧ Kv base zs z1 X w' ∧ if c = 0 then J (Vs ++ [(s, rowsJ F js)]) w' else Fin (Vs ++ [(s, rowsJ F js)]) c w')
def EachRet (F : List Fct) (base zs : Nat) (J : Nat → List Vis → World → Prop) (Fin : Nat → List Vis → Int → World → Prop) (w : World) (e : Ending) (w' : World) : Prop :=
  ∃ z1 c Vs, zs ≤ z1 ∧ e = .returned (.int .i64 c) ∧ Below base w w' ∧ if c = 0 then VisOk F Vs (fun _ => True) ∧ J z1 Vs w' ∧ Vs.length ≤ 2 * F.length else (∃ P, VisOk F Vs P) ∧ Fin z1 Vs c w'
theorem own_on {w w' : World} {base k n q : Nat} {e : TypeId} {v : Value} {xs : List Value} (h : w.ownsRow base e k v n xs) (hon : On q w w') (hq : ∀ g, v.ownBlock = some g → g ≠ q) : w'.ownsRow base e k v n xs := by
  obtain ⟨h1, h2⟩ := h
  refine ⟨h1, h2.imp id ?_⟩
  rintro ⟨g, cap, cur, rfl, hg, hh, r⟩
  exact ⟨g, cap, cur, rfl, hg, (hon.oth g (blk_lt hh) (hq g rfl)).trans hh, r⟩
theorem tRowVs : Tryz.prog.underlying 52 = some (.slice 47) := Tryz.underlying52
theorem tValuesInfo : (Tryz.prog.info? 47).map (fun i => (i.zero, i.size, i.bytes)) = some (some (.slice none 0 0), 1, 24) := by kernel_rfl
/-- A list of rows of one's own, which are rows of the facts. -/
theorem rj_own {w : World} {base : Nat} {o : Value} {S : Nat → Value} {js : List Nat} (h : w.ownsRow base 47 1 o js.length (js.map S)) : RowsIn w o js.length 1 (fun i _ => S (js.getD i 0)) := by
  refine rows_of_own h fun i j hi hj => ?_
  obtain rfl : j = 0 := by omega
  rw [Nat.mul_one, Nat.add_zero, List.getElem?_map, List.getElem?_eq_getElem hi]
  simp [hi]
set_option maxRecDepth 100000 in
set_option maxHeartbeats 8000000 in
theorem aeach_c {F : List Fct} {S : Nat → Value} {base : Nat} {f : FuncId} {caps : Array Value} {J : Nat → List Vis → World → Prop} {Fin : Nat → List Vis → Int → World → Prop} (v : Value) (w : World) (hbase : base ≤ w.heap.size)
    (hfs : ∀ W, Below base w W → FsIn W v F S) (hn : F.length ≤ 1000) (hok : OkF F) (hrl : ∀ f ∈ F, f.1.length ≤ 100) (hup : Up39 F) (hnear : Near39 F) (h0 : 0 < F.length)
    (hV : ∀ z1, w.heap.size ≤ z1 → Visitor39 F S base w.heap.size z1 f caps (J z1) (Fin z1)) (hJ : ∀ z1 W, w.heap.size ≤ z1 → z1 ≤ W.heap.size → Below w.heap.size w W → J z1 [] W) :
    Calls Tryz.prog 34 #[v, .func (.func f) #[] caps] w (EachRet F base w.heap.size J Fin w) := by
  have hmm := @run_makeMap Tryz.prog
  have Hfs := Lib.hid hfs
  obtain ⟨A, c, rfl, hnc, hc⟩ := (hfs w (Below.refl _ _)).form
  obtain ⟨fb, fo, rfl, hfb⟩ := (hfs w (Below.refl _ _)).addr h0
  have HV := Lib.hid hV; have HJ := Lib.hid hJ; have Hok := Lib.hid hok; have Hup := Lib.hid hup; have Hnear := Lib.hid hnear; have Hrl := Lib.hid hrl
  have Hb0 := Lib.hid hbase
  clear hfs hV hJ hok hup hnear hfb hbase hrl
  go_enter Tryz.func34, Tryz.ntmps34
  go_wp2_with fail
  go_loopw [5, 23] (fun o i wr => ∃ k : Nat, k ≤ F.length ∧ i = .int .i64 (k : Int) ∧ OwnsEv F wr w.heap.size o (evAll k) ∧ Below w.heap.size w wr) (fun _ i _ => F.length - (intOf i).toNat)
  case atStart => exact ⟨0, Nat.zero_le _, rfl, own_nil _ _ _ _, Below.refl _ _⟩
  case round =>
    obtain ⟨k, hk, rfl, hown, hb⟩ := hrel
    have hin := Hfs.out _ (hb.mono Hb0.out)
    by_cases hlt : k < F.length
    · have c0 := hin.c0 k hlt
      have c1 := hin.c1 k hlt
      have c2 := hin.c2 k hlt
      obtain ⟨A1, p1, hS, _, _⟩ := (hin.2 k hlt).form
      rw [hS] at c0
      have HE : Hid (evAll (k + 1) = evAll k ++ [(k, true), (k, false)]) := Lib.hid (evAll_succ k)
      have hel : (evAll k).length = 2 * k := evAll_len k
      have Hlt := Lib.hid hlt
      have hown2 := hown.below ((Below.refl wr.heap.size wr).alloc (Nat.le_refl _) (.cells #[.slice A1 (fc F k).1.length p1, .int .i64 (fc F k).2.1, .int .i64 (fc F k).2.2] 49))
      have hb2 : Below w.heap.size w (wr.alloc (.cells #[.slice A1 (fc F k).1.length p1, .int .i64 (fc F k).2.1, .int .i64 (fc F k).2.2] 49)) := hb.alloc hb.size _
      clear hin
      go_wp2_with (at_builtin; refine appendM tEvents tEventInfoA rfl (by omega) (by omega) rfl _ _ (by rfl) w.heap.size _ (evAll k).length 2 _ (encEv F (k, true) ++ encEv F (k, false)) (by rfl) hown2 (by rfl) (by simp) (by rfl) rfl (by simp [encEv, Value.oneCell']) (by omega) hb2.size ?_; intro v4 w4 hown4 hb4; have hb4 := hb2.trans hb4)
      go_roundw
      case rel =>
        refine ⟨k + 1, Hlt.out, by go_num, ?_, hb4⟩
        unfold OwnsEv
        rw [HE.out, List.flatMap_append, List.length_append]
        exact hown4
      case measure => have := Hlt.out; simp [intOf]; omega
    · obtain rfl : k = F.length := by omega
      clear hin
      go_wp2_with fail
      refine (slSortEventA_c Hnear.out _ (evAll F.length) wr w.heap.size hown (by rw [evAll_len]; omega)).mono ?_
      rintro e w1 ⟨rfl, L, hLp, hLs, hownL, hb1⟩
      have hE : EvOk F L := ⟨hLp, hLs⟩
      have hLl : L.length = 2 * F.length := hE.len
      rw [← hLp.length_eq] at hownL
      obtain ⟨ge, gcap, rfl, hge1, hge2, hge3, hge4⟩ := own_formG hownL (by omega)
      have hEv : OwnsEv F w1 w.heap.size (.slice (some ⟨ge, 0, none⟩) L.length gcap) L := hownL
      have hbw1 := hb.trans hb1
      have hLb : L.length ≤ 2000 := by omega
      have HLl := Lib.hid hLl
      have HE := Lib.hid hE; have HEv := Lib.hid hEv; have Hge := Lib.hid (And.intro hge1 hge2)
      clear hLl
      clear hE hEv hownL hLp hLs hb hb1 hown hge1 hge2 hge3 hge4
      obtain ⟨i0, hi, hz0, hz1, hz2⟩ := info_parts tStrInfo
      have hz3 : (w1.alloc (.map #[] 0)).heap.size = w1.heap.size + 1 := by simp
      go_wp2_with (at_make; refine wpList_make_full _ rfl _ _ 110 rfl (w1.heap.size + 1) 9 i0 (.string ⟨#[]⟩) 1 Tryz.underlying110 hi hz0 hz1 .i64 .i64 _ _ F.length (by rfl) (by rfl) rfl rfl (by rw [hz2]; omega) (by unfold maxLen; omega) (by rw [hz3]; exact Nat.le_refl _) ?_; intro w2 hown2 hgrow2)
      have hm0 : MapIs (w1.alloc (.map #[] 0)) w1.heap.size 0 (fun _ => none) := MapIs.made w1
      have hb12 : Below (w1.alloc (.map #[] 0)).heap.size (w1.alloc (.map #[] 0)) w2 := (Below.refl _ _).grown hgrow2 (Nat.le_refl _) (fun k hk => by cases hk)
      have hs2 : StrAt w2 (w1.heap.size + 1) F.length (fun _ => ⟨#[]⟩) := by
        have := hown2
        rw [hz3, Nat.mul_one] at this
        exact made_strs this
      have hm2 := hm0.below hb12
      have hm3 := hm2.below ((Below.refl w2.heap.size w2).alloc (Nat.le_refl _) (.map #[] 0))
      have hf3 : MapIs (w2.alloc (.map #[] 0)) w2.heap.size 0 (fun _ => none) := MapIs.made w2
      have hs3 := hs2.below ((Below.refl w2.heap.size w2).alloc (Nat.le_refl _) (.map #[] 0))
      have hbx : Below w1.heap.size w1 (w2.alloc (.map #[] 0)) := (((Below.refl w1.heap.size w1).alloc (Nat.le_refl _) (.map #[] 0)).trans (hb12.mono (by simp))).alloc (by have := hb12.size; simp at this; omega) _
      have hb3 : Below w.heap.size w (w2.alloc (.map #[] 0)) := hbw1.trans (hbx.mono hbw1.size)
      have hE3 := HEv.out.below hbx
      have hne : w2.heap.size ≠ w1.heap.size := by have := hb12.size; simp at this; omega
      have hne2 : w1.heap.size + 1 ≠ w2.heap.size := by have := hs2.lt; omega
      have Hgc : Hid (w1.heap.size < w1.heap.size + 1 ∧ w1.heap.size + 1 < w2.heap.size ∧ w.heap.size ≤ w1.heap.size) := Lib.hid ⟨by omega, hs2.lt, hbw1.size⟩
      have HGB : Hid (ge < w1.heap.size ∧ w1.heap.size < w1.heap.size + 1 ∧ w1.heap.size + 1 < w2.heap.size ∧ w.heap.size ≤ w1.heap.size ∧ w.heap.size ≤ ge) := Lib.hid ⟨Hge.out.2, by omega, hs2.lt, hbw1.size, Hge.out.1⟩
      generalize w1.heap.size + 1 = gc at *
      generalize w1.heap.size = bm at *
      generalize w2.heap.size = bf at *
      clear hm0 hb12 hs2 hm2 hown2 hgrow2 HEv hbx hbw1 hz3 hi hz0 hz1 hz2
      generalize w2.alloc (.map #[] 0) = w3 at *
      go_loopw [51] (fun i wr => ∃ k : Nat, k ≤ F.length ∧ i = .int .i64 (k : Int) ∧ StrAt wr gc F.length (fun j => if j < k then codeF F j else ⟨#[]⟩) ∧ MapIs wr bm 0 (fun _ => none) ∧ MapIs wr bf k (firstF F k) ∧ OwnsEv F wr w.heap.size (.slice (some ⟨ge, 0, none⟩) L.length gcap) L ∧ Below w.heap.size w wr) (fun i _ => F.length - (intOf i).toNat)
      case atStart => exact ⟨0, Nat.zero_le _, rfl, hs3.congr (fun j _ => by rw [if_neg (by omega)]), hm3, hf3, hE3, hb3⟩
      case round =>
        obtain ⟨k, hk, rfl, hstr, hmm0, hmf, hev, hb⟩ := hrel
        clear hs3 hm3 hf3 hE3 hb3
        have hin := Hfs.out _ (hb.mono Hb0.out)
        by_cases hlt : k < F.length
        · have c0 := hin.c0 k hlt
          have c1 := hin.c1 k hlt
          have c2 := hin.c2 k hlt
          have hval := hin.2 k hlt
          obtain ⟨A1, p1, hS, _, _⟩ := hval.form
          rw [hS] at c0 hval
          have HK : Hid (∀ X, Below wr.heap.size wr X → Calls Tryz.prog 36 #[.slice A1 (fc F k).1.length p1] X (Ret X (.string (codeF F k)))) := Lib.hid fun X hX =>
            acode_c _ _ X (hval.below hX) (Hok.out _ (fc_mem hlt)) (by have := Hrl.out _ (fc_mem hlt); omega)
          have Hlt := Lib.hid hlt
          have hsz := codeF_size Hok.out Hrl.out k
          clear hval hin
          go_wp2_with fail
          refine (HK.out _ ((Below.refl _ _).alloc (Nat.le_refl _) _)).mono ?_
          rintro e w4 ⟨rfl, hb4⟩
          have hbw4 := ((Below.refl wr.heap.size wr).alloc (Nat.le_refl _) (.cells #[.slice A1 (fc F k).1.length p1, .int .i64 (fc F k).2.1, .int .i64 (fc F k).2.2] 49)).trans (hb4.mono (by simp))
          have hstr4 := hstr.below hbw4
          have hmm4 := hmm0.below hbw4
          have hmf4 := hmf.below hbw4
          have hev4 := hev.below hbw4
          have hb5 := hb.trans (hbw4.mono hb.size)
          have q0 := hstr4.cell k hlt
          have q1 := hstr4.soft k
          have q2 := hstr4.lt
          have hx4 : w4.cell? ⟨wr.heap.size, 0, none⟩ = some (.slice A1 (fc F k).1.length p1) := by
            have := (hb4.cell (p := ⟨wr.heap.size, 0, none⟩) (by simp)).trans (blk_get (heap_alloc_new wr _) 0)
            exact this
          clear hstr hmm0 hmf hev hb hb4 hbw4 c0 c1 c2 HK
          obtain ⟨W5, hW5⟩ : ∃ y, y = w4.setCell ⟨gc, k, none⟩ (.string (codeF F k)) := ⟨_, rfl⟩
          have hon : On gc w4 W5 := by rw [hW5]; exact On.refl.set k _
          have hstr5 : StrAt W5 gc F.length (fun j => if j < k + 1 then codeF F j else ⟨#[]⟩) := by
            rw [hW5]
            refine (hstr4.set k hlt (codeF F k)).congr fun j _ => ?_
            by_cases e : j = k
            · subst e; rw [if_pos rfl, if_pos (by omega)]
            · rw [if_neg e]
              by_cases e2 : j < k
              · rw [if_pos e2, if_pos (by omega)]
              · rw [if_neg e2, if_neg (by omega)]
          have hnm := hstr4.notmap hmm4
          have hnf := hstr4.notmap hmf4
          have hnev : ge ≠ gc := fun e => by have := HGB.out; omega
          have hmm5 := hmm4.block (hon.oth bm hmm4.lt (fun e => hnm e.symm))
          have hmf5 := hmf4.block (hon.oth bf hmf4.lt (fun e => hnf e.symm))
          have hev5 := hev4.block (hon.oth ge hev4.glt hnev)
          have hb6 : Below w.heap.size w W5 := hb5.trans (hon.below (by have := Hge.out; have := Hgc.out; omega))
          have HS5 := Lib.hid hstr5; have HM5 := Lib.hid hmm5; have HV5 := Lib.hid hev5; have HB6 := Lib.hid hb6
          rw [hW5] at hmf5
          have HW5 := Lib.hid hW5
          clear hstr5 hmm5 hev5 hb6 hon hnm hnf hnev hW5 hstr4 hmm4 hmf4 hev4 hb5
          cases hfk : firstN F k (codeF F k) with
          | none =>
            have e1 : firstF F k (codeF F k) = none := by unfold firstF; rw [hfk]; rfl
            have HF := Lib.hid (first_none hfk)
            go_wp2_with (first | (at_lookup; refine wp_look_ok rfl _ _ (by rfl) tMapSI (zero_int _) (by rfl) hmf5 (codeF F k) (by rfl) hsz ?_; rw [e1]) | (at_mapUpdate; rw [← HW5.out]; rw [← HW5.out] at hmf5; refine wp_mapset rfl _ _ _ (by rfl) tMapSI (by rfl) hmf5 (by omega) (codeF F k) (by rfl) hsz (.int .i64 (k : Int)) (by rfl) ?_; intro w6 hm6 hon6))
            have hon7 : On bf W5 w6 := hon6
            go_roundw
            case rel =>
              have g1 := HGB.out
              have h6 := (HB6.out.trans (hon7.below (by omega)))
              refine ⟨k + 1, Hlt.out, by go_num, HS5.out.block (hon7.oth gc HS5.out.lt (by omega)), HM5.out.block (hon7.oth bm HM5.out.lt (by omega)), hm6.congr (fun x _ => HF.out x), HV5.out.block (hon7.oth ge HV5.out.glt (by omega)), h6⟩
            case measure => have := Hlt.out; simp [intOf]; omega
          | some i =>
            have e1 : firstF F k (codeF F k) = some (.int .i64 (i : Int)) := by unfold firstF; rw [hfk]; rfl
            have HF := Lib.hid (first_some hfk)
            go_wp2_with (at_lookup; refine wp_look_ok rfl _ _ (by rfl) tMapSI (zero_int _) (by rfl) hmf5 (codeF F k) (by rfl) hsz ?_; rw [e1])
            go_roundw
            case rel =>
              rw [← HW5.out] at hmf5 ⊢
              exact ⟨k + 1, Hlt.out, by go_num, HS5.out, HM5.out, (hmf5.mono (Nat.le_succ k)).congr (fun x _ => HF.out x), HV5.out, HB6.out⟩
            case measure => have := Hlt.out; simp [intOf]; omega
        · obtain rfl : k = F.length := by omega
          have hstr : StrAt wr gc F.length (codeF F) := hstr.congr fun j hj => by rw [if_pos hj]
          clear hin
          have hz5 : w.heap.size ≤ wr.heap.size := hb.size
          have hlts : ge < wr.heap.size ∧ gc < wr.heap.size ∧ bm < wr.heap.size ∧ bf < wr.heap.size := ⟨hev.glt, hstr.lt, hmm0.lt, hmf.lt⟩
          have hJ0 : J wr.heap.size [] wr := HJ.out _ _ hz5 (Nat.le_refl _) hb
          have hm00 : MapIs wr bm 0 (manyF F (L.take 0)) := hmm0.congr fun s _ => by
            have : cntS F (L.take 0) s = 0 := by
              unfold cntS
              rw [List.countP_eq_zero]
              intro i _
              simp [opn]
            unfold manyF
            rw [if_pos this]
          have hbB := hb.mono Hb0.out
          obtain ⟨z1, hz1⟩ : ∃ z, z = wr.heap.size := ⟨_, rfl⟩
          rw [← hz1] at hz5 hlts hJ0
          have hzl : z1 ≤ wr.heap.size := by omega
          have HVz := Lib.hid (HV.out z1 hz5)
          have Hlts := Lib.hid hlts
          clear hz1 hlts HV HJ
          go_wp2_with fail
          go_loopw [15] (fun i X => ∃ (k : Nat) (Vs : List Vis), k ≤ L.length ∧ i = .int .i64 (k : Int) ∧ StrAt X gc F.length (codeF F) ∧ MapIs X bm k (manyF F (L.take k)) ∧ MapIs X bf F.length (firstF F F.length) ∧ OwnsEv F X w.heap.size (.slice (some ⟨ge, 0, none⟩) L.length gcap) L ∧ Below base w X ∧ z1 ≤ X.heap.size ∧ Hid (VisOk F Vs (Bef F L k)) ∧ J z1 Vs X ∧ Vs.length ≤ k) (fun i _ => L.length - (intOf i).toNat)
          case atStart => exact ⟨0, [], Nat.zero_le _, rfl, hstr, hm00, hmf, hev, hbB, hzl, Lib.hid (VisOk.start F L HE.out), hJ0, Nat.le_refl _⟩
          case round =>
            obtain ⟨k, Vs, hk3, rfl, hstr3, hmm3, hmf3, hev3, hb3, hz3, HVs, hJ3, hvl⟩ := hrel
            clear hstr hm00 hmf hev hbB hJ0 hb hzl
            rename World => X0
            by_cases hlt3 : k < L.length
            · have e0 := hev3.e0 k hlt3
              obtain ⟨T, hT⟩ : ∃ t, evt F L[k] = t := ⟨_, rfl⟩
              rw [hT] at e0
              have hB0 : Batch F L k k T := by rw [← hT]; exact Batch.start HE.out hlt3
              have HTm : Hid (Tm F T) := Lib.hid (by rw [← hT]; exact evt_tm HE.out hlt3)
              have HVT : Hid (VisOk F Vs (· < T)) := Lib.hid (HVs.out.congr fun t => by rw [bef39_lt HE.out hlt3, hT])
              have Hlt3 := Lib.hid hlt3
              clear hT HVs
              have g20 : decide ((k : Int) < (L.length : Int)) = true := decide_eq_true (by omega)
              go_wp2_with fail
              go_loopw [15] (fun i X => ∃ m : Nat, i = .int .i64 (m : Int) ∧ Batch F L k m T ∧ MapIs X bm m (manyF F (L.take m)) ∧ On bm X0 X) (fun i _ => L.length - (intOf i).toNat)
              case atStart => exact ⟨k, rfl, hB0, hmm3, On.refl⟩
              case round =>
                obtain ⟨m, rfl, hB, hmm4, hon⟩ := hrel
                have hneg := HGB.out
                have hev4 := hev3.block (hon.oth ge hev3.glt (by omega))
                have hstr4 := hstr3.block (hon.oth gc hstr3.lt (by omega))
                clear e0 hB0
                by_cases hm : m < L.length
                · have e0 := hev4.e0 m hm
                  have g22 : decide ((m : Int) < (L.length : Int)) = true := decide_eq_true (by omega)
                  by_cases ht : evt F L[m] = T
                  · rw [ht] at e0
                    have e1 := hev4.e1 m hm
                    have e2 := hev4.e2 m hm
                    have hj : L[m].1 < F.length := HE.out.mem.1 (List.getElem_mem hm)
                    have HB5 := Lib.hid (hB.step hm ht)
                    obtain ⟨jb, hjb⟩ : ∃ x, L[m] = x := ⟨_, rfl⟩
                    rw [hjb] at e1 e2 hj
                    obtain ⟨j, b⟩ := jb
                    have q0 := hstr4.cell j hj
                    have hsz := codeF_size Hok.out Hrl.out j
                    have hcl := cnt_le F (L.take m) (codeF F j)
                    have Hm := Lib.hid hm
                    simp only at e1 e2 hj
                    cases b
                    · have hce := cnt_end HE.out Hup.out hm hjb (codeF F j)
                      rw [if_pos rfl] at hce
                      have HME := Lib.hid (many_end HE.out Hup.out hm hjb hce)
                      have hget := many_get F (L.take m) (codeF F j)
                      rw [hce] at hget hcl
                      generalize cntS F (L.take (m + 1)) (codeF F j) = cn at HME hget hcl
                      clear hB hev4 hstr4 ht hjb hce
                      obtain ⟨d, hd⟩ : ∃ d : Int, d = ((cn + 1 : Nat) : Int) := ⟨_, rfl⟩
                      rw [← hd] at hget
                      have hd1 : 1 ≤ d := by omega
                      have hd2 : d ≤ 1000 := by omega
                      have hdn : d - 1 = (cn : Int) := by omega
                      have hgu : ∀ u : Value, (updF (manyF F (L.take m)) (codeF F j) (some u) (codeF F j)).getD (.int .i64 0) = u := fun u => by unfold updF; rw [if_pos rfl]; rfl
                      by_cases hc0 : cn = 0
                      · have hz : (d - 1 == 0) = true := by rw [hdn, hc0]; rfl
                        rw [if_pos hc0] at HME
                        clear hd hdn
                        go_wp2_with (first | (at_lookup; refine wp_look rfl _ _ (by rfl) tMapSI (zero_int _) (by rfl) hmm4 (codeF F j) (by rfl) hsz ?_; rw [hget]) | (at_mapUpdate; refine wp_mapset rfl _ _ _ (by rfl) tMapSI (by rfl) hmm4 (by omega) (codeF F j) (by rfl) hsz (.int .i64 (d - 1)) (by rfl) ?_; intro w6 hm6 hon6) | (at_lookup; refine wp_look rfl _ _ (by rfl) tMapSI (zero_int _) (by rfl) hm6 (codeF F j) (by rfl) hsz ?_; rw [hgu]) | (at_delete; refine wp_mapdel rfl _ _ _ rfl (by rfl) tMapSI (by rfl) hm6 (codeF F j) (by rfl) hsz ?_; intro w7 hm7 hon7))
                        go_roundw
                        case rel =>
                          refine ⟨m + 1, by go_num, HB5.out, hm7.congr (fun x _ => ?_), (hon.trans hon6).trans hon7⟩
                          rw [← HME.out x]
                          unfold updF
                          by_cases e : x = codeF F j
                          · rw [if_pos e, if_pos e]
                          · rw [if_neg e, if_neg e, if_neg e]
                        case measure => have := Hm.out; simp [intOf]; omega
                      · have hz : (d - 1 == 0) = false := by rw [hdn, beq_eq_false_iff_ne]; omega
                        rw [if_neg hc0, ← hdn] at HME
                        clear hd hdn
                        go_wp2_with (first | (at_lookup; refine wp_look rfl _ _ (by rfl) tMapSI (zero_int _) (by rfl) hmm4 (codeF F j) (by rfl) hsz ?_; rw [hget]) | (at_mapUpdate; refine wp_mapset rfl _ _ _ (by rfl) tMapSI (by rfl) hmm4 (by omega) (codeF F j) (by rfl) hsz (.int .i64 (d - 1)) (by rfl) ?_; intro w6 hm6 hon6) | (at_lookup; refine wp_look rfl _ _ (by rfl) tMapSI (zero_int _) (by rfl) hm6 (codeF F j) (by rfl) hsz ?_; rw [hgu]))
                        go_roundw
                        case rel => exact ⟨m + 1, by go_num, HB5.out, hm6.congr (fun x _ => HME.out x), hon.trans hon6⟩
                        case measure => have := Hm.out; simp [intOf]; omega
                    · have HMB := Lib.hid (many_begin HE.out Hup.out hm hjb)
                      have hget := many_get F (L.take m) (codeF F j)
                      generalize cntS F (L.take m) (codeF F j) = cn at HMB hget hcl
                      clear hB hev4 hstr4 ht hjb
                      go_wp2_with (first | (at_lookup; refine wp_look rfl _ _ (by rfl) tMapSI (zero_int _) (by rfl) hmm4 (codeF F j) (by rfl) hsz ?_; rw [hget]) | (at_mapUpdate; refine wp_mapset rfl _ _ _ (by rfl) tMapSI (by rfl) hmm4 (by omega) (codeF F j) (by rfl) hsz (.int .i64 ((cn : Int) + 1)) (by rfl) ?_; intro w6 hm6 hon6))
                      go_roundw
                      case rel => exact ⟨m + 1, by go_num, HB5.out, hm6.congr (fun x _ => HMB.out x), hon.trans hon6⟩
                      case measure => have := Hm.out; simp [intOf]; omega
                  · have hgt : (evt F L[m] == T) = false := beq_eq_false_iff_ne.2 ht
                    have hkm : k < m := by
                      rcases Nat.eq_or_lt_of_le hB.le.1 with e | e
                      · subst e
                        have := hB.at_.2
                        rw [evL_at hm] at this
                        exact absurd this ht
                      · exact e
                    have hG := hB.gap HE.out (.inr ⟨hm, ht⟩) hkm
                    have hgl : ((m : Int) == (L.length : Int)) = false := by rw [beq_eq_false_iff_ne]; omega
                    obtain ⟨y, hy⟩ : ∃ y, evt F L[m] = y := ⟨_, rfl⟩
                    rw [hy] at e0 hgt
                    have hmf4 := hmf3.block (hon.oth bf hmf3.lt (by omega))
                    have hb4 := hb3.trans (hon.below (base := base) (by have := Hb0.out; omega))
                    have hz4 : z1 ≤ wr.heap.size := Nat.le_trans hz3 hon.bel.size
                    have hJ4 := HVz.out.keep Vs X0 wr hJ3 ⟨hon.bel.size, hon.bel.mono (Nat.zero_le _), fun b hb1 hb2 => hon.oth b hb1 (fun e => by have := Hlts.out; subst e; omega)⟩
                    obtain ⟨kk, hkk1, hkk2, hkk3⟩ := run_maplen hmm4 tMapSI
                    have Hm := Lib.hid hm; have HG := Lib.hid hG; have Hkm := Lib.hid hkm; have Hy := Lib.hid hy
                    clear ht hB hG hy hev3 hstr3 hmm3 hmf3 hJ3 hon
                    by_cases hk0 : kk = 0
                    · have HO := Lib.hid (novisit_ok HE.out Hok.out HG.out HVT.out fun i hi => by
                        have := (hkk2.1 hk0) (codeF F i) (codeF_size Hok.out Hrl.out i)
                        unfold manyF at this
                        by_cases e : cntS F (L.take m) (codeF F i) = 0
                        · exact e
                        · rw [if_neg e] at this; cases this)
                      subst hk0
                      clear hkk2
                      go_wp2_with fail
                      go_roundw
                      case rel => exact ⟨m, Vs, Nat.le_of_lt Hm.out, rfl, hstr4, hmm4, hmf4, hev4, hb4, hz4, HO, hJ4, by have := Hkm.out; omega⟩
                      case measure => have := Hm.out; have := Hkm.out; simp [intOf]; omega
                    · have hkz : ((kk : Int) == 0) = false := by rw [beq_eq_false_iff_ne]; omega
                      have hne3 : ∃ i, i < F.length ∧ cntS F (L.take m) (codeF F i) ≠ 0 := by
                        apply Classical.byContradiction
                        intro hcon
                        refine hk0 (hkk2.2 fun s _ => ?_)
                        unfold manyF
                        by_cases e : cntS F (L.take m) s = 0
                        · rw [if_pos e]
                        · obtain ⟨i, hi, ho⟩ := cnt_pos.1 (Nat.pos_of_ne_zero e)
                          have hci : codeF F i = s := by
                            unfold opn at ho
                            simp only [Bool.and_eq_true, decide_eq_true_eq] at ho
                            exact ho.1.1
                          exact absurd ⟨i, hi, by rw [hci]; exact e⟩ hcon
                      have HN := Lib.hid hne3
                      clear hkk2 hne3
                      rename World => X1
                      go_wp2_with (at_range; refine wp_maprange rfl _ (by rfl) tMapSI (by rfl) hmm4 ?_; intro w5 cnt0 hrg0 hcn0 hb5 hs5)
                      try go_frame
                      go_loopw [18] (fun o X => ∃ (js : List Nat) (todo : ByteArray → Bool) (cnt : Nat), RangeIs X bm X1.heap.size m (manyF F (L.take m)) todo cnt ∧ X.ownsRow (X1.heap.size + 1) 47 1 o js.length (js.map S) ∧ (∀ j ∈ js, j < F.length) ∧ Hid (RowsOf F (L.take m) (js.map fun j => (fc F j).1) todo) ∧ js.length + cnt ≤ m ∧ Below X1.heap.size X1 X ∧ X1.heap.size + 1 ≤ X.heap.size) (fun _ X => X.rangeLeft bm X1.heap.size)
                      case atStart => exact ⟨[], _, _, hrg0, own_nil _ _ _ _, fun j hj => absurd hj (by simp), Lib.hid (RowsOf.start F _), by simpa using hcn0, hb5, by omega⟩
                      case round =>
                        obtain ⟨js, todo, cnt, hrg, hown, hjs, HR, hcn, hbx, hszx⟩ := hrel
                        rename World => X2
                        go_wp2_with (at_next; refine wp_mapnext rfl _ (by rfl) X1.heap.size todo cnt (by rfl) hrg ?_ ?_)
                        · intro hdone
                          have hev5 := hev4.below hbx
                          have hstr5 := hstr4.below hbx
                          have hmm5 := hmm4.below hbx
                          have hmf5 := hmf4.below hbx
                          have hb6 := hb4.trans (hbx.mono (Nat.le_trans Hb0.out hb4.size))
                          have hJ5 := HVz.out.keep Vs X1 X2 hJ4 ⟨hbx.size, hbx.mono (Nat.zero_le _), fun b hb1 _ => hbx.block b hb1⟩
                          have hz6 : z1 ≤ X2.heap.size := Nat.le_trans hz4 hbx.size
                          have f0 := hev5.e0 m Hm.out
                          rw [Hy.out] at f0
                          have hvis := visit_ok HE.out Hok.out HG.out Hm.out HTm.out HVT.out HR.out (fun i hi => hdone _ (codeF_size Hok.out Hrl.out i)) HN.out
                          rw [Hy.out] at hvis
                          have KV := Lib.hid (HVz.out.call X2 _ _ Vs (T, y) hJ5 hz6 ⟨_, hvis⟩ ⟨_, hown⟩ hjs (by have := Hm.out; omega) (by have := Hm.out; have := Hkm.out; omega))
                          have HVI := Lib.hid hvis
                          have eg := HVz.out.ent
                          clear hJ5 hvis hown hrg hrg0 hb5 hs5 hcn0 hev4 hstr4 hmm4 hmf4 hb4 hJ4 hdone HR
                          go_wp2_with fail
                          refine KV.out.mono ?_
                          rintro e w7 ⟨cc, rfl, hkv, hcase⟩
                          have hlz := Hlts.out
                          have hneg2 := HGB.out
                          have hev7 := hev5.block (hkv.oth ge (by omega) (by omega))
                          have hstr7 := hstr5.block (hkv.oth gc (by omega) (by omega))
                          have hmm7 := hmm5.block (hkv.oth bm (by omega) (by omega))
                          have hmf7 := hmf5.block (hkv.oth bf (by omega) (by omega))
                          have hb7 := hb6.trans hkv.bel
                          have hz7 : z1 ≤ w7.heap.size := Nat.le_trans hz6 hkv.bel.size
                          clear hev5 hstr5 hmm5 hmf5 hb6 hkv KV f0
                          by_cases hc0 : cc = 0
                          · subst hc0
                            rw [if_pos rfl] at hcase
                            go_wp2_with fail
                            go_roundw
                            case rel => exact ⟨m, _, Nat.le_of_lt Hm.out, rfl, hstr7, hmm7, hmf7, hev7, hb7, hz7, HVI, hcase, by have := Hkm.out; simp; omega⟩
                            case measure => have := Hm.out; have := Hkm.out; simp [intOf]; omega
                          · rw [if_neg hc0] at hcase
                            have hcz : (cc == 0) = false := beq_eq_false_iff_ne.2 hc0
                            have hz8 := hz5
                            have HC := Lib.hid hc0
                            clear hc0
                            go_wp2_with fail
                            go_ret
                            refine ⟨z1, cc, Vs ++ [((T, y), js.map fun j => (fc F j).1)], hz8, rfl, hb7, ?_⟩
                            rw [if_neg HC.out]
                            exact ⟨⟨_, HVI.out⟩, hcase⟩
                        · intro x vv w6 cnt6 hxs htx hfx hrg6 hlt6 hon6 hsz6 hen
                          have hmsome : (manyF F (L.take m) x).isSome = true := by rw [hfx]; rfl
                          have hcx : cntS F (L.take m) x ≠ 0 := fun e => by unfold manyF at hfx; rw [if_pos e] at hfx; cases hfx
                          obtain ⟨i, hi, ho⟩ := cnt_pos.1 (Nat.pos_of_ne_zero hcx)
                          have hci : codeF F i = x := by
                            unfold opn at ho
                            simp only [Bool.and_eq_true, decide_eq_true_eq] at ho
                            exact ho.1.1
                          obtain ⟨j, hj⟩ := firstN_has (F := F) hi
                          rw [hci] at hj
                          obtain ⟨hjn, hjc⟩ := firstN_some hj
                          have hfget : (firstF F F.length x).getD (.int .i64 0) = .int .i64 (j : Int) := by unfold firstF; rw [hj]; rfl
                          have HR6 := Lib.hid (HR.out.step Hok.out htx hmsome hjn hjc)
                          have hmf5 := (hmf4.below hbx).block (hon6.oth bf (hmf4.below hbx).lt (by have := hmf4.lt; omega))
                          have hown6 := own_on hown hon6 (fun g hg => by have := (World.ownsRow.lt hown g hg).1; omega)
                          have hb6 : Below X1.heap.size X1 w6 := hbx.trans (hon6.below (Nat.le_refl _))
                          have hin := Hfs.out _ (hb4.trans (hb6.mono (Nat.le_trans Hb0.out hb4.size)))
                          have c0 := hin.c0 j hjn
                          obtain ⟨A1, p1, hS, _, _⟩ := (hin.2 j hjn).form
                          rw [hS] at c0
                          have hjs6 : ∀ q ∈ js ++ [j], q < F.length := fun q hq => by
                            rcases List.mem_append.1 hq with e | e
                            · exact hjs q e
                            · rw [List.mem_singleton.1 e]; exact hjn
                          have hml : js.length ≤ 2000 := by have := Hm.out; omega
                          have hsz7 : X1.heap.size + 1 ≤ w6.heap.size := by omega
                          have Hrgo := Lib.hid hrg
                          have Hrg6 := Lib.hid hrg6; have Hjs6 := Lib.hid hjs6; have HS := Lib.hid hS
                          clear hown hrg hrg6 hbx hjs HR hrg0 hb5 hs5 hcn0 hin hmsome hcx hi ho hci hj hjc hon6 hS hjs6 hsz6
                          go_wp2_with (first | (at_lookup; refine wp_look rfl _ _ (by rfl) tMapSI (zero_int _) (by rfl) hmf5 x (by rfl) hxs ?_; rw [hfget]) | (at_builtin; refine append1 tRowVs tValuesInfo rfl (by omega) (by omega) rfl _ _ (by rfl) (X1.heap.size + 1) _ js.length _ [.slice A1 (fc F j).1.length p1] (by rfl) hown6 (by rfl) (by rfl) (by rfl) rfl (by simp [Value.oneCell']) (by omega) hsz7 ?_; intro v8 w8 hown8 hb8 _ _))
                          go_roundw
                          case rel =>
                            refine ⟨js ++ [j], _, cnt6, Hrg6.out.block (hb8.block bm (by have := hmm4.lt; omega)) (hb8.block X1.heap.size (by omega)), ?_, Hjs6.out, ?_, ?_, hb6.trans (hb8.mono (by omega)), Nat.le_trans hsz7 hb8.size⟩
                            · rw [List.map_append, List.length_append]
                              simp only [List.map_cons, List.map_nil, HS.out]
                              exact hown8
                            · rw [List.map_append]
                              exact HR6
                            · simp; omega
                          case measure =>
                            have h1 := (Hrg6.out.block (w' := w8) (hb8.block bm (by have := hmm4.lt; omega)) (hb8.block X1.heap.size (by omega))).left_eq
                            have h2 := Hrgo.out.left_eq
                            rw [h1, h2]
                            exact hlt6
                · obtain rfl : m = L.length := by have := hB.le; omega
                  have hG := hB.gap HE.out (.inl rfl) Hlt3.out
                  have hgl : ((L.length : Int) == (L.length : Int)) = true := by simp
                  have hmf4 := hmf3.block (hon.oth bf hmf3.lt (by omega))
                  have hb4 := hb3.trans (hon.below (base := base) (by have := Hb0.out; omega))
                  have hz4 : z1 ≤ wr.heap.size := Nat.le_trans hz3 hon.bel.size
                  have hJ4 := HVz.out.keep Vs X0 wr hJ3 ⟨hon.bel.size, hon.bel.mono (Nat.zero_le _), fun b hb1 hb2 => hon.oth b hb1 (fun e => by have := Hlts.out; subst e; omega)⟩
                  have HO := Lib.hid (novisit_ok HE.out Hok.out hG HVT.out fun i hi => cnt_all HE.out _)
                  have HB := Lib.hid hB
                  clear hB hG hev3 hstr3 hmm3 hmf3 hJ3 hon
                  go_wp2_with fail
                  go_roundw
                  case rel => exact ⟨L.length, Vs, Nat.le_refl _, rfl, hstr4, hmm4, hmf4, hev4, hb4, hz4, HO, hJ4, by have := Hlt3.out; omega⟩
                  case measure => have := Hlt3.out; simp [intOf]; omega
            · obtain rfl : k = L.length := by omega
              have HO := Lib.hid (HVs.out.congr (Q := fun _ => True) fun t => ⟨fun _ => trivial, fun _ x hx => by rw [List.drop_length] at hx; exact absurd hx (by simp)⟩)
              have hz6 : w.heap.size ≤ z1 := hz5
              clear HVs hev3 hstr3 hmm3 hmf3
              go_wp2_with fail
              go_ret
              refine ⟨z1, 0, Vs, hz6, rfl, hb3, ?_⟩
              rw [if_pos rfl]
              exact ⟨HO.out, hJ3, by have h1 := HE.out.len; omega⟩
end Go.Proofs.YtohjgegnamcnlaaGreat
