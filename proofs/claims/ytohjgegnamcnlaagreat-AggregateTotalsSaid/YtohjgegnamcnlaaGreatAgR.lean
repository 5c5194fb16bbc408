/- Law 39: table.facts. -/
import Derived.Deep.RegionHeld3
import Derived.Test.YtohjgegnamcnlaaGreatAgO
import Derived.Test.YtohjgegnamcnlaaGreatAgU
import Derived.Test.YtohjgegnamcnlaaGreatAgQ
namespace Go.Proofs.YtohjgegnamcnlaaGreat
open Go.RowKit Go.Shelf

/-- The facts of an entry. -/
def spF (E : List Ent) (i : Nat) : List Fct := (ent E i).2.map fun s => ((ent E i).1, s)
theorem flatE_range (E : List Ent) : flatE E = (List.range E.length).flatMap (spF E) := by
  have : E = (List.range E.length).map (ent E) := by
    apply List.ext_getElem
    · simp
    · intro i h1 h2
      simp [ent_at h1]
  conv => lhs; rw [this]
  unfold flatE
  rw [List.flatMap_map]
  rfl
theorem sum_part (f : Nat → List Fct) : ∀ (n : Nat) (l : List Nat), l.Nodup → (∀ i ∈ l, i < n) → (l.flatMap f).length ≤ ((List.range n).flatMap f).length
  | 0, l, _, h => by
    cases l with
    | nil => simp
    | cons a l => exact absurd (h a (by simp)) (by omega)
  | n + 1, l, hn, h => by
    rw [List.range_succ, List.flatMap_append, List.length_append]
    by_cases e : n ∈ l
    · have hp := List.perm_cons_erase e
      rw [(hp.flatMap_right f).length_eq, List.flatMap_cons, List.length_append]
      have := sum_part f n (l.erase n) (hn.erase n) fun i hi => by
        have h1 := h i (List.mem_of_mem_erase hi)
        have h2 : i ≠ n := fun q => by
          subst q
          exact absurd hi (hn.not_mem_erase)
        omega
      simp only [List.flatMap_cons, List.flatMap_nil, List.append_nil]
      omega
    · have := sum_part f n l hn fun i hi => by
        have h1 := h i hi
        have h2 : i ≠ n := fun q => e (q ▸ hi)
        omega
      omega
/-- The entries gathered so far. -/
structure Gath (q : Nat) (E : List Ent) (js : List Nat) (G : List Fx) (todo : ByteArray → Bool) : Prop where
  nd : js.Nodup
  lt : ∀ i ∈ js, i < E.length
  eq : G.map (·.2) = js.flatMap (spF E)
  iff : ∀ i, i < E.length → (i ∈ js ↔ todo (codeE E i) = false)
  off : ∀ x ∈ G, ∀ b, sblk x.1 = some b → b ≠ q
theorem Gath.len {q : Nat} {E : List Ent} {js : List Nat} {G : List Fx} {todo : ByteArray → Bool} (h : Gath q E js G todo) : G.length ≤ (flatE E).length := by
  rw [flatE_range, ← List.length_map (f := fun x : Fx => x.2), h.eq]
  exact sum_part _ _ _ h.nd h.lt
theorem Gath.all {q : Nat} {E : List Ent} {js : List Nat} {G : List Fx} {todo : ByteArray → Bool} (h : Gath q E js G todo) (hd : ∀ i, i < E.length → todo (codeE E i) = false) : (G.map (·.2)).Perm (flatE E) := by
  rw [flatE_range, h.eq]
  refine List.Perm.flatMap_right _ ((List.perm_ext_iff_of_nodup h.nd List.nodup_range).2 fun i => ?_)
  rw [List.mem_range]
  exact ⟨h.lt i, fun hi => (h.iff i hi).2 (hd i hi)⟩
theorem Gath.step {q : Nat} {E : List Ent} {js : List Nat} {G G' : List Fx} {todo : ByteArray → Bool} (hE : EntOk E) (h : Gath q E js G todo) {i : Nat} (hi : i < E.length) (ht : todo (codeE E i) = true) (hG : G'.map (·.2) = js.flatMap (spF E) ++ spF E i) (ho : ∀ x ∈ G', ∀ b, sblk x.1 = some b → b ≠ q) : Gath q E (js ++ [i]) G' (fun s => todo s && !decide (s = codeE E i)) := by
  have hni : i ∉ js := fun q => by
    rw [(h.iff i hi).1 q] at ht
    cases ht
  refine ⟨?_, fun j hj => ?_, ?_, fun j hj => ?_, ho⟩
  · refine List.nodup_append.2 ⟨h.nd, by simp, fun a ha b hb e => ?_⟩
    rw [List.mem_singleton] at hb
    rw [e, hb] at ha
    exact hni ha
  · rcases List.mem_append.1 hj with e | e
    · exact h.lt j e
    · rw [List.mem_singleton] at e
      rw [e]; exact hi
  · rw [hG, List.flatMap_append]
    simp
  · rw [List.mem_append, List.mem_singleton, h.iff j hj]
    constructor
    · rintro (e | e)
      · rw [e]; rfl
      · rw [e]; simp
    · intro e
      by_cases q : codeE E j = codeE E i
      · exact .inr (hE.code hj hi q)
      · refine .inl ?_
        rw [decide_eq_false q] at e
        simpa using e
def FactsRet (E : List Ent) (w : World) (e : Ending) (w' : World) : Prop := ∃ v c, e = .returned (.tuple #[v, .int .i64 c]) ∧ Below w.heap.size w w' ∧ if 1000 < (flatE E).length then c = 5 ∧ v = .slice none 0 0 else c = 0 ∧ ∃ F, IsFs w' v F ∧ F.Perm (flatE E) ∧ F.Pairwise fun a b => ¬ cmpF b a < 0
theorem OwnsFx.on {w w' : World} {base q : Nat} {v : Value} {G : List Fx} (h : OwnsFx w base v G) (hon : On q w w') (hq : q < base) (ho : ∀ x ∈ G, ∀ b, sblk x.1 = some b → b ≠ q) : OwnsFx w' base v G :=
  ⟨own_on h.own hon fun g hg => by have := (World.ownsRow.lt h.own g hg).1; omega, fun x hx => ⟨(h.row x hx).1.blocks hon.bel.size fun b hb => hon.oth b ((h.row x hx).2 b hb).1 (ho x hx b hb), fun b hb => ⟨Nat.lt_of_lt_of_le ((h.row x hx).2 b hb).1 hon.bel.size, ((h.row x hx).2 b hb).2⟩⟩⟩
theorem OwnsFx.form {w : World} {base : Nat} {v : Value} {G : List Fx} (h : OwnsFx w base v G) : ∃ A c, v = .slice A G.length c := by
  rcases h.own.2 with ⟨e, e2⟩ | ⟨g, cap, cur, e, _⟩
  · exact ⟨none, 0, by rw [e, e2]⟩
  · exact ⟨_, _, e⟩
theorem fr_tt_at {l : List Sp} {k : Nat} (h : k < l.length) : l[k] = (fr l k, tt l k) := by simp [fr, tt, h]
/-- append(own, x) met alone in a region that has drawn already: x of any kind, its cells in the block just built. -/
theorem append1_wq {P : Program} {tS tE : TypeId} {z : Value} {size bytes : Nat} (hS : P.underlying tS = some (.slice tE)) (hE : (P.info? tE).map (fun i => (i.zero, i.size, i.bytes)) = some (some z, size, bytes))
    (hz : z.cells.size = size) (hsz : 0 < size) (hby : bytes ≤ 64)
    {o : Oper} {a : Act} {K : Act → World → Prop} {Q : Exit → Act → World → Prop} (s x : Operand)
    (ho : o.op = .call { callee := .builtin .append, args := #[s, x], argTypes := #[tS, tS] })
    {w : World} {cs : Array Value} {t : TypeId} (base : Nat) (v : Value) (n : Nat) (xs news : List Value) (hs : a.eval s = v) (hown : w.ownsRow base tE size v n xs)
    {b : Nat} (hx : a.eval x = .slice (some ⟨b, 0, none⟩) 1 1) (hb0 : w.heap.size = b) (hcs : cs.toList = news) (hl : news.length = size) (h1 : ∀ u ∈ news, u.oneCell' = true) (hlen : n < 900000000) (hbase : base ≤ w.heap.size)
    (h : ∀ v' w', w'.ownsRow base tE size v' (n + 1) (xs ++ news) → Below base w w' → (∀ k, k < w.heap.size → v.ownBlock ≠ some k → w'.heap[k]? = w.heap[k]?) → (v'.ownBlock = v.ownBlock ∨ v'.ownBlock = some (w.heap.size + 1)) → K (a.put o.dst v') w') :
    o.wp P a (w.alloc (.cells cs t)) K Q := by
  subst hb0
  obtain ⟨i, hi, hzz, hss, hbb⟩ := info_parts hE
  have hbb2 : (n + 1) * bytes ≤ 140737488355328 := Nat.le_trans (Nat.mul_le_mul_left _ hby) (by omega)
  have hbd : Below w.heap.size w (w.alloc (.cells cs t)) := (Below.refl _ _).alloc (Nat.le_refl _) _
  obtain ⟨v', w', hr, hown', hg, _, hb⟩ := run_append_own_at (P := P) (w.alloc (.cells cs t)) base tS o.type tE i z size bytes hS hi hzz hss hbb hz hsz v n xs (own_below hown hbd (Nat.le_refl _)) ⟨w.heap.size, 0, none⟩ 1 1 news (by omega) (by
      intro j u hu
      have e2 : (⟨w.heap.size, 0, none⟩ : Addr).add j = ⟨w.heap.size, j, none⟩ := by rw [Addr.add_lit, Nat.zero_add]
      rw [e2]
      have := blk_get (heap_alloc_new w (.cells cs t)) j
      rw [← Array.getElem?_toList, hcs, hu] at this
      exact this) h1 (by unfold maxLen; omega) hbb2 (by simp; omega)
  unfold Oper.wp execOp
  simp only [ho, resolve, invoke, builtin, Sem.run_bind, Sem.run_pure, Result.andThen_ok, List.map_toArray, List.map_cons, List.map_nil, hs, hx, hr]
  refine h v' w' hown' ?_ (fun k hk hne => ?_) ?_
  · refine (hbd.mono hbase).grown hg (by simp; omega) ?_
    intro k hk
    exact (hown.lt k hk).1
  · rw [hg.block k (by simp; omega) (fun e => hne e.symm)]
    exact hbd.block k hk
  · simpa using hb
/-- append of one fact met alone in a drawn region. -/
theorem append_fx_wp {o : Oper} {a : Act} {K : Act → World → Prop} {Q : Exit → Act → World → Prop} (s x : Operand)
    (ho : o.op = .call { callee := .builtin .append, args := #[s, x], argTypes := #[22, 22] })
    {w : World} (base : Nat) (v : Value) (G : List Fx) (hs : a.eval s = v) (hown : OwnsFx w base v G) {vr : Value} {f : Fct} {cs : Array Value} {t : TypeId} (hcs : cs = #[vr, .int .i64 f.2.1, .int .i64 f.2.2]) (hvr : IsVals w vr f.1) (hvb : ∀ b, sblk vr = some b → b < w.heap.size ∧ v.ownBlock ≠ some b)
    {b : Nat} (hx : a.eval x = .slice (some ⟨b, 0, none⟩) 1 1) (hb0 : w.heap.size = b) (hlen : G.length < 900000000) (hbase : base ≤ w.heap.size)
    (h : ∀ v' w', OwnsFx w' base v' (G ++ [(vr, f)]) → Below base w w' → (∀ k, k < w.heap.size → v.ownBlock ≠ some k → w'.heap[k]? = w.heap[k]?) → K (a.put o.dst v') w') :
    o.wp Tryz.prog a (w.alloc (.cells cs t)) K Q := by
  subst hcs
  obtain ⟨A, c, hf, _, _⟩ := hvr.form
  refine append1_wq tFacts tFactInfoA rfl (by omega) (by omega) s x ho base v G.length (G.flatMap encFx) [vr, .int .i64 f.2.1, .int .i64 f.2.2] hs hown.own hx hb0 rfl rfl (by rw [hf]; simp [Value.oneCell']) hlen hbase (fun v' w' h1 h2 h3 h4 => h v' w' ⟨?_, fun x hx => ?_⟩ h2 h3)
  · rw [List.flatMap_append, List.length_append]
    exact h1
  · have hsz := h2.size
    have key : IsVals w x.1 x.2.1 ∧ ∀ b, sblk x.1 = some b → b < w.heap.size ∧ v.ownBlock ≠ some b := by
      rcases List.mem_append.1 hx with e | e
      · exact hown.row x e
      · rw [List.mem_singleton] at e
        subst e
        exact ⟨hvr, hvb⟩
    refine ⟨key.1.blocks hsz fun b hb => h3 b (key.2 b hb).1 (key.2 b hb).2, fun b hb => ⟨Nat.lt_of_lt_of_le (key.2 b hb).1 hsz, fun e => ?_⟩⟩
    rcases h4 with q | q
    · exact (key.2 b hb).2 (q.symm.trans e)
    · have e2 := Option.some.inj (q.symm.trans e)
      have := (key.2 b hb).1
      omega
set_option maxRecDepth 100000 in
set_option maxHeartbeats 4000000 in
theorem afacts_c {base zs z1 p bv bs n : Nat} {w : World} {E : List Ent} {U T : Nat → Value} (h : TabAt base zs z1 w p bv bs n E U T) (hsp : (flatE E).length ≤ 10000000) (hcan : ∀ e ∈ E, Canon e.2) :
    Calls Tryz.prog 40 #[.pointer (some ⟨p, 0, none⟩)] w (FactsRet E w) := by
  have H := Lib.hid h; have Hsp := Lib.hid hsp; have Hcan := Lib.hid hcan
  have hp1 := h.blk
  have hplt := blk_lt h.blk
  have t0 := blk_get hp1 0
  have t1 := blk_get hp1 1
  simp at t0 t1
  clear h hsp hcan
  go_enter Tryz.func40, Tryz.ntmps40
  go_wp2_with (at_range; refine wp_maprange rfl _ (by rfl) tMapSV (by rfl) H.out.vals ?_; intro w5 cnt0 hrg0 hcn0 hb5 hs5)
  try go_frame
  go_loopw [4] (fun o X => ∃ (js : List Nat) (G : List Fx) (todo : ByteArray → Bool) (cnt : Nat), RangeIs X bv w.heap.size n (lookE E U) todo cnt ∧ OwnsFx X (w.heap.size + 1) o G ∧ Hid (Gath w.heap.size E js G todo) ∧ Below w.heap.size w X ∧ w.heap.size + 1 ≤ X.heap.size) (fun _ X => X.rangeLeft bv w.heap.size)
  case atStart => exact ⟨[], [], _, _, hrg0, ⟨own_nil _ _ _ _, fun x hx => absurd hx (by simp)⟩, Lib.hid ⟨List.nodup_nil, fun i hi => absurd hi (by simp), rfl, fun i hi => by rw [H.out.eok.look U hi]; simp, fun x hx => absurd hx (by simp)⟩, hb5, by omega⟩
  case round =>
    obtain ⟨js, G, todo, cnt, hrg, hown, HG, hbx, hszx⟩ := hrel
    rename World => X2
    go_wp2_with (at_next; refine wp_mapnext rfl _ (by rfl) w.heap.size todo cnt (by rfl) hrg ?_ ?_)
    · intro hdone
      have hGl := HG.out.len
      have hperm := HG.out.all fun i hi => hdone _ (encR_size (H.out.eok.ok _ (ent_mem hi)))
      have hlen : G.length = (flatE E).length := by rw [← hperm.length_eq, List.length_map]
      have hsp := Hsp.out
      have hok : ∀ x ∈ G, okR x.2.1 ∧ -4000000000000000000 ≤ x.2.2.1 ∧ x.2.2.1 ≤ 4000000000000000000 := fun x hx => by
        obtain ⟨e, he, h1, h2⟩ := mem_flatE.1 (hperm.mem_iff.1 (List.mem_map.2 ⟨x, hx, rfl⟩))
        have := (Hcan.out e he).1 _ h2
        unfold OkSp at this
        rw [h1]
        exact ⟨(H.out.eok.ok e he).1, by omega, by omega⟩
      have KS := Lib.hid (slSortFact_c _ G X2 (w.heap.size + 1) hown hok (by omega))
      obtain ⟨A, c, hf⟩ := hown.form
      subst hf
      have Hp := Lib.hid hperm; have Hl := Lib.hid hlen
      clear hrg hrg0 hown hok hperm hb5 hs5 hcn0 hdone
      rw [← hlen] at hsp
      clear hlen
      by_cases hbig : 1000 < G.length
      · go_wp2_with fail
        go_ret2
        refine ⟨_, _, rfl, hbx, ?_⟩
        rw [if_pos (by rw [← Hl.out]; exact hbig)]
        exact ⟨rfl, rfl⟩
      · go_wp2_with fail
        refine KS.out.mono ?_
        rintro e w8 ⟨rfl, G', hp, hs, hown8, hb8⟩
        have HF := Lib.hid hown8.fs; have HP := Lib.hid hp; have HS := Lib.hid hs
        have hbw : Below w.heap.size w w8 := hbx.trans (hb8.mono (Nat.le_succ _))
        have hfm := hown8.form
        rw [hp.length_eq] at hfm
        clear hown8 hp hs
        go_wp2_with fail
        go_ret2
        refine ⟨_, _, rfl, hbw, ?_⟩
        rw [if_neg (by rw [← Hl.out]; exact hbig)]
        exact ⟨rfl, _, HF.out, (HP.out.map _).trans Hp.out, List.pairwise_map.2 (HS.out.imp fun {a b} h => Int.not_lt.2 h)⟩
    · intro x vv w6 cnt6 hxs htx hfx hrg6 hlt6 hon6 hsz6 hen
      obtain ⟨i, hi, rfl, hvv⟩ : ∃ i, i < E.length ∧ x = codeE E i ∧ vv = U i := by
        unfold lookE at hfx
        cases q : idxE E x with
        | none => rw [q] at hfx; cases hfx
        | some i => rw [q] at hfx; exact ⟨i, (idxE_some q).1, (idxE_some q).2.symm, (Option.some.inj hfx).symm⟩
      subst hvv
      have hb6 : Below w.heap.size w w6 := hbx.trans (hon6.below (Nat.le_refl _))
      have hms := H.out.spans.below hb6
      have hmeas2 := hrg.left_eq
      have hown6 := hown.on hon6 (Nat.lt_succ_self _) HG.out.off
      have hbnd : (js.flatMap (spF E)).length + (ent E i).2.length ≤ 10000000 := by
        have h1 := sum_part (spF E) E.length (js ++ [i]) (List.nodup_append.2 ⟨HG.out.nd, by simp, fun a ha b hb e => by
          rw [List.mem_singleton] at hb
          rw [e, hb] at ha
          rw [(HG.out.iff i hi).1 ha] at htx
          cases htx⟩) (fun j hj => by
          rcases List.mem_append.1 hj with e | e
          · exact HG.out.lt j e
          · rw [List.mem_singleton] at e
            rw [e]; exact hi)
        rw [← flatE_range, List.flatMap_append, List.length_append, List.flatMap_singleton] at h1
        have h2 := Hsp.out
        unfold spF at h1
        rw [List.length_map] at h1
        unfold spF
        omega
      have hcs := encR_size (H.out.eok.ok _ (ent_mem hi))
      have hpos := H.out.some_ i hi
      have hUr := H.out.rowIn i hi
      have hrl := (H.out.eok.ok _ (ent_mem hi)).2.2
      obtain ⟨Au, cu, hU, hnu, hcu⟩ := hUr.form
      have hown0 := H.out.own i hi
      obtain ⟨g, cap, hT, hgb, hglt, hcap, hcm⟩ := own_form hown0 hpos
      rw [hT] at hown0
      have hsps := spans_of_own hown0
      rw [hU] at hen hUr
      have hl0 : (lookE E T (codeE E i)).getD (.slice none 0 0) = .slice (some ⟨g, 0, none⟩) (ent E i).2.length cap := by rw [H.out.eok.look T hi, hT]; rfl
      have t06 := (hb6.cell (p := ⟨p, 0, none⟩) hplt).trans t0
      have t16 := (hb6.cell (p := ⟨p, 1, none⟩) hplt).trans t1
      have HGi := HG
      have Hi := Lib.hid hi; have Htx := Lib.hid htx
      obtain ⟨L0, hL0⟩ : ∃ L, L = js.flatMap (spF E) := ⟨_, rfl⟩
      have HG0 : Hid (G.map (·.2) = L0) := Lib.hid (by rw [hL0]; exact HG.out.eq)
      obtain ⟨row, hrow⟩ : ∃ r, r = (ent E i).1 := ⟨_, rfl⟩
      obtain ⟨ss, hss⟩ : ∃ r, r = (ent E i).2 := ⟨_, rfl⟩
      have HSP : Hid (spF E i = ss.map fun s => (row, s)) := Lib.hid (by rw [hrow, hss]; rfl)
      obtain ⟨cd, hcd⟩ : ∃ c, c = codeE E i := ⟨_, rfl⟩
      have hcs : cd.size ≤ maxLen := by rw [hcd]; exact hcs
      rw [← hL0, ← hss] at hbnd
      have hrl1 : 0 < row.length := by rw [hrow]; have := (H.out.eok.ok _ (ent_mem hi)).2.1; omega
      rw [← hrow] at hUr hrl hnu hen
      rw [← hss] at hsps hcap hl0 hpos
      rw [← hcd] at hrg6 hen hl0
      have HL0 := Lib.hid hL0; have HCD := Lib.hid hcd
      have Hhown := Lib.hid hown6
      clear hL0 hrow hss hcd hown hown0 hrg hrg0 hb5 hs5 hcn0 hU hT hfx hi htx hgb hxs hon6
      have hgw : g < w6.heap.size := Nat.lt_of_lt_of_le hglt hb6.size
      have hszw : w.heap.size + 1 ≤ w6.heap.size := by omega
      have HoffG : Hid (∀ x ∈ G, ∀ b, sblk x.1 = some b → b ≠ w.heap.size) := Lib.hid HG.out.off
      go_wp2_with (at_lookup; refine wp_look rfl _ _ (by rfl) tMapSS (zero_spans _) (by rfl) hms cd (by rfl) hcs ?_; rw [hl0])
      try go_frame
      go_loopw [4, 26] (fun o i X => ∃ (k : Nat) (G' : List Fx), i = .int .i64 (k : Int) ∧ k ≤ ss.length ∧ RangeIs X bv w.heap.size n (lookE E U) (fun s => todo s && !decide (s = cd)) cnt6 ∧ OwnsFx X (w.heap.size + 1) o G' ∧ Hid (G'.map (·.2) = L0 ++ (ss.take k).map fun s => (row, s)) ∧ Hid (∀ x ∈ G', ∀ b, sblk x.1 = some b → b ≠ w.heap.size) ∧ Below w.heap.size w X ∧ w.heap.size + 1 ≤ X.heap.size) (fun _ i _ => ss.length - (intOf i).toNat)
      case atStart => exact ⟨0, G, rfl, Nat.zero_le _, hrg6, Hhown.out, Lib.hid (by rw [HG0.out]; simp), HoffG, hb6, hszw⟩
      case round =>
        obtain ⟨k, G', rfl, hk, hrg, hown, HG', Hoff', hbx, hszx⟩ := hrel
        rename World => X3
        by_cases hlt : k < ss.length
        · have c0 := (hsps.below hbx).c0 k hlt
          have c1 := (hsps.below hbx).c1 k hlt
          have HT : Hid ((ss.take (k + 1)).map (fun s => (row, s)) = (ss.take k).map (fun s => (row, s)) ++ [(row, (fr ss k, tt ss k))]) := Lib.hid (by
            rw [List.take_succ_eq_append_getElem hlt, List.map_append, fr_tt_at hlt]
            rfl)
          rw [Nat.zero_add] at c0 c1
          generalize fr ss k = a at c0 HT
          generalize tt ss k = b at c1 HT
          have hGl : G'.length < 900000000 := by
            have h1 := congrArg List.length HG'.out
            rw [List.length_map, List.length_append, List.length_map, List.length_take] at h1
            omega
          go_wp2_with fail
          have HA : Hid (Below X3.heap.size X3 (X3.alloc (.cells #[.int .i64 a, .int .i64 b] 34))) := Lib.hid ((Below.refl _ _).alloc (Nat.le_refl _) _)
          have hbk : (X3.alloc (.cells #[.int .i64 a, .int .i64 b] 34)).heap[X3.heap.size]? = some (.cells #[.int .i64 a, .int .i64 b] 34 (0, 0)) := heap_alloc_new X3 _
          have hq3 : X3.heap.size < (X3.alloc (.cells #[.int .i64 a, .int .i64 b] 34)).heap.size := by simp
          generalize X3.alloc (.cells #[.int .i64 a, .int .i64 b] 34) = W3 at *
          have FC : Hid (∀ X : World, X.heap[X3.heap.size]? = W3.heap[X3.heap.size]? → X.cell? ⟨X3.heap.size, 0, none⟩ = some (.int .i64 a) ∧ X.cell? ⟨X3.heap.size, 1, none⟩ = some (.int .i64 b)) := Lib.hid fun X h => ⟨blk_get (h.trans hbk) 0, blk_get (h.trans hbk) 1⟩
          have FB : Hid (∀ X, Below W3.heap.size W3 X → X.cell? ⟨X3.heap.size, 0, none⟩ = some (.int .i64 a) ∧ X.cell? ⟨X3.heap.size, 1, none⟩ = some (.int .i64 b)) := Lib.hid fun X h => FC.out X (h.block _ hq3)
          have hb3 : Below w.heap.size w W3 := hbx.trans (HA.out.mono hbx.size)
          have K : Hid (∀ X, Below W3.heap.size W3 X → Calls Tryz.prog 74 #[.slice Au row.length cu] X (CloneVRet row X)) := Lib.hid fun X h => slCloneValue_c _ row X (hUr.below (hb3.trans (h.mono hb3.size))) (by omega)
          have HO : Hid (∀ X, Below W3.heap.size W3 X → OwnsFx X (w.heap.size + 1) u4 G') := Lib.hid fun X h => hown.below (HA.out.trans (h.mono HA.out.size))
          have Hoo : Hid (∀ b, u4.ownBlock = some b → w.heap.size + 1 ≤ b ∧ b < X3.heap.size) := Lib.hid fun b hb => World.ownsRow.lt hown.own b hb
          have HR : Hid (∀ X : World, X.heap[bv]? = X3.heap[bv]? → X.heap[w.heap.size]? = X3.heap[w.heap.size]? → RangeIs X bv w.heap.size n (lookE E U) (fun s => todo s && !decide (s = cd)) cnt6) := Lib.hid fun X h1 h2 => hrg.block h1 h2
          have hbvl := hrg.map.lt
          have kb : Below W3.heap.size W3 W3 := Below.refl _ _
          have Hb3 := Lib.hid hb3
          clear hown hrg hbk hb3
          go_region_held3 (fun X => X.cell? ⟨X3.heap.size, 0, none⟩ = some (.int .i64 a) ∧ X.cell? ⟨X3.heap.size, 1, none⟩ = some (.int .i64 b)) ((first | exact FB.out _ kb | exact FB.out _ kb.drew | exact FB.out _ (kb.drew.alloc kb.drew.size _) | exact FB.out _ (kb.alloc kb.size _).drew | exact FB.out _ (kb.alloc kb.size _) | exact HS7)) (first
            | (go_at_call 74; have kb := kb.drew; (with_reducible refine (K.out _ kb).mono ?_); rintro e Wa ⟨va, rfl, hva, hvab, hba⟩; obtain ⟨Aa, ca, rfl, hna, hca⟩ := hva.form; have HVB := Lib.hid hvab; have HZ := Lib.hid kb.size; have kb := kb.trans (hba.mono kb.size); clear hvab hba)
            | ((try rw [if_pos (by rfl)]); refine append_fx_wp (.tmp 30) (.tmp 35) (by rfl) (w.heap.size + 1) _ G' (by rfl) (HO.out _ kb) (f := (row, (a, b))) (by rfl) hva (fun q hq => ⟨hva.blk_lt hrl1 q hq, fun e => by have h1 := (Hoo.out q e).2; have h2 := HVB.out q hq; have h3 := HZ.out; omega⟩) (by rfl) (by rfl) hGl (by have := kb.size; omega) (fun v7 w7 hown7 hb7 hbk7 => ?_); have HS7 := FC.out w7 ((hbk7 X3.heap.size (Nat.lt_of_lt_of_le hq3 kb.size) (fun e => Nat.lt_irrefl _ (Hoo.out _ e).2)).trans (kb.block _ hq3))))
          have hbl3 : bv < W3.heap.size := Nat.lt_of_lt_of_le hbvl HA.out.size
          have hx3 : X3.heap.size < Wa.heap.size := Nat.lt_of_lt_of_le hq3 kb.size
          have hvw := H.out.vals.lt
          have hrg7 := HR.out w7 ((hbk7 bv (by omega) (fun e => by have := (Hoo.out _ e).1; omega)).trans ((kb.block bv hbl3).trans (HA.out.block bv hbvl))) ((hbk7 w.heap.size (by omega) (fun e => by have := (Hoo.out _ e).1; omega)).trans ((kb.block w.heap.size (by omega)).trans (HA.out.block w.heap.size (by omega))))
          have hb7w : Below w.heap.size w w7 := (Hb3.out.trans (kb.mono Hb3.out.size)).trans (hb7.mono (by omega))
          have hoff7 : ∀ x ∈ G' ++ [(.slice Aa row.length ca, (row, (a, b)))], ∀ q, sblk x.1 = some q → q ≠ w.heap.size := fun x hx q hq => by
            rcases List.mem_append.1 hx with e | e
            · exact Hoff'.out x e q hq
            · rw [List.mem_singleton] at e
              subst e
              have h1 := HVB.out q hq
              have h2 := HZ.out
              omega
          have HO7 := Lib.hid hoff7; have HW7 := Lib.hid hown7
          clear hoff7 hown7
          go_wp2_with fail
          go_roundw
          case rel => exact ⟨k + 1, _, by go_num, hlt, hrg7, HW7.out, Lib.hid (by rw [List.map_append, HG'.out, HT.out, List.append_assoc]; rfl), HO7, hb7w, by have := hb7w.size; have := hb7.size; omega⟩
          case measure => simp [intOf]; omega
        · obtain rfl : k = ss.length := by omega
          have hmeas := hrg.left_eq
          rw [List.take_length] at HG'
          go_wp2_with fail
          go_roundw
          case rel => exact ⟨js ++ [i], G', _, cnt6, by rw [← HCD.out]; exact hrg, hown, Lib.hid (HG.out.step H.out.eok Hi.out Htx.out (by rw [HG'.out, HL0.out, HSP.out]) Hoff'.out), hbx, hszx⟩
          case measure => omega
end Go.Proofs.YtohjgegnamcnlaaGreat
