/- Law 47: sort.symMerge_func, stable_func. -/
import Derived.Test.YtcppcfinnbeboaaDsC
namespace Go.Proofs.Ytcppcfinnbeboaa
open Go.RowKit Go.Shelf

section
variable {base g n : Nat} {p s th : Value} {sf : FuncId} {I : World → Prop}
set_option maxRecDepth 100000 in
set_option maxHeartbeats 16000000 in
theorem soMerge_mid (hE : SEnv base g n p s th sf I) (hn : n ≤ 1000) (a m b : Nat) (ha : a + 1 < m) (hm : m + 1 < b) (hb : b ≤ n) (w : World) (hI : I w)
    (hrec : ∀ a' m' b' : Nat, b' - a' < b - a → a' < m' → m' < b' → b' ≤ n → ∀ W, I W → Calls Try.prog 117 #[swD p s th sf, .int .i64 (a' : Int), .int .i64 (m' : Int), .int .i64 (b' : Int)] W (SoRet base g I W)) :
    Calls Try.prog 117 #[swD p s th sf, .int .i64 (a : Int), .int .i64 (m : Int), .int .i64 (b : Int)] w (SoRet base g I w) := by
  have KR : Hid (∀ X (a m b : Nat), I X → a < m → m < b → b ≤ n → Calls Try.prog 125 #[.agg #[.func (.func 78) #[] #[p], .func (.func sf) #[] #[s, th]], .int .i64 (a : Int), .int .i64 (m : Int), .int .i64 (b : Int)] X (SoRet base g I X)) := Lib.hid fun X a m b h1 h2 h3 h4 => soRotate_c hE hn a m b h2 h3 h4 X h1
  unfold swD at hrec ⊢
  have HR := Lib.hid hrec
  obtain ⟨hB, hI1, hK1⟩ := BoxS.new hE hI
  have eg := ent_djsearch1
  obtain ⟨ma, hma⟩ : ∃ y : Nat, y = m - a := ⟨_, rfl⟩
  have z0 : IntKind.i64.wrap ((m : Int) - (a : Int)) = (ma : Int) := by rw [IntKind.wrap_i64]; omega
  have z00 : ((ma : Int) == 1) = false := by rw [beq_eq_false_iff_ne]; omega
  have z01 : (ma == 1) = false := by rw [beq_eq_false_iff_ne]; omega
  have z02 : ¬ ma = 1 := by omega
  obtain ⟨bm, hbm⟩ : ∃ y : Nat, y = b - m := ⟨_, rfl⟩
  have y0 : IntKind.i64.wrap ((b : Int) - (m : Int)) = (bm : Int) := by rw [IntKind.wrap_i64]; omega
  have y00 : ((bm : Int) == 1) = false := by rw [beq_eq_false_iff_ne]; omega
  have y01 : (bm == 1) = false := by rw [beq_eq_false_iff_ne]; omega
  have y02 : ¬ bm = 1 := by omega
  obtain ⟨f1, f2, f3, f4⟩ := half_facts a b (by omega)
  obtain ⟨mid, hmid⟩ : ∃ y : Nat, y = (a + b) / 2 := ⟨_, rfl⟩
  rw [← hmid] at f3 f4
  have x0 : IntKind.i64.wrap ((mid : Int) + (m : Int)) = ((mid + m : Nat) : Int) := by rw [IntKind.wrap_i64]; omega
  obtain ⟨nn, hnn⟩ : ∃ y : Nat, y = mid + m := ⟨_, rfl⟩
  rw [← hnn] at x0
  have x1 : IntKind.i64.wrap ((nn : Int) - 1) = ((nn - 1 : Nat) : Int) := by rw [IntKind.wrap_i64]; omega
  obtain ⟨pp, hpp⟩ : ∃ y : Nat, y = nn - 1 := ⟨_, rfl⟩
  rw [← hpp] at x1
  generalize hab : a + b = ab at *
  have HE := Lib.hid hE
  have HB := Lib.hid hB; have HI1 := Lib.hid hI1; have HK1 := Lib.hid hK1
  have HH : Hid (a + 1 < m ∧ m + 1 < b ∧ b ≤ n ∧ n ≤ 1000 ∧ a < mid ∧ mid < b ∧ 2 * mid ≤ a + b ∧ a + b ≤ 2 * mid + 1 ∧ nn = mid + m ∧ pp = nn - 1) := Lib.hid ⟨ha, hm, hb, hn, by omega, by omega, by omega, by omega, hnn, hpp⟩
  clear hE hI hB hI1 hK1 hb ha hn hm hma hbm hmid hnn hpp hrec hab
  go_enter Try.func117, Try.ntmps117
  cases hg : decide ((mid : Int) < (m : Int))
  · have hg2 : decide (mid < m) = false := by have := of_decide_eq_false hg; exact decide_eq_false (by omega)
    skip
    have hLH : a ≤ m ∧ (∀ c, a ≤ c → c < m → c < n ∧ c ≤ pp ∧ pp - c < n) ∧ ∀ x, a ≤ x → x ≤ m → x ≤ nn ∧ nn - x ≤ b := by
      have := HH.out
      have hg3 := of_decide_eq_false hg2
      refine ⟨by omega, fun c h1 h2 => ⟨by omega, by omega, by omega⟩, fun x h1 h2 => ⟨by omega, by omega⟩⟩
    have HLH := Lib.hid hLH
    clear hLH
    go_wp2_with fail
    obtain ⟨W1, hW1⟩ : ∃ y, y = w.alloc (.cells #[.func (.func 78) #[] #[p], .func (.func sf) #[] #[s, th]] 131) := ⟨_, rfl⟩
    obtain ⟨B, hBe⟩ : ∃ y, y = w.heap.size := ⟨_, rfl⟩
    rw [← hW1] at HB HI1 HK1 ⊢
    rw [← hBe] at HB ⊢
    clear hW1 hBe z0 z00 z01 z02 y0 y00 y01 y02 f1 f2 f3 f4 x0 x1 hg hg2 
    go_loopw [18, 19] (fun i j wr => ∃ x y : Nat, i = .int .i64 (x : Int) ∧ j = .int .i64 (y : Int) ∧ a ≤ x ∧ x ≤ y ∧ y ≤ m ∧ I wr ∧ Kp base g W1 wr) (fun i j _ => (intOf j).toNat - (intOf i).toNat)
    case atStart => exact ⟨a, m, rfl, rfl, Nat.le_refl _, HLH.out.1, Nat.le_refl _, HI1.out, Kp.refl⟩
    case round =>
      obtain ⟨x, y, rfl, rfl, hmx, hxy, hyb, hI, hK⟩ := hrel
      rcases Nat.lt_or_ge x y with hlt | hge
      · have e1 : decide ((x : Int) < (y : Int)) = true := decide_eq_true (by omega)
        have e2 : decide (x < y) = true := decide_eq_true (by omega)
        have hcc := HLH.out.2.1 ((x + y) / 2) (by omega) (by omega)
        have hyy := HLH.out.2.1 (y - 1) (by omega) (by omega)
        obtain ⟨f1, f2, f3, f4⟩ := half_facts x y (by have := HH.out; omega)
        have HX : Hid (a ≤ x ∧ x < y ∧ y ≤ m ∧ x ≤ (x + y) / 2 ∧ (x + y) / 2 < y) := Lib.hid ⟨hmx, hlt, hyb, by omega, by omega⟩
        have hbx := HB.out.kp hK
        have c0 := hbx.c0
        have Hl := Lib.hid (HE.out.less wr (pp - (x + y) / 2) ((x + y) / 2) hcc.2.2 hcc.1 hI)
        have HK := Lib.hid hK
        have f5 : IntKind.i64.wrap ((((x + y) / 2 : Nat) : Int) + 1) = (((x + y) / 2 + 1 : Nat) : Int) := by rw [IntKind.wrap_i64]; have := HH.out; omega
        have f6 : IntKind.i64.wrap ((pp : Int) - (((x + y) / 2 : Nat) : Int)) = ((pp - (x + y) / 2 : Nat) : Int) := by rw [IntKind.wrap_i64]; have := HH.out; omega
        generalize hh : (x + y) / 2 = h at *
        generalize hq : x + y = q at *
        generalize hph : pp - h = ph at *
        clear hI hK hmx hxy hyb hlt hbx hh hq hcc hyy hph
        go_wp2_with (go_at_fn 78; refine Hl.out.mono ?_; rintro e w2 ⟨bb, rfl, hI2, hK2⟩; have HI3 := Lib.hid hI2; have HK3 := Lib.hid (HK.out.trans hK2); clear hI2 hK2; cases bb)
        · go_roundw
          case rel => exact ⟨h + 1, y, by go_num, rfl, by have := HX.out; omega, by have := HX.out; omega, by have := HX.out; omega, HI3.out, HK3.out⟩
          case measure => have := HX.out; simp [intOf]; omega
        · go_roundw
          case rel => exact ⟨x, h, rfl, rfl, by have := HX.out; omega, by have := HX.out; omega, by have := HX.out; omega, HI3.out, HK3.out⟩
          case measure => have := HX.out; simp [intOf]; omega
      · obtain rfl : x = y := by omega
        have e1 : decide ((x : Int) < (x : Int)) = false := decide_eq_false (by omega)
        have hxx := HLH.out.2.2 x hmx hyb
        have x2 : IntKind.i64.wrap ((nn : Int) - (x : Int)) = ((nn - x : Nat) : Int) := by rw [IntKind.wrap_i64]; have := HH.out; omega
        obtain ⟨en, hen⟩ : ∃ y : Nat, y = nn - x := ⟨_, rfl⟩
        rw [← hen] at x2
        have HX : Hid (en ≤ b) := Lib.hid (by omega)
        have KRo : Hid (∀ W, I W → x < m → m < en → Calls Try.prog 125 #[.agg #[.func (.func 78) #[] #[p], .func (.func sf) #[] #[s, th]], .int .i64 (x : Int), .int .i64 (m : Int), .int .i64 (en : Int)] W (SoRet base g I W)) := Lib.hid fun W h0 h1 h2 => KR.out W x m en h0 h1 h2 (by have := HH.out; have := HX.out; omega)
        have KA : Hid (∀ W, I W → a < x → x < mid → Calls Try.prog 117 #[.agg #[.func (.func 78) #[] #[p], .func (.func sf) #[] #[s, th]], .int .i64 (a : Int), .int .i64 (x : Int), .int .i64 (mid : Int)] W (SoRet base g I W)) := Lib.hid fun W hW h1 h2 => HR.out a x mid (by have := HH.out; omega) h1 h2 (by have := HH.out; omega) W hW
        have KB : Hid (∀ W, I W → mid < en → en < b → Calls Try.prog 117 #[.agg #[.func (.func 78) #[] #[p], .func (.func sf) #[] #[s, th]], .int .i64 (mid : Int), .int .i64 (en : Int), .int .i64 (b : Int)] W (SoRet base g I W)) := Lib.hid fun W hW h1 h2 => HR.out mid en b (by have := HH.out; omega) h1 h2 (by have := HH.out; omega) W hW
        have hbx := HB.out.kp hK
        have c0 := hbx.c0
        have c1 := hbx.c1
        clear hmx hxy hyb hge hbx hxx hen
        go_wp2_with (first
          | (go_at_call 125; (with_reducible refine (KRo.out _ hI (by omega) (by omega)).mono ?_); rintro e w2 ⟨rfl, hI2, hK2⟩; have hI := hI2; have hK := hK.trans hK2; have hbx := HB.out.kp hK; have c0 := hbx.c0; have c1 := hbx.c1; clear hI2 hK2 hbx)
          | (go_at_call 117; (with_reducible refine (KA.out _ hI (by omega) (by omega)).mono ?_); rintro e w2 ⟨rfl, hI2, hK2⟩; have hI := hI2; have hK := hK.trans hK2; have hbx := HB.out.kp hK; have c0 := hbx.c0; have c1 := hbx.c1; clear hI2 hK2 hbx)
          | (go_at_call 117; (with_reducible refine (KB.out _ hI (by omega) (by omega)).mono ?_); rintro e w2 ⟨rfl, hI2, hK2⟩; have hI := hI2; have hK := hK.trans hK2; have hbx := HB.out.kp hK; have c0 := hbx.c0; have c1 := hbx.c1; clear hI2 hK2 hbx)
          | fail)
        all_goals
          go_end0
          exact ⟨rfl, hI, HK1.out.trans hK⟩
  · have hg2 : decide (mid < m) = true := by have := of_decide_eq_true hg; exact decide_eq_true (by omega)
    have x3 : IntKind.i64.wrap ((nn : Int) - (b : Int)) = ((nn - b : Nat) : Int) := by rw [IntKind.wrap_i64]; have := of_decide_eq_true hg2; have := HH.out; omega
    have hLH : (nn - b) ≤ mid ∧ (∀ c, (nn - b) ≤ c → c < mid → c < n ∧ c ≤ pp ∧ pp - c < n) ∧ ∀ x, (nn - b) ≤ x → x ≤ mid → x ≤ nn ∧ nn - x ≤ b := by
      have := HH.out
      have hg3 := of_decide_eq_true hg2
      refine ⟨by omega, fun c h1 h2 => ⟨by omega, by omega, by omega⟩, fun x h1 h2 => ⟨by omega, by omega⟩⟩
    have HLH := Lib.hid hLH
    clear hLH
    go_wp2_with fail
    obtain ⟨W1, hW1⟩ : ∃ y, y = w.alloc (.cells #[.func (.func 78) #[] #[p], .func (.func sf) #[] #[s, th]] 131) := ⟨_, rfl⟩
    obtain ⟨B, hBe⟩ : ∃ y, y = w.heap.size := ⟨_, rfl⟩
    rw [← hW1] at HB HI1 HK1 ⊢
    rw [← hBe] at HB ⊢
    clear hW1 hBe z0 z00 z01 z02 y0 y00 y01 y02 f1 f2 f3 f4 x0 x1 hg hg2 x3
    go_loopw [18, 19] (fun i j wr => ∃ x y : Nat, i = .int .i64 (x : Int) ∧ j = .int .i64 (y : Int) ∧ (nn - b) ≤ x ∧ x ≤ y ∧ y ≤ mid ∧ I wr ∧ Kp base g W1 wr) (fun i j _ => (intOf j).toNat - (intOf i).toNat)
    case atStart => exact ⟨(nn - b), mid, rfl, rfl, Nat.le_refl _, HLH.out.1, Nat.le_refl _, HI1.out, Kp.refl⟩
    case round =>
      obtain ⟨x, y, rfl, rfl, hmx, hxy, hyb, hI, hK⟩ := hrel
      rcases Nat.lt_or_ge x y with hlt | hge
      · have e1 : decide ((x : Int) < (y : Int)) = true := decide_eq_true (by omega)
        have e2 : decide (x < y) = true := decide_eq_true (by omega)
        have hcc := HLH.out.2.1 ((x + y) / 2) (by omega) (by omega)
        have hyy := HLH.out.2.1 (y - 1) (by omega) (by omega)
        obtain ⟨f1, f2, f3, f4⟩ := half_facts x y (by have := HH.out; omega)
        have HX : Hid ((nn - b) ≤ x ∧ x < y ∧ y ≤ mid ∧ x ≤ (x + y) / 2 ∧ (x + y) / 2 < y) := Lib.hid ⟨hmx, hlt, hyb, by omega, by omega⟩
        have hbx := HB.out.kp hK
        have c0 := hbx.c0
        have Hl := Lib.hid (HE.out.less wr (pp - (x + y) / 2) ((x + y) / 2) hcc.2.2 hcc.1 hI)
        have HK := Lib.hid hK
        have f5 : IntKind.i64.wrap ((((x + y) / 2 : Nat) : Int) + 1) = (((x + y) / 2 + 1 : Nat) : Int) := by rw [IntKind.wrap_i64]; have := HH.out; omega
        have f6 : IntKind.i64.wrap ((pp : Int) - (((x + y) / 2 : Nat) : Int)) = ((pp - (x + y) / 2 : Nat) : Int) := by rw [IntKind.wrap_i64]; have := HH.out; omega
        generalize hh : (x + y) / 2 = h at *
        generalize hq : x + y = q at *
        generalize hph : pp - h = ph at *
        clear hI hK hmx hxy hyb hlt hbx hh hq hcc hyy hph
        go_wp2_with (go_at_fn 78; refine Hl.out.mono ?_; rintro e w2 ⟨bb, rfl, hI2, hK2⟩; have HI3 := Lib.hid hI2; have HK3 := Lib.hid (HK.out.trans hK2); clear hI2 hK2; cases bb)
        · go_roundw
          case rel => exact ⟨h + 1, y, by go_num, rfl, by have := HX.out; omega, by have := HX.out; omega, by have := HX.out; omega, HI3.out, HK3.out⟩
          case measure => have := HX.out; simp [intOf]; omega
        · go_roundw
          case rel => exact ⟨x, h, rfl, rfl, by have := HX.out; omega, by have := HX.out; omega, by have := HX.out; omega, HI3.out, HK3.out⟩
          case measure => have := HX.out; simp [intOf]; omega
      · obtain rfl : x = y := by omega
        have e1 : decide ((x : Int) < (x : Int)) = false := decide_eq_false (by omega)
        have hxx := HLH.out.2.2 x hmx hyb
        have x2 : IntKind.i64.wrap ((nn : Int) - (x : Int)) = ((nn - x : Nat) : Int) := by rw [IntKind.wrap_i64]; have := HH.out; omega
        obtain ⟨en, hen⟩ : ∃ y : Nat, y = nn - x := ⟨_, rfl⟩
        rw [← hen] at x2
        have HX : Hid (en ≤ b) := Lib.hid (by omega)
        have KRo : Hid (∀ W, I W → x < m → m < en → Calls Try.prog 125 #[.agg #[.func (.func 78) #[] #[p], .func (.func sf) #[] #[s, th]], .int .i64 (x : Int), .int .i64 (m : Int), .int .i64 (en : Int)] W (SoRet base g I W)) := Lib.hid fun W h0 h1 h2 => KR.out W x m en h0 h1 h2 (by have := HH.out; have := HX.out; omega)
        have KA : Hid (∀ W, I W → a < x → x < mid → Calls Try.prog 117 #[.agg #[.func (.func 78) #[] #[p], .func (.func sf) #[] #[s, th]], .int .i64 (a : Int), .int .i64 (x : Int), .int .i64 (mid : Int)] W (SoRet base g I W)) := Lib.hid fun W hW h1 h2 => HR.out a x mid (by have := HH.out; omega) h1 h2 (by have := HH.out; omega) W hW
        have KB : Hid (∀ W, I W → mid < en → en < b → Calls Try.prog 117 #[.agg #[.func (.func 78) #[] #[p], .func (.func sf) #[] #[s, th]], .int .i64 (mid : Int), .int .i64 (en : Int), .int .i64 (b : Int)] W (SoRet base g I W)) := Lib.hid fun W hW h1 h2 => HR.out mid en b (by have := HH.out; omega) h1 h2 (by have := HH.out; omega) W hW
        have hbx := HB.out.kp hK
        have c0 := hbx.c0
        have c1 := hbx.c1
        clear hmx hxy hyb hge hbx hxx hen
        go_wp2_with (first
          | (go_at_call 125; (with_reducible refine (KRo.out _ hI (by omega) (by omega)).mono ?_); rintro e w2 ⟨rfl, hI2, hK2⟩; have hI := hI2; have hK := hK.trans hK2; have hbx := HB.out.kp hK; have c0 := hbx.c0; have c1 := hbx.c1; clear hI2 hK2 hbx)
          | (go_at_call 117; (with_reducible refine (KA.out _ hI (by omega) (by omega)).mono ?_); rintro e w2 ⟨rfl, hI2, hK2⟩; have hI := hI2; have hK := hK.trans hK2; have hbx := HB.out.kp hK; have c0 := hbx.c0; have c1 := hbx.c1; clear hI2 hK2 hbx)
          | (go_at_call 117; (with_reducible refine (KB.out _ hI (by omega) (by omega)).mono ?_); rintro e w2 ⟨rfl, hI2, hK2⟩; have hI := hI2; have hK := hK.trans hK2; have hbx := HB.out.kp hK; have c0 := hbx.c0; have c1 := hbx.c1; clear hI2 hK2 hbx)
          | fail)
        all_goals
          go_end0
          exact ⟨rfl, hI, HK1.out.trans hK⟩
theorem soMerge_c (hE : SEnv base g n p s th sf I) (hn : n ≤ 1000) : ∀ (d a m b : Nat), b - a ≤ d → a < m → m < b → b ≤ n → ∀ w, I w → Calls Try.prog 117 #[swD p s th sf, .int .i64 (a : Int), .int .i64 (m : Int), .int .i64 (b : Int)] w (SoRet base g I w)
  | 0, a, m, b, hd, ha, hm, _, _, _ => absurd hd (by omega)
  | d + 1, a, m, b, hd, ha, hm, hb, w, hI => by
    rcases Nat.lt_or_ge (a + 1) m with h1 | h1
    · rcases Nat.lt_or_ge (m + 1) b with h2 | h2
      · exact soMerge_mid hE hn a m b h1 h2 hb w hI fun a' m' b' h3 h4 h5 h6 W hW => soMerge_c hE hn d a' m' b' (by omega) h4 h5 h6 W hW
      · exact soMerge_right hE hn a m b h1 (by omega) hb w hI
    · exact soMerge_left hE hn a m b (by omega) hm hb w hI
set_option maxRecDepth 100000 in
set_option maxHeartbeats 16000000 in
theorem soStable_c (hE : SEnv base g n p s th sf I) (hn : n ≤ 1000) (w : World) (hI : I w) : Calls Try.prog 93 #[swD p s th sf, .int .i64 (n : Int)] w (SoRet base g I w) := by
  have KI : Hid (∀ W, I W → ∀ a b : Nat, a ≤ 1000 → b ≤ n → Calls Try.prog 116 #[.agg #[.func (.func 78) #[] #[p], .func (.func sf) #[] #[s, th]], .int .i64 (a : Int), .int .i64 (b : Int)] W (SoRet base g I W)) := Lib.hid fun W h0 a b h1 h2 => soInsert_c hE hn a b h1 h2 W h0
  have KM : Hid (∀ W, I W → ∀ a m b : Nat, a < m → m < b → b ≤ n → Calls Try.prog 117 #[.agg #[.func (.func 78) #[] #[p], .func (.func sf) #[] #[s, th]], .int .i64 (a : Int), .int .i64 (m : Int), .int .i64 (b : Int)] W (SoRet base g I W)) := Lib.hid fun W h0 a m b h1 h2 h3 => soMerge_c hE hn _ a m b (Nat.le_refl _) h1 h2 h3 W h0
  unfold swD
  obtain ⟨hB, hI1, hK1⟩ := BoxS.new hE hI
  have HE := Lib.hid hE
  have HB := Lib.hid hB; have HI1 := Lib.hid hI1; have HK1 := Lib.hid hK1; have Hn := Lib.hid hn
  clear hE hI hB hI1 hK1 hn
  go_enter Try.func93, Try.ntmps93
  go_wp2_with fail
  obtain ⟨W1, hW1⟩ : ∃ y, y = w.alloc (.cells #[.func (.func 78) #[] #[p], .func (.func sf) #[] #[s, th]] 131) := ⟨_, rfl⟩
  obtain ⟨B, hBe⟩ : ∃ y, y = w.heap.size := ⟨_, rfl⟩
  rw [← hW1] at HB HI1 HK1 ⊢
  rw [← hBe] at HB ⊢
  clear hW1 hBe
  go_loopw [5, 6] (fun i j wr => ∃ x : Nat, i = .int .i64 (x : Int) ∧ j = .int .i64 ((x + 20 : Nat) : Int) ∧ x ≤ n ∧ I wr ∧ Kp base g W1 wr) (fun _ j _ => n + 20 - (intOf j).toNat)
  case atStart => exact ⟨0, rfl, rfl, Nat.zero_le _, HI1.out, Kp.refl⟩
  case round =>
    obtain ⟨x, rfl, rfl, hx, hI, hK⟩ := hrel
    have hbx := HB.out.kp hK
    have c0 := hbx.c0
    have c1 := hbx.c1
    rcases Nat.lt_or_ge n (x + 20) with hlt | hge
    rotate_left
    · have e1 : decide (((x + 20 : Nat) : Int) ≤ (n : Int)) = true := decide_eq_true (by omega)
      have e2 : decide (x + 20 ≤ n) = true := decide_eq_true (by omega)
      have k1 : IntKind.i64.wrap (((x + 20 : Nat) : Int) + 20) = ((x + 20 + 20 : Nat) : Int) := by rw [IntKind.wrap_i64]; have := Hn.out; omega
      have K1 := Lib.hid (KI.out wr hI x (x + 20) (by have := Hn.out; omega) hge)
      have HK := Lib.hid hK; have HX := Lib.hid hge
      generalize hq : x + 20 = q at *
      clear hI hK hx hge hbx
      go_wp2_with fail
      refine K1.out.mono ?_
      rintro e w2 ⟨rfl, hI2, hK2⟩
      have HI2 := Lib.hid hI2; have HK2 := Lib.hid (HK.out.trans hK2)
      clear hI2 hK2
      go_wp2_with fail
      go_roundw
      case rel => exact ⟨q, rfl, rfl, HX.out, HI2.out, HK2.out⟩
      case measure => have := HX.out; simp [intOf]; omega
    · have e1 : decide (((x + 20 : Nat) : Int) ≤ (n : Int)) = false := decide_eq_false (by omega)
      have e2 : decide (x + 20 ≤ n) = false := decide_eq_false (by omega)
      have K1 := Lib.hid (KI.out wr hI x n (by have := Hn.out; omega) (Nat.le_refl _))
      have HK := Lib.hid hK
      generalize hq : x + 20 = q at *
      clear hI hK hx hlt hbx hq
      go_wp2_with fail
      refine K1.out.mono ?_
      rintro e w2 ⟨rfl, hI2, hK2⟩
      have HI2 := Lib.hid hI2; have HK2 := Lib.hid (HK.out.trans hK2)
      clear hI2 hK2 HI1
      go_wp2_with fail
      clear c0 c1 e1 e2
      go_loopw [4] (fun i wr => ∃ z : Nat, i = .int .i64 (z : Int) ∧ 1 ≤ z ∧ z ≤ 2000 ∧ I wr ∧ Kp base g W1 wr) (fun i _ => 2000 - (intOf i).toNat)
      case atStart => exact ⟨20, rfl, by omega, by omega, HI2.out, HK2.out⟩
      case round =>
        obtain ⟨z, rfl, hz1, hz2, hI, hK⟩ := hrel
        rcases Nat.lt_or_ge z n with hlt | hge
        rotate_left
        · have e1 : decide ((z : Int) < (n : Int)) = false := decide_eq_false (by omega)
          have e2 : decide (z < n) = false := decide_eq_false (by omega)
          have HI3 := Lib.hid hI; have HK3 := Lib.hid (HK1.out.trans hK)
          clear hI hK hz1 hz2 hge
          go_wp2_with fail
          go_end0
          exact ⟨rfl, HI3.out, HK3.out⟩
        have e1 : decide ((z : Int) < (n : Int)) = true := decide_eq_true (by omega)
        have e2 : decide (z < n) = true := decide_eq_true (by omega)
        have y1 : IntKind.i64.wrap (2 * (z : Int)) = ((2 * z : Nat) : Int) := by rw [IntKind.wrap_i64]; have := Hn.out; omega
        have y2 : IntKind.i64.wrap ((z : Int) * 2) = ((2 * z : Nat) : Int) := by rw [IntKind.wrap_i64]; have := Hn.out; omega
        have HZ : Hid (1 ≤ z ∧ z < n ∧ n ≤ 1000) := Lib.hid ⟨hz1, hlt, Hn.out⟩
        obtain ⟨zz, hzz⟩ : ∃ y, y = 2 * z := ⟨_, rfl⟩
        rw [← hzz] at y1 y2
        have HZZ := Lib.hid hzz
        have HI3 := Lib.hid hI; have HK3 := Lib.hid hK
        clear hI hK hz1 hz2 hlt hzz
        go_wp2_with fail
        go_loopw [5, 6] (fun i j wq => ∃ x : Nat, i = .int .i64 (x : Int) ∧ j = .int .i64 ((x + zz : Nat) : Int) ∧ x ≤ n ∧ I wq ∧ Kp base g W1 wq) (fun i _ _ => n - (intOf i).toNat)
        case atStart => exact ⟨0, rfl, by rw [Nat.zero_add], Nat.zero_le _, HI3.out, HK3.out⟩
        case round =>
          obtain ⟨x, rfl, rfl, hx, hI, hK⟩ := hrel
          have hbx := HB.out.kp hK
          have c0 := hbx.c0
          have c1 := hbx.c1
          have k0 : IntKind.i64.wrap ((x : Int) + (z : Int)) = ((x + z : Nat) : Int) := by rw [IntKind.wrap_i64]; have := HZ.out; omega
          rcases Nat.lt_or_ge n (x + zz) with hlt | hge
          rotate_left
          · have e1 : decide (((x + zz : Nat) : Int) ≤ (n : Int)) = true := decide_eq_true (by omega)
            have e2 : decide (x + zz ≤ n) = true := decide_eq_true (by omega)
            have k1 : IntKind.i64.wrap (((x + zz : Nat) : Int) + (zz : Int)) = ((x + zz + zz : Nat) : Int) := by rw [IntKind.wrap_i64]; have := HZ.out; have := HZZ.out; omega
            have K1 := Lib.hid (KM.out wr hI x (x + z) (x + zz) (by have := HZ.out; omega) (by have := HZ.out; have := HZZ.out; omega) hge)
            have HK := Lib.hid hK; have HX : Hid (x + zz ≤ n ∧ x < x + zz) := Lib.hid ⟨hge, by have := HZ.out; have := HZZ.out; omega⟩
            generalize hq : x + zz = q at *
            generalize hq2 : x + z = q2 at *
            clear hI hK hx hge hbx hq hq2
            go_wp2_with fail
            refine K1.out.mono ?_
            rintro e w2 ⟨rfl, hI2, hK2⟩
            have HI4 := Lib.hid hI2; have HK4 := Lib.hid (HK.out.trans hK2)
            clear hI2 hK2
            go_wp2_with fail
            go_roundw
            case rel => exact ⟨q, rfl, rfl, HX.out.1, HI4.out, HK4.out⟩
            case measure => have := HX.out; simp [intOf]; omega
          · have e1 : decide (((x + zz : Nat) : Int) ≤ (n : Int)) = false := decide_eq_false (by omega)
            have e2 : decide (x + zz ≤ n) = false := decide_eq_false (by omega)
            have KX : Hid (x + z < n → Calls Try.prog 117 #[.agg #[.func (.func 78) #[] #[p], .func (.func sf) #[] #[s, th]], .int .i64 (x : Int), .int .i64 ((x + z : Nat) : Int), .int .i64 (n : Int)] wr (SoRet base g I wr)) := Lib.hid fun h => KM.out wr hI x (x + z) n (by have := HZ.out; omega) h (Nat.le_refl _)
            have HK := Lib.hid hK; have HI4 := Lib.hid hI
            generalize hq : x + zz = q at *
            generalize hq2 : x + z = q2 at *
            clear hI hK hx hlt hbx hq hq2
            cases e3 : decide ((q2 : Int) < (n : Int))
            · have e4 : decide (q2 < n) = false := decide_eq_false (by have := of_decide_eq_false e3; omega)
              go_wp2_with fail
              go_roundw
              case rel => exact ⟨zz, rfl, by have := HZ.out; have := HZZ.out; omega, by have := HZ.out; have := HZZ.out; omega, HI4.out, HK.out⟩
              case measure => have := HZ.out; have := HZZ.out; simp [intOf]; omega
            · have e4 : decide (q2 < n) = true := decide_eq_true (by have := of_decide_eq_true e3; omega)
              have K5 := Lib.hid (KX.out (of_decide_eq_true e4))
              go_wp2_with fail
              refine K5.out.mono ?_
              rintro e w2 ⟨rfl, hI2, hK2⟩
              have HI5 := Lib.hid hI2; have HK5 := Lib.hid (HK.out.trans hK2)
              clear hI2 hK2
              go_wp2_with fail
              go_roundw
              case rel => exact ⟨zz, rfl, by have := HZ.out; have := HZZ.out; omega, by have := HZ.out; have := HZZ.out; omega, HI5.out, HK5.out⟩
              case measure => have := HZ.out; have := HZZ.out; simp [intOf]; omega
end
end Go.Proofs.Ytcppcfinnbeboaa
