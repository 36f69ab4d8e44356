/- A symbolic machine for the model's code, and what it shows of this seat's functions. No conditions. -/
import Derived.Test.YtcdnkkakfkkpgaaQGstorel
import Derived.Test.YtcdnkkakfkkpgaaQVstore
import Derived.Test.YtcdnkkakfkkpgaaQVbuff2
import Derived.Test.YtcdnkkakfkkpgaaQLawKit
import Derived.Test.YtcdnkkakfkkpgaaQLStore2
set_option linter.unusedSimpArgs false
set_option linter.unusedVariables false
namespace Go.BB
open Go Go.Proofs
set_option maxRecDepth 100000
theorem v_awake17 : Valid Try.prog n_awake17 c_awake17 := by
  refine valid_fn mixed hf_awake17 (by kernel_rfl) rfl (ts := tmpsOf f_awake17.results.toList) (by kernel_rfl) (cfg := cfgW g_awake17) tt_ok (Γok_cons v_stNew (Γok_cons v_stInstall (Γok_cons v_stRead (Γok_cons v_stVersions Γok_nil)))) [] c_awake17 (by kernel_rfl) (fun _ _ _ _ => ⟨⟩) ?_
  rintro ⟨⟩ r u h
  exact ⟨3, awake17_rn.trans h⟩
theorem sto_eta (s : Sto) : ((s.1, s.2.1, s.2.2.1, s.2.2.2.1, ()) : Sto) = s := rfl
theorem okS {α : Type} {s : Sto} {l : List α} (h : StoOk s) (hl : l.length < 1000000) : (stoOk s && lenOk l) = true := and_t ((stoOk_iff s).2 h) (decide_eq_true hl)
theorem okS1 {s : Sto} (h : StoOk s) : stoOk s = true := (stoOk_iff s).2 h
/-! StoreSpent -/
def spentC (q : Int) (l : List Cel) : Nat → Chs
  | 0 => []
  | i + 1 => laidAll (q + (i : Int) + 1) (spentC q l i) l
def spentSt (q : Int) (l : List Cel) (i : Nat) : Sto := (q + (i : Int), (i : Int) * l.length, 1000, spentC q l i, ())
theorem spent_inst {q : Int} {l : List Cel} (ho : onceS l = true) (hl : l.length ≤ 20) (h0 : 0 ≤ q) (i : Nat) (hi : i < 5) (hq : q + (i : Int) < 18446744073709551615) :
    instS (spentSt q l i) l = ((q + (i : Int) + 1, 0), spentSt q l (i + 1)) := by
  have hm : (i : Int) * l.length ≤ 4 * 20 := Int.mul_le_mul (by omega) (by omega) (by omega) (by decide)
  rw [instS_new ho (by show q + (i : Int) ≠ _; omega) (by show (l.length : Int) ≤ 1000 - (i : Int) * l.length; omega)]
  unfold spentSt
  simp only [spentC]
  congr 1
  congr 1
  · push_cast; omega
  · congr 1
    push_cast; rw [Int.add_mul]; omega
theorem spent_ok {q : Int} {l : List Cel} (ho : onceS l = true) (hl : l.length ≤ 20) (h0 : 0 ≤ q) : ∀ (i : Nat), i ≤ 5 → q + (i : Int) ≤ 18446744073709551615 → StoOk (spentSt q l i)
  | 0, _, hq => by
    have := stNewS_ok (f := q) 1000 h0 (by omega)
    have e : spentSt q l 0 = stNewS q 1000 := by
      show (q + ((0 : Nat) : Int), ((0 : Nat) : Int) * l.length, (1000 : Int), ([] : Chs), ()) = (q, 0, 1000, [], ())
      simp
    rw [e]; exact this
  | i + 1, hi, hq => by
    have ih := spent_ok ho hl h0 i (by omega) (by omega)
    have hm : (i : Int) * l.length ≤ 4 * 20 := Int.mul_le_mul (by omega) (by omega) (by omega) (by decide)
    have := instS_ok ih (l := l) (by show (i : Int) * l.length + l.length ≤ 500000; omega)
    rw [spent_inst ho hl h0 i (by omega) (by omega)] at this
    exact this
theorem lv_StoreSpent : Valid Try.prog n_lStoreSpent ⟨valsOf [.slice tI, tI], [.val .bool], Fok (tys := [.slice tI, tI]) (fun _ => true) ((), (), ())⟩ := by
  refine valid_law mixed hf_lStoreSpent (by kernel_rfl) rfl (ts := tmpsOf f_lStoreSpent.results.toList) (by kernel_rfl) (cfg := cfgW g_lStoreSpent) tt_ok
    (Γok_cons v_awake17 (Γok_cons v_cells (Γok_cons v_within (Γok_cons v_stNew (Γok_cons v_stInstall (Γok_cons v_stLast (Γok_cons v_stVersions (Γok_cons v_stRead Γok_nil)))))))) lStoreSpent_tm (by kernel_rfl) ?_
  rintro ⟨(ks : List Int), (ah : Int), ⟨⟩⟩ _
  refine ⟨10, (lStoreSpent_rn _ _ _).trans ?_⟩
  unfold lStoreSpent_P
  by_cases hks : (ks.length : Int) > 20
  · rw [br_dt hks]; rfl
  rw [br_df hks, brNT, bd_grd (by decide)]
  simp only
  have hl := cellsS_len ks
  have hb := cellsS_buf ks
  by_cases h0 : cellsS ks = []
  · rw [h0]; rfl
  have ho := onceS_cells h0
  have hlen : 0 < (cellsS ks).length := List.length_pos_iff.2 h0
  rw [br_f (beq_eq_false_iff_ne.2 (by omega))]
  have a0 := Int.emod_nonneg ah (show (5 : Int) ≠ 0 by decide)
  have a1 := Int.emod_lt_of_pos ah (show (0 : Int) < 5 by decide)
  obtain ⟨n, hn⟩ : ∃ n : Nat, ah % 5 = (n : Int) := ⟨(ah % 5).toNat, by omega⟩
  rw [hn]
  have hn5 : n < 5 := by omega
  rw [wrapU (n := (n : Int)) (by omega) (by omega), wrapU (by omega) (by omega)]
  generalize hL : cellsS ks = l at hl hb ho hlen
  have hst : spentSt (18446744073709551615 - (n : Int)) l 0 = stNewS (18446744073709551615 - (n : Int)) 1000 := by
    show (18446744073709551615 - (n : Int) + ((0 : Nat) : Int), ((0 : Nat) : Int) * l.length, (1000 : Int), ([] : Chs), ()) = (18446744073709551615 - (n : Int), 0, 1000, [], ())
    simp
  simp only [sto_eta]
  have := loopN_for (step := lStoreSpent_L1) (res := some ((true, ()), (), (), ())) n (fun i => (l, (n : Int), spentSt (18446744073709551615 - (n : Int)) l i, (i : Int), ())) (fun i hi rec => ?_) (fun rec => ?_) 10 (by omega)
  · simp only [hst] at this
    exact this
  · have hi5 := spent_ok ho hl (q := 18446744073709551615 - (n : Int)) (by omega) i (by omega) (by omega)
    simp only [lStoreSpent_L1, sto_eta]
    rw [br_dt (by omega), bd_grd (okS hi5 (by omega)), spent_inst ho hl (by omega) i (by omega) (by omega), wrapI (by omega) (by omega)]
    rfl
  · have hi5 := spent_ok ho hl (q := 18446744073709551615 - (n : Int)) (by omega) n (by omega) (by omega)
    have e1 : (spentSt (18446744073709551615 - (n : Int)) l n).1 = 18446744073709551615 := by
      show 18446744073709551615 - (n : Int) + (n : Int) = 18446744073709551615
      omega
    have e2 : instS (spentSt (18446744073709551615 - (n : Int)) l n) l = ((0, 8), spentSt (18446744073709551615 - (n : Int)) l n) := by
      unfold instS
      rw [if_neg (by rw [ho]; decide), if_pos e1]
    have hm : (n : Int) * l.length ≤ 4 * 20 := Int.mul_le_mul (by omega) (by omega) (by omega) (by decide)
    simp only [lStoreSpent_L1, sto_eta]
    rw [br_df (by omega), bd_grd (okS hi5 (by omega)), e2]
    simp only [e1]
    have e3 : (spentSt (18446744073709551615 - (n : Int)) l n).2.1 = (n : Int) * l.length := rfl
    rw [br_f (by decide), br_f (by decide), br_f (by decide)]
    have hm0 : 0 ≤ (n : Int) * l.length := Int.mul_nonneg (by omega) (by omega)
    rw [e3, wrapI (n := (n : Int) * l.length) (by omega) (by omega), br_f (by simp), br_dt (by omega)]
    rw [br_dt (by omega), br_dt (by omega), bd_grd (okS1 hi5), bd_grd (okS1 hi5)]
    simp only [mk_eta, Int.toNat_zero]
    obtain ⟨c, l', rfl⟩ : ∃ c l', l = c :: l' := by
      cases l with
      | nil => cases hlen
      | cons c l' => exact ⟨c, l', rfl⟩
    rw [List.getD_cons_zero]
    by_cases hn0 : n = 0
    · subst hn0
      rw [br_t (by decide)]
      rfl
    rw [br_f (beq_eq_false_iff_ne.2 (by omega))]
    obtain ⟨i, rfl⟩ : ∃ i, n = i + 1 := ⟨n - 1, by omega⟩
    have hi6 := spent_ok ho hl (q := 18446744073709551615 - ((i + 1 : Nat) : Int)) (by omega) i (by omega) (by omega)
    have hc := chnOf_ok hi6 c.1
    have e4 : atV (chnOf (spentSt (18446744073709551615 - ((i + 1 : Nat) : Int)) (c :: l') (i + 1)).2.2.2.1 c.1) 18446744073709551615 = c.2 := by
      show atV (chnOf (laidAll _ (spentC _ (c :: l') i) (c :: l')) c.1) _ = _
      rw [chnOf_laidAll _ _ _ _ (nodupK_buf hb), find_mem (nodupK_buf hb) List.mem_cons_self]
      simp only
      have hc2 : newS (chnOf (spentC (18446744073709551615 - ((i + 1 : Nat) : Int)) (c :: l') i) c.1) ≤ 18446744073709551615 - ((i + 1 : Nat) : Int) + (i : Int) := hc.2.1
      refine (atV_snoc hc.1 ?_ _).trans (if_pos ?_)
      · show newS (chnOf (spentC (18446744073709551615 - ((i + 1 : Nat) : Int)) (c :: l') i) c.1) < _
        simp only
        omega
      · simp only; push_cast; omega
    rw [e4]
    simp
/-! StoreWhole -/
structure WholeOk (s : Sto) (l m : List Cel) (o a : Int) : Prop where
  ok : StoOk s
  bl : bufS l = true
  bm : bufS m = true
  ll : l.length ≤ 20
  lm : m.length ≤ 20
  hm : ∀ c ∈ m, atV (chnOf s.2.2.2.1 c.1) a = (getK l c.1).1 ∧ atV (chnOf s.2.2.2.1 c.1) s.1 = c.2 ∧ newS (chnOf s.2.2.2.1 c.1) = o
  hl : ∀ c ∈ l, atV (chnOf s.2.2.2.1 c.1) 7 = 0 ∧ atV (chnOf s.2.2.2.1 c.1) a = c.2 ∧ atV (chnOf s.2.2.2.1 c.1) s.1 = (match (getK m c.1).2 with | true => (getK m c.1).1 | false => c.2)
  n : s.2.1 = (l.length : Int) + m.length
theorem getD_mem' {l : List Cel} {i : Nat} (h : i < l.length) : l.getD i ((0, 0), 0) ∈ l := by
  rw [List.getD_eq_getElem?_getD, List.getElem?_eq_getElem h]; exact List.getElem_mem h
theorem okB {l : List Cel} (h : bufS l = true) (hl : l.length ≤ 20) : (lenOk l && bufS l) = true := and_t (decide_eq_true (by omega)) h
theorem key_eta (c : Cel) : (c.1.1, c.1.2) = c.1 := rfl
theorem whole_L1 {s : Sto} {l m : List Cel} {o a : Int} (h : WholeOk s l m o a) (K : Nat) (hK : 20 < K) : loopN lStoreWhole_L1 K (s, l, m, o, a, 0, ()) = some ((true, ()), (), (), ()) := by
  have h1 := h.ll
  have h2 := h.lm
  refine loopN_for m.length (fun i => (s, l, m, o, a, (i : Int), ())) (fun i hi rec => ?_) (fun rec => ?_) K (by omega)
  · obtain ⟨e1, e2, e3⟩ := h.hm _ (getD_mem' hi)
    simp only [lStoreWhole_L1, sto_eta, Int.toNat_natCast]
    generalize m.getD i ((0, 0), 0) = c at e1 e2 e3
    simp only [key_eta]
    rw [br_dt (by omega), br_dt (by omega), br_dt (by omega), bd_grd (okB h.bl h.ll), br_dt (by omega), br_dt (by omega), bd_grd (okS1 h.ok)]
    simp only [e1]
    rw [br_f (by simp), br_dt (by omega), br_dt (by omega), bd_grd (okS1 h.ok)]
    simp only [e2]
    rw [br_dt (by omega), br_dt (by omega), br_f (by simp), br_dt (by omega), br_dt (by omega), bd_grd (okS1 h.ok)]
    simp only [e3]
    rw [br_f (by simp), wrapI (by omega) (by omega)]
    rfl
  · simp only [lStoreWhole_L1, sto_eta]
    rw [br_df (by omega), wrapI (by omega) (by omega), h.n]
    simp
theorem whole_L2 {s : Sto} {l m : List Cel} {o a : Int} (h : WholeOk s l m o a) (K : Nat) (hK : 20 < K) : loopN (lStoreWhole_L2 K) K (s, l, m, o, a, 0, ()) = some ((true, ()), (), (), ()) := by
  have h1 := h.ll
  have h2 := h.lm
  refine loopN_for l.length (fun i => (s, l, m, o, a, (i : Int), ())) (fun i hi rec => ?_) (fun rec => ?_) K (by omega)
  · obtain ⟨e1, e2, e3⟩ := h.hl _ (getD_mem' hi)
    simp only [lStoreWhole_L2, sto_eta, Int.toNat_natCast]
    generalize l.getD i ((0, 0), 0) = c at e1 e2 e3
    simp only [key_eta]
    rw [br_dt (by omega), br_dt (by omega), br_dt (by omega), bd_grd (okB h.bm h.lm)]
    simp only
    generalize getK m c.1 = g at e3
    obtain ⟨g1, g2⟩ := g
    cases g2
    · rw [brF, br_dt (by omega), br_dt (by omega), bd_grd (okS1 h.ok)]
      simp only [e1]
      rw [br_f (by decide), bd_grd (okS1 h.ok)]
      simp only [e2]
      rw [br_dt (by omega), br_dt (by omega), br_f (by simp), bd_grd (okS1 h.ok)]
      simp only [e3]
      rw [br_f (by simp), wrapI (by omega) (by omega)]
      rfl
    · rw [brNT, bd_grd (okS1 h.ok)]
      simp only [e1]
      rw [br_f (by decide), bd_grd (okS1 h.ok)]
      simp only [e2]
      rw [br_dt (by omega), br_dt (by omega), br_f (by simp), bd_grd (okS1 h.ok)]
      simp only [e3]
      rw [br_f (by simp), wrapI (by omega) (by omega)]
      rfl
  · simp only [lStoreWhole_L2, sto_eta]
    rw [br_df (by omega)]
    exact whole_L1 h K hK
theorem whole_init {l : List Cel} (h : onceS l = true) (hl : l.length ≤ 20) : instS (stNewS 7 1000) l = ((8, 0), (8, (l.length : Int), 1000, laidAll 8 [] l, ())) := by
  rw [instS_new h (by decide) (by show (l.length : Int) ≤ 1000 - 0; omega)]
  unfold stNewS
  congr 1
  congr 1
  congr 1
  show (0 : Int) + (l.length : Int) = _
  omega
theorem chn1 {l : List Cel} (h : bufS l = true) {c : Cel} (hc : c ∈ l) (q : Int) (m : Chs) : chnOf (laidAll q m l) c.1 = chnOf m c.1 ++ [(q, c.2)] := by
  rw [chnOf_laidAll _ _ _ _ (nodupK_buf h), find_mem (nodupK_buf h) hc]
theorem atV1 (a v q : Int) : atV [(a, v)] q = if a ≤ q then v else 0 := by unfold atV cnt; split <;> simp [cnt]
theorem atV2 (a v b w q : Int) (h : a ≤ b) : atV [(a, v), (b, w)] q = if b ≤ q then w else if a ≤ q then v else 0 := by
  unfold atV cnt
  by_cases h1 : b ≤ q
  · rw [if_pos h1]; simp [cnt, h1, show a ≤ q by omega]
  · rw [if_neg h1]
    by_cases h2 : a ≤ q
    · rw [if_pos h2]; simp [cnt, h1, h2]
    · rw [if_neg h2]; simp [cnt, h1, h2]
theorem whole_both {l m : List Cel} (bl : bufS l = true) (bm : bufS m = true) (ll : l.length ≤ 20) (lm : m.length ≤ 20) (h1 : onceS l = true) (h2 : onceS m = true) :
    instS (8, (l.length : Int), 1000, laidAll 8 [] l, ()) m = ((9, 0), (9, (l.length : Int) + m.length, 1000, laidAll 9 (laidAll 8 [] l) m, ())) ∧ WholeOk (9, (l.length : Int) + m.length, 1000, laidAll 9 (laidAll 8 [] l) m, ()) l m 9 8 := by
  have e1 := instS_ok (stNewS_ok (f := 7) 1000 (by decide) (by decide)) (l := l) (by show (0 : Int) + l.length ≤ 500000; omega)
  rw [whole_init h1 ll] at e1
  have e2 : instS (8, (l.length : Int), 1000, laidAll 8 [] l, ()) m = ((9, 0), (9, (l.length : Int) + m.length, 1000, laidAll 9 (laidAll 8 [] l) m, ())) := instS_new h2 (by show (8 : Int) ≠ _; decide) (by show (m.length : Int) ≤ 1000 - (l.length : Int); omega)
  have e3 := instS_ok e1 (l := m) (by show (l.length : Int) + m.length ≤ 500000; omega)
  rw [e2] at e3
  refine ⟨e2, e3, bl, bm, ll, lm, fun c hc => ?_, fun c hc => ?_, rfl⟩
  · simp only
    rw [chn1 bm hc, chnOf_laidAll _ _ _ _ (nodupK_buf bl), getK_find bl]
    cases l.find? (fun d => decide (d.1 = c.1)) with
    | none => simp only [chnOf_nil, List.nil_append]; rw [atV1, atV1]; exact ⟨rfl, rfl, rfl⟩
    | some d => simp only [chnOf_nil, List.nil_append, List.cons_append]; rw [atV2 _ _ _ _ _ (by decide), atV2 _ _ _ _ _ (by decide)]; exact ⟨rfl, rfl, rfl⟩
  · simp only
    rw [chnOf_laidAll _ _ _ _ (nodupK_buf bm), chn1 bl hc, getK_find bm]
    cases m.find? (fun d => decide (d.1 = c.1)) with
    | none => simp only [chnOf_nil, List.nil_append]; rw [atV1, atV1, atV1]; exact ⟨rfl, rfl, rfl⟩
    | some d => simp only [chnOf_nil, List.nil_append, List.cons_append]; rw [atV2 _ _ _ _ _ (by decide), atV2 _ _ _ _ _ (by decide), atV2 _ _ _ _ _ (by decide)]; exact ⟨rfl, rfl, rfl⟩
theorem whole_first {l : List Cel} (bl : bufS l = true) (ll : l.length ≤ 20) (h1 : onceS l = true) : WholeOk (8, (l.length : Int), 1000, laidAll 8 [] l, ()) l [] 0 8 := by
  have e1 := instS_ok (stNewS_ok (f := 7) 1000 (by decide) (by decide)) (l := l) (by show (0 : Int) + l.length ≤ 500000; omega)
  rw [whole_init h1 ll] at e1
  refine ⟨e1, bl, rfl, ll, by simp, fun c hc => (nomatch hc), fun c hc => ?_, by simp⟩
  simp only
  rw [chn1 bl hc]
  simp only [chnOf_nil, List.nil_append]; rw [atV1, atV1]; exact ⟨rfl, rfl, rfl⟩
theorem whole_second {m : List Cel} (bm : bufS m = true) (lm : m.length ≤ 20) (h1 : onceS m = true) : WholeOk (8, (m.length : Int), 1000, laidAll 8 [] m, ()) [] m 8 7 := by
  have e1 := instS_ok (stNewS_ok (f := 7) 1000 (by decide) (by decide)) (l := m) (by show (0 : Int) + m.length ≤ 500000; omega)
  rw [whole_init h1 lm] at e1
  refine ⟨e1, rfl, bm, by simp, lm, fun c hc => ?_, fun c hc => (nomatch hc), by simp⟩
  simp only
  rw [chn1 bm hc]
  simp only [chnOf_nil, List.nil_append]; rw [atV1, atV1]; exact ⟨rfl, rfl, rfl⟩
theorem lv_StoreWhole : Valid Try.prog n_lStoreWhole ⟨valsOf [.slice tI, .slice tI], [.val .bool], Fok (tys := [.slice tI, .slice tI]) (fun _ => true) ((), (), ())⟩ := by
  refine valid_law mixed hf_lStoreWhole (by kernel_rfl) rfl (ts := tmpsOf f_lStoreWhole.results.toList) (by kernel_rfl) (cfg := cfgW g_lStoreWhole) tt_ok
    (Γok_cons v_awake17 (Γok_cons v_cells (Γok_cons v_stNew (Γok_cons v_stInstall (Γok_cons v_stLast (Γok_cons v_rbget (Γok_cons v_stRead (Γok_cons v_stNewest (Γok_cons v_stVersions Γok_nil))))))))) lStoreWhole_tm (by kernel_rfl) ?_
  rintro ⟨(ka : List Int), (kb : List Int), ⟨⟩⟩ _
  refine ⟨30, (lStoreWhole_rn _ _ _).trans ?_⟩
  unfold lStoreWhole_P
  by_cases hka : (ka.length : Int) > 20
  · rw [br_dt hka]; rfl
  by_cases hkb : (kb.length : Int) > 20
  · rw [br_df hka, br_dt hkb]; rfl
  have h0 := stNewS_ok (f := 7) 1000 (by decide) (by decide)
  have la := cellsS_len ka
  have lb := cellsS_len kb
  have ba := cellsS_buf ka
  have bb := cellsS_buf kb
  rw [br_df hka, br_df hkb, brNT]
  simp only [sto_eta]
  rw [bd_grd (okS h0 (by omega))]
  have oa : cellsS ka ≠ [] → onceS (cellsS ka) = true := onceS_cells
  have ob : cellsS kb ≠ [] → onceS (cellsS kb) = true := onceS_cells
  generalize cellsS ka = l at la ba oa
  generalize cellsS kb = m at lb bb ob
  by_cases hl : l = []
  · subst hl
    have e1 : instS (stNewS 7 1000) [] = ((0, 1), stNewS 7 1000) := rfl
    rw [e1]
    simp only
    rw [bd_grd (okS h0 (by omega))]
    by_cases hm : m = []
    · subst hm
      rw [e1]
      simp only
      rw [br_f (by decide), br_f (by decide), br_f (by decide), br_f (by decide), br_f (by decide)]
      exact whole_L2 (s := stNewS 7 1000) (l := []) (m := []) ⟨h0, rfl, rfl, by simp, by simp, fun c hc => (nomatch hc), fun c hc => (nomatch hc), rfl⟩ 30 (by omega)
    · have hp : 0 < m.length := List.length_pos_iff.2 hm
      rw [whole_init (ob hm) lb]
      simp only
      rw [br_f (by decide), br_f (by rw [decide_eq_true (by omega)]; decide), br_f (by decide), br_t (by decide), br_f (by decide), br_f (by decide)]
      exact whole_L2 (whole_second bb lb (ob hm)) 30 (by omega)
  · have hp : 0 < l.length := List.length_pos_iff.2 hl
    rw [whole_init (oa hl) la]
    simp only
    have e1 := (whole_first ba la (oa hl)).ok
    rw [bd_grd (okS e1 (by omega))]
    by_cases hm : m = []
    · subst hm
      have e2 : instS (8, (l.length : Int), 1000, laidAll 8 [] l, ()) [] = ((0, 1), (8, (l.length : Int), 1000, laidAll 8 [] l, ())) := rfl
      rw [e2]
      simp only
      rw [br_f (by rw [decide_eq_true (by omega)]; decide), br_f (by decide), br_t (by decide), br_f (by decide), br_f (by decide), br_t (by decide)]
      exact whole_L2 (whole_first ba la (oa hl)) 30 (by omega)
    · have hp2 : 0 < m.length := List.length_pos_iff.2 hm
      obtain ⟨e2, e3⟩ := whole_both ba bb la lb (oa hl) (ob hm)
      rw [e2]
      simp only
      rw [br_f (by rw [decide_eq_true (by omega)]; decide), br_f (by rw [decide_eq_true (by omega)]; decide), br_t (by decide), br_f (by decide), br_t (by decide), br_f (by decide), br_t (by decide)]
      exact whole_L2 e3 30 (by omega)
end Go.BB
