/- A symbolic machine for the model's code, and what it shows of this seat's functions. No conditions. -/
import Derived.Test.YtnofmeckcimodaaBVbuff
import Derived.Test.YtnofmeckcimodaaBLGc
import Derived.Test.YtnofmeckcimodaaBGstoreo
import Derived.Test.YtnofmeckcimodaaBVstore
import Derived.Test.YtnofmeckcimodaaBLawKit
set_option linter.unusedSimpArgs false
set_option linter.unusedVariables false
namespace Go.BB
open Go Go.Proofs
set_option maxRecDepth 100000
theorem sp_eta (x : Spn) : (x.1, x.2.1, x.2.2) = x := rfl
theorem v_lay : Valid Try.prog n_lay c_lay := by
  refine valid_fn mixed hf_lay (by kernel_rfl) rfl (ts := tmpsOf f_lay.results.toList) (by kernel_rfl) (cfg := cfgW g_lay) tt_ok Γok_nil lay_tm c_lay (by kernel_rfl) (fun _ _ _ _ => ⟨⟩) ?_
  rintro ⟨(k : Key), (l : List Int), ⟨⟩⟩ r u h
  obtain ⟨h1, h2⟩ := grd_some h
  simp only [Bool.and_eq_true, decide_eq_true_eq] at h1 h2
  have hl := lenOk_lt h1.1
  refine ⟨l.length + 1, (lay_rn _ _ _).trans (Eq.trans ?_ (congrArg some h2))⟩
  unfold lay_P
  rw [br_dt (by omega), br_dt (lim_mul (by omega) (by decide)), br_dt (lim_le (by omega))]
  simp only [Int.toNat_natCast]
  have hlen : ∀ (ws : List Int) (a : Int), (layFrom k.1 a ws).length = ws.length := by
    intro ws
    induction ws with
    | nil => intro a; rfl
    | cons w ws ih => intro a; simp [layFrom, ih]
  have hget : ∀ (ws : List Int) (a : Int) (i : Nat), i < ws.length → (layFrom k.1 a ws)[i]? = some ((k.1, a + i), ws.getD i 0) := by
    intro ws
    induction ws with
    | nil => intro a i h; simp at h
    | cons w ws ih =>
      intro a i h
      cases i with
      | zero => simp [layFrom]
      | succ i =>
        simp only [layFrom, List.getElem?_cons_succ, ih (a + 1) i (by simpa using h), List.getD_cons_succ]
        congr 3
        push_cast; omega
  refine Eq.trans ?_ (loopN_for (step := lay_L1) (res := some ((layFrom k.1 k.2 l, ()), (), (), ())) l.length (fun i => ((k.1, k.2, ()), (layFrom k.1 k.2 l).take i ++ List.replicate (l.length - i) ((0, 0), 0), l, (l.length : Int), (i : Int), ())) (fun i hi rec => ?_) (fun rec => ?_) (l.length + 1) (by omega))
  · simp; rfl
  · have ht : (List.take i (layFrom k.1 k.2 l)).length = i := by rw [List.length_take, hlen]; omega
    simp only [lay_L1, Int.toNat_natCast]
    rw [br_dt (by omega), br_dt (by omega), br_dt (by omega), br_dt (by omega), br_dt (by rw [List.length_append, ht, List.length_replicate]; omega), wrapI (n := (i : Int) + 1) (by omega) (by omega), wrapI (by omega) (by omega)]
    congr 1
    refine Prod.ext rfl (Prod.ext ?_ rfl)
    show List.set (_ ++ _) i _ = _
    rw [List.set_append_right _ _ (by omega), ht, Nat.sub_self, show l.length - i = (l.length - (i + 1)) + 1 by omega, List.replicate_succ, List.set_cons_zero, List.take_add_one, hget l k.2 i hi]
    simp
  · simp only [lay_L1]
    rw [br_df (by omega), Nat.sub_self]
    have : List.take l.length (layFrom k.1 k.2 l) = layFrom k.1 k.2 l := List.take_of_length_le (by rw [hlen]; omega)
    rw [this]
    simp
/-- what is left from an address on -/
def tailS (t f to : Int) : List Spn := if f < to then [(t, f, to)] else []
theorem restGo_nil (t to f : Int) : restGo t to [] f = tailS t f to := rfl
theorem restGo_in {t to : Int} {c : Cel} {l : List Cel} {f : Int} (h : c.1.1 = t ∧ c.1.2 < to) : restGo t to (c :: l) f = tailS t f c.1.2 ++ restGo t to l (c.1.2 + 1) := by
  simp only [restGo, if_pos h]; rfl
theorem restGo_out {t to : Int} {c : Cel} {l : List Cel} {f : Int} (h : ¬ (c.1.1 = t ∧ c.1.2 < to)) : restGo t to (c :: l) f = tailS t f to := by
  simp only [restGo, if_neg h]; rfl
theorem tailS_len (t f to : Int) : (tailS t f to).length ≤ 1 := by unfold tailS; split <;> simp
theorem cntK_ge {l : List Cel} (hb : bufS l = true) (k : Key) (i : Nat) (z : Cel) (hi : i < l.length) (h : cntK l k ≤ i) : keyLt (l.getD i z).1 k = false := by
  cases hk : keyLt (l.getD i z).1 k with
  | false => rfl
  | true => have := (cntK_iff hb k i z hi).1 hk; omega
theorem app_tail {α : Type} {t f to : Int} {y : List Spn} {K : List Spn → Option α} (hy : y.length < 1500000) :
    br (decide (f < to)) (br (decide ((y.length + [(t, f, to)].length) * 24 ≤ LIM)) (br (decide (y.length + [(t, f, to)].length ≤ LIM)) (K (cat y [(t, f, to)])) none) none) (K y) = K (y ++ tailS t f to) := by
  unfold tailS
  by_cases h : f < to
  · rw [br_dt h, br_dt (lim_mul (by simp; omega) (by decide)), br_dt (lim_le (by simp; omega)), if_pos h]; rfl
  · rw [br_df h, if_neg h, List.append_nil]
theorem cut1_len (x s : Spn) : (cut1 x s).length ≤ 2 := by
  unfold cut1
  repeat' split
  all_goals simp
theorem cutS_snoc (l : List Spn) (x s : Spn) : cutS (l ++ [x]) s = cutS l s ++ cut1 x s := by simp [cutS]
theorem cutS_len (s : Spn) : ∀ l, (cutS l s).length ≤ 2 * l.length
  | [] => by simp [cutS]
  | x :: l => by
    have h1 := cutS_len s l
    have h2 := cut1_len x s
    unfold cutS at h1 ⊢
    rw [List.flatMap_cons, List.length_append, List.length_cons]
    omega
theorem cutS_app (a b : List Spn) (s : Spn) : cutS (a ++ b) s = cutS a s ++ cutS b s := by simp [cutS]
theorem cutS_past {t a e : Int} : ∀ {l : List Spn}, (∀ x ∈ l, x.2.2 ≤ a) → cutS l (t, a, e) = l
  | [], _ => rfl
  | x :: l, h => by
    have ih := cutS_past (t := t) (a := a) (e := e) (l := l) fun y hy => h y (List.mem_cons_of_mem _ hy)
    unfold cutS at ih ⊢
    rw [List.flatMap_cons, ih]
    have : cut1 x (t, a, e) = [x] := by
      unfold cut1
      rw [if_pos (.inr (.inl (h x List.mem_cons_self)))]
    rw [this]; rfl
theorem cutS_tail {t f to a : Int} (h1 : f ≤ a) (h2 : a < to) : cutS (tailS t f to) (t, a, a + 1) = tailS t f a ++ tailS t (a + 1) to := by
  unfold tailS
  rw [if_pos (by omega)]
  simp only [cutS, List.flatMap_cons, List.flatMap_nil, List.append_nil, cut1]
  rw [if_neg (fun h => h.elim (fun h => h rfl) (fun h => h.elim (fun h => by omega) (fun h => by omega)))]
theorem restGo_past {t to : Int} {l : List Cel} {f : Int} (h : ∀ c ∈ l, ¬ (c.1.1 = t ∧ c.1.2 < to)) : restGo t to l f = tailS t f to := by
  cases l with
  | nil => rfl
  | cons c l => exact restGo_out (h c List.mem_cons_self)
theorem v_rspanRight : Valid Try.prog n_rspanRight c_rspanRight := by
  refine valid_fn mixed hf_rspanRight (by kernel_rfl) rfl (ts := tmpsOf f_rspanRight.results.toList) (by kernel_rfl) (cfg := cfgW g_rspanRight) tt_ok Γok_nil rspanRight_tm c_rspanRight (by kernel_rfl) (fun _ _ _ _ => ⟨⟩) ?_
  rintro ⟨(s : Spn), ⟨⟩⟩ r u h
  refine ⟨0, (rspanRight_rn _ _).trans (Eq.trans ?_ h)⟩
  show rspanRight_P 0 s = some ((spanR s, ()), (), ())
  unfold rspanRight_P spanR
  by_cases c1 : 0 ≤ s.1
  · rw [br_dt c1, decide_eq_true c1, Bool.true_and]
    by_cases c2 : s.1 < 4
    · rw [br_dt (by omega), decide_eq_true c2, Bool.true_and]
      by_cases c3 : 0 ≤ s.2.1
      · rw [br_dt c3, decide_eq_true c3, Bool.true_and]
        by_cases c4 : s.2.2 ≤ 65536
        · rw [br_dt c4, decide_eq_true c4, Bool.true_and]
        · rw [br_df c4, decide_eq_false c4]; rfl
      · rw [br_df c3, decide_eq_false c3]; rfl
    · rw [br_df (by omega), decide_eq_false c2]; rfl
  · rw [br_df c1, decide_eq_false c1]; rfl
/-- what is still to be looked at behind p -/
def canonA (p : Spn) : List Spn → Bool
  | [] => true
  | b :: l => aheadS p b && canonS (b :: l)
theorem canonS_cons (a : Spn) (l : List Spn) : canonS (a :: l) = (spanR a && canonA a l) := by
  cases l with
  | nil => simp [canonS, canonA]
  | cons b l => simp [canonS, canonA]
theorem spn_at {l : List Spn} (h : spnOk l = true) (i : Nat) (hi : i < l.length) : -70000 ≤ (l.getD i (0, 0, 0)).2.1 ∧ (l.getD i (0, 0, 0)).2.1 ≤ 70000 ∧ -70000 ≤ (l.getD i (0, 0, 0)).2.2 ∧ (l.getD i (0, 0, 0)).2.2 ≤ 70000 := by
  have := List.all_eq_true.1 h (l.getD i (0, 0, 0)) (by rw [List.getD_eq_getElem?_getD, List.getElem?_eq_getElem hi]; exact List.getElem_mem _)
  simp only [Bool.and_eq_true, decide_eq_true_eq] at this
  exact this
theorem v_key : Valid Try.prog n_key c_key := by
  refine valid_fnc mixed hf_key (by kernel_rfl) rfl (cfg := cfgW g_key) tt_ok (Γok_cons v_within (Γok_cons v_digit Γok_nil)) key_tm c_key (by kernel_rfl) (fun _ _ _ _ => ⟨⟩) ?_
  rintro ⟨(k : Int), ⟨⟩⟩ r u h
  refine ⟨0, (key_rn _ _).trans (Eq.trans ?_ h)⟩
  show key_P 0 k = some ((keyS k, ()), (), ())
  unfold key_P keyS
  have h3 := digitS_range k 4 (n := 16) (by decide)
  rw [bd_grd (by rfl), bd_grd (by rfl), bd_grd (by rfl)]
  simp only
  rw [wrapI (n := 65535 - digitS k 4 16) (by omega) (by omega)]
  by_cases c1 : digitS k 64 16 = 0
  · rw [br_t (beq_iff_eq.2 c1), if_pos c1]
  · rw [br_f (beq_eq_false_iff_ne.2 c1), if_neg c1]
theorem v_cell : Valid Try.prog n_cell c_cell := by
  refine valid_fnc mixed hf_cell (by kernel_rfl) rfl (cfg := cfgW g_cell) tt_ok (Γok_cons v_key (Γok_cons v_digit Γok_nil)) cell_tm c_cell (by kernel_rfl) (fun _ _ _ _ => ⟨⟩) ?_
  rintro ⟨(k : Int), ⟨⟩⟩ r u h
  refine ⟨0, (cell_rn _ _).trans (Eq.trans ?_ h)⟩
  show cell_P 0 k = some ((cellS k, ()), (), ())
  unfold cell_P cellS
  have h3 := digitS_range k 1024 (n := 65536) (by decide)
  have hk := keyS_ok k
  have hk1 : (keyS k).1 = k % 4 := rfl
  rw [bd_grd (by rfl)]
  simp only [notf', mk_eta]
  rw [wrapW (n := digitS k 1024 65536) (by omega) (by omega), hk1]
  by_cases c1 : k % 4 < 2
  · rw [br_dt c1, if_pos c1, Int.tmod_eq_emod_of_nonneg (by omega)]
  · rw [br_df c1, if_neg c1]
theorem v_cells : Valid Try.prog n_cells c_cells := by
  refine valid_fn mixed hf_cells (by kernel_rfl) rfl (ts := tmpsOf f_cells.results.toList) (by kernel_rfl) (cfg := cfgW g_cells) tt_ok (Γok_cons v_cell (Γok_cons v_rput Γok_nil)) cells_tm c_cells (by kernel_rfl) (fun _ _ _ _ => ⟨⟩) ?_
  rintro ⟨(l : List Int), ⟨⟩⟩ r u h
  refine ⟨22, (cells_rn _ _).trans (Eq.trans ?_ h)⟩
  show cells_P 22 l = some ((cellsS l, ()), (), ())
  unfold cells_P
  have hlen : (l.take 20).length ≤ 20 ∧ (l.take 20).length ≤ l.length := by rw [List.length_take]; omega
  refine loopN_for (step := cells_L1) (l.take 20).length (fun i => (l, cellsR (l.take i), (i : Int), ())) (fun i hi rec => ?_) (fun rec => ?_) _ (by omega)
  · simp only [cells_L1, Int.toNat_natCast, mk_eta]
    have h20 : i < 20 ∧ i < l.length := by rw [List.length_take] at hi; omega
    have hb : bufS (cellsR (l.take i)) = true := foldl_buf _ _ rfl
    have hn : (cellsR (l.take i)).length ≤ 20 := by
      have := foldl_len (l.take i) []
      unfold cellsR
      rw [List.length_take] at this
      simp at this
      omega
    rw [br_dt (by omega), br_dt (by omega), br_dt (by omega), br_dt (by omega), bd_grd (by rw [hb]; simp [lenOk]; omega), wrapI (n := (i : Int) + 1) (by omega) (by omega)]
    simp only
    congr 1
    refine Prod.ext rfl (Prod.ext ?_ rfl)
    show putK _ _ = cellsR _
    rw [take_snoc l i 0 h20.2]
    unfold cellsR
    rw [List.foldl_append, putK_eq]
    rfl
  · simp only [cells_L1]
    rw [cellsS_eq]
    by_cases h : l.length ≤ 20
    · have e : l.take 20 = l := List.take_of_length_le h
      rw [e, br_df (by omega), List.take_length]
    · have e : (l.take 20).length = 20 := by rw [List.length_take]; omega
      rw [e, br_dt (by omega), br_df (by omega)]
end Go.BB
set_option linter.unusedSimpArgs false
set_option linter.unusedVariables false
namespace Go.BB
open Go
theorem putR_ne1 (l : List Cel) (c : Cel) : putR l c ≠ [] := by
  cases l with
  | nil => simp [putR]
  | cons a l =>
    rw [putR]
    split
    · simp
    · split <;> simp
theorem cellsS_ne1 {ks : List Int} (h : 0 < ks.length) : cellsS ks ≠ [] := by
  rw [cellsS_eq]
  have : ∀ (l : List Int) (b : List Cel), (b ≠ [] ∨ l ≠ []) → l.foldl (fun l k => putR l (cellS k)) b ≠ [] := by
    intro l
    induction l with
    | nil => intro b hb; exact hb.elim id (fun h => absurd rfl h)
    | cons k l ih =>
      intro b _
      exact ih _ (.inl (putR_ne1 b _))
  refine this _ _ (.inr ?_)
  intro e
  have := congrArg List.length e
  rw [List.length_take] at this
  simp only [List.length_nil] at this
  omega
end Go.BB
set_option linter.unusedSimpArgs false
set_option linter.unusedVariables false
namespace Go.BB
open Go Go.Proofs
set_option maxRecDepth 100000
theorem v_awake17 : Valid Try.prog n_awake17 c_awake17 := by
  refine valid_fn mixed hf_awake17 (by kernel_rfl) rfl (ts := tmpsOf f_awake17.results.toList) (by kernel_rfl) (cfg := cfgW g_awake17) tt_ok (Γok_cons v_stNew (Γok_cons v_stInstall (Γok_cons v_stRead (Γok_cons v_stVersions Γok_nil)))) [] c_awake17 (by kernel_rfl) (fun _ _ _ _ => ⟨⟩) ?_
  rintro ⟨⟩ r u h
  exact ⟨3, awake17_rn.trans h⟩
theorem stoEta (s : Sto) : ((s.1, s.2.1, s.2.2.1, s.2.2.2.1, ()) : Sto) = s := rfl
theorem okSt {α : Type} {s : Sto} {l : List α} (h : StoOk s) (hl : l.length < 1000000) : (stoOk s && lenOk l) = true := and_t ((stoOk_iff s).2 h) (decide_eq_true hl)
theorem okSt1 {s : Sto} (h : StoOk s) : stoOk s = true := (stoOk_iff s).2 h
theorem atV_one (a v q : Int) : atV [(a, v)] q = if a ≤ q then v else 0 := by unfold atV cnt; split <;> simp [cnt]
/-- turned -/
def turnS (r : Nat) (l : List Cel) : List Cel := l.drop r ++ l.take r
theorem turnS_perm (r : Nat) (l : List Cel) : (turnS r l).Perm l := by
  unfold turnS
  exact List.perm_append_comm.trans (by rw [List.take_append_drop])
theorem turnS_get (t : Int) (l : List Cel) (i : Nat) (hi : i < l.length) (z : Cel) : (turnS (t % 20 % (l.length : Int)).toNat l).getD i z = l.getD ((t % 20 + (i : Int)) % (l.length : Int)).toNat z := by
  have h0 := Int.emod_nonneg (t % 20) (show (l.length : Int) ≠ 0 by omega)
  have h1 := Int.emod_lt_of_pos (t % 20) (show (0 : Int) < l.length by omega)
  have h2 : (t % 20 + (i : Int)) % (l.length : Int) = (t % 20 % (l.length : Int) + i) % (l.length : Int) := by simp
  rw [h2]
  generalize t % 20 % (l.length : Int) = r at h0 h1
  unfold turnS
  by_cases h : i < l.length - r.toNat
  · rw [Int.emod_eq_of_lt (by omega) (by omega), getD_app_lt _ _ _ _ (by rw [List.length_drop]; omega)]
    rw [List.getD_eq_getElem?_getD, List.getElem?_drop, List.getD_eq_getElem?_getD, show r.toNat + i = (r + (i : Int)).toNat by omega]
  · have : (r + (i : Int)) % (l.length : Int) = r + i - l.length := by
      rw [← Int.sub_emod_right, Int.emod_eq_of_lt (by omega) (by omega)]
    rw [this, getD_app_ge _ _ _ _ (by rw [List.length_drop]; omega), List.length_drop]
    rw [List.getD_eq_getElem?_getD, List.getElem?_take, if_pos (by omega), List.getD_eq_getElem?_getD, show i - (l.length - r.toNat) = (r + (i : Int) - l.length).toNat by omega]
theorem onceS_perm {a b : List Cel} (h : a.Perm b) (hb : onceS b = true) : onceS a = true := by
  rw [onceS_iff] at hb ⊢
  refine ⟨fun c hc => hb.1 c (h.mem_iff.1 hc), ?_, fun e => hb.2.2 ?_⟩
  · unfold nodupK at hb ⊢
    exact ((h.map (·.1)).nodup_iff).2 hb.2.1
  · subst e; exact List.nil_perm.1 h
theorem onceS_more {m : List Cel} {x : Cel} (h : x ∈ m ∨ celR x = false) : onceS (m ++ [x]) = false := by
  rw [← Bool.not_eq_true, onceS_iff]
  rintro ⟨h1, h2, _⟩
  rcases h with h | h
  · unfold nodupK at h2
    rw [List.map_append, List.nodup_append] at h2
    exact h2.2.2 x.1 (List.mem_map.2 ⟨x, h, rfl⟩) x.1 (by simp) rfl
  · have := h1 x (by simp)
    rw [h] at this; cases this
def ordSt (l : List Cel) : Sto := (1, (l.length : Int), 100, laidAll 1 [] l, ())
theorem ord_inst {l : List Cel} (h : onceS l = true) (hl : l.length ≤ 20) : instS (stNewS 0 100) l = ((1, 0), ordSt l) ∧ StoOk (ordSt l) := by
  have e1 : instS (stNewS 0 100) l = ((1, 0), ordSt l) := by
    rw [instS_new h (by decide) (by show (l.length : Int) ≤ 100 - 0; omega)]
    unfold stNewS ordSt
    congr 1
    congr 1
    congr 1
    show (0 : Int) + (l.length : Int) = _
    omega
  have e2 := instS_ok (stNewS_ok (f := 0) 100 (by decide) (by decide)) (l := l) (by show (0 : Int) + l.length ≤ 500000; omega)
  rw [e1] at e2
  exact ⟨e1, e2⟩
theorem ord_read {l : List Cel} (h : nodupK l) {c : Cel} (hc : c ∈ l) : atV (chnOf (ordSt l).2.2.2.1 c.1) 1 = c.2 := by
  show atV (chnOf (laidAll 1 [] l) c.1) 1 = _
  rw [chnOf_laidAll _ _ _ _ h, find_mem h hc]
  simp only [chnOf_nil, List.nil_append]
  rw [atV_one]; rfl
theorem memD {l : List Cel} {i : Nat} (h : i < l.length) : l.getD i ((0, 0), 0) ∈ l := by
  rw [List.getD_eq_getElem?_getD, List.getElem?_eq_getElem h]; exact List.getElem_mem h
theorem celEta (c : Cel) : ((c.1.1, c.1.2), c.2) = c := rfl
theorem keyEta (c : Cel) : (c.1.1, c.1.2) = c.1 := rfl
theorem ord_L1 {l m : List Cel} (hp : m.Perm l) (ho : onceS l = true) (hl : l.length ≤ 20) (K : Nat) (hK : 20 < K) : loopN lStoreOrders_L1 K (l, ordSt l, ordSt m, 0, ()) = some ((true, ()), (), (), (), ()) := by
  have hlen := hp.length_eq
  have ok1 := (ord_inst ho hl).2
  have ok2 := (ord_inst (onceS_perm hp ho) (by omega)).2
  have n1 := ((onceS_iff l).1 ho).2.1
  have n2 := ((onceS_iff m).1 (onceS_perm hp ho)).2.1
  refine loopN_for l.length (fun i => (l, ordSt l, ordSt m, (i : Int), ())) (fun i hi rec => ?_) (fun rec => ?_) K (by omega)
  · have hm := memD hi
    have e1 := ord_read n1 hm
    have e2 := ord_read n2 (hp.mem_iff.2 hm)
    simp only [lStoreOrders_L1, stoEta, Int.toNat_natCast]
    generalize l.getD i ((0, 0), 0) = c at hm e1 e2
    simp only [keyEta]
    rw [br_dt (by omega), br_dt (by omega), br_dt (by omega), bd_grd (okSt1 ok1), br_dt (by omega), br_dt (by omega)]
    simp only [e1]
    rw [br_f (by simp), br_dt (by omega), br_dt (by omega), bd_grd (okSt1 ok2), br_dt (by omega), br_dt (by omega)]
    simp only [e2]
    rw [br_f (by simp), wrapI (by omega) (by omega)]
    rfl
  · simp only [lStoreOrders_L1, stoEta]
    rw [br_df (by omega)]
    have : (ordSt m).2.1 = (l.length : Int) := by show (m.length : Int) = _; omega
    rw [this]
    have : (ordSt l).2.1 = (l.length : Int) := rfl
    rw [this, br_t (by simp)]
    simp
theorem lv_StoreOrders : Valid Try.prog n_lStoreOrders ⟨valsOf [.slice tI, tI, tI], [.val .bool], Fok (tys := [.slice tI, tI, tI]) (fun _ => true) ((), (), (), ())⟩ := by
  refine valid_law mixed hf_lStoreOrders (by kernel_rfl) rfl (ts := tmpsOf f_lStoreOrders.results.toList) (by kernel_rfl) (cfg := cfgW g_lStoreOrders) tt_ok
    (Γok_cons v_awake17 (Γok_cons v_cells (Γok_cons v_within (Γok_cons v_stNew (Γok_cons v_stInstall (Γok_cons v_stLast (Γok_cons v_stVersions (Γok_cons v_stKeys (Γok_cons v_stRead Γok_nil))))))))) lStoreOrders_tm (by kernel_rfl) ?_
  rintro ⟨(ks : List Int), (turn : Int), (bad : Int), ⟨⟩⟩ _
  refine ⟨30, (lStoreOrders_rn _ _ _ _).trans ?_⟩
  unfold lStoreOrders_P
  by_cases h1 : (ks.length : Int) < 1
  · rw [br_dt h1]; rfl
  by_cases h2 : (ks.length : Int) > 20
  · rw [br_df h1, br_dt h2]; rfl
  rw [br_df h1, br_df h2, brNT]
  have hl := cellsS_len ks
  have hb := cellsS_buf ks
  have hne : cellsS ks ≠ [] := cellsS_ne1 (by omega)
  have ho := onceS_cells hne
  generalize cellsS ks = l at hl hb hne ho
  have hp0 : 0 < l.length := List.length_pos_iff.2 hne
  simp only [stoEta]
  have t0 := Int.emod_nonneg turn (show (20 : Int) ≠ 0 by decide)
  have t1 := Int.emod_lt_of_pos turn (show (0 : Int) < 20 by decide)
  have hp := turnS_perm (turn % 20 % (l.length : Int)).toNat l
  have hget := turnS_get turn l
  generalize turnS (turn % 20 % (l.length : Int)).toNat l = m at hp hget
  have hlen := hp.length_eq
  have hstep : ∀ i, i < l.length → ∀ rec, lStoreOrders_L2 30 rec (turn, bad, l, stNewS 0 100, stNewS 0 100, m.take i, (i : Int), ()) = rec (turn, bad, l, stNewS 0 100, stNewS 0 100, m.take (i + 1), ((i + 1 : Nat) : Int), ()) := by
    intro i hi rec
    simp only [lStoreOrders_L2, stoEta, celEta]
    rw [br_dt (by omega), bd_grd (by decide)]
    simp only
    rw [bd_grd (and_t (decide_eq_true (by omega)) (decide_eq_true (by omega))), wrapI (by omega) (by omega)]
    simp only
    have a0 := Int.emod_nonneg (turn % 20 + (i : Int)) (show (l.length : Int) ≠ 0 by omega)
    have a1 := Int.emod_lt_of_pos (turn % 20 + (i : Int)) (show (0 : Int) < l.length by omega)
    have hti : (m.take i).length = i := by rw [List.length_take]; omega
    rw [br_dt (by omega), br_dt (by omega), ← hget i hi, br_dt (by rw [hti]; simp only [List.length_singleton, LIM]; omega), br_dt (by rw [hti]; simp only [List.length_singleton, LIM]; omega), wrapI (by omega) (by omega)]
    rw [take_snoc m i ((0, 0), 0) (by omega)]
    rfl
  refine loopN_for (step := lStoreOrders_L2 30) l.length (fun i => (turn, bad, l, stNewS 0 100, stNewS 0 100, m.take i, (i : Int), ())) hstep (fun rec => ?_) 30 (by omega)
  rw [← hlen, List.take_length]
  simp only [lStoreOrders_L2, stoEta, celEta]
  have ok0 := stNewS_ok (f := 0) 100 (by decide) (by decide)
  obtain ⟨e1, _⟩ := ord_inst ho hl
  obtain ⟨e2, _⟩ := ord_inst (onceS_perm hp ho) (by omega)
  rw [br_df (by omega), bd_grd (okSt ok0 (by omega)), e1]
  simp only
  rw [br_dt (by omega), bd_grd (by decide)]
  simp only
  have b0 := Int.emod_nonneg bad (show (5 : Int) ≠ 0 by decide)
  have b1 := Int.emod_lt_of_pos bad (show (0 : Int) < 5 by decide)
  have hx : ∀ x : Cel, (x = [m.getD (Int.toNat 0) ((0, 0), 0), ((4, 0), 0), ((-1, 0), 0), ((2, 65536), 0), ((1, 300), 2)].getD (bad % 5).toNat ((0, 0), 0)) → onceS (m ++ [x]) = false := by
    intro x hx
    refine onceS_more ?_
    have hb5 : (bad % 5).toNat < 5 := by omega
    generalize (bad % 5).toNat = b at hx hb5
    have hm0 : m.getD (Int.toNat 0) ((0, 0), 0) ∈ m := memD (i := 0) (by omega)
    generalize m.getD (Int.toNat 0) ((0, 0), 0) = m0 at hx hm0
    match b, hb5 with
    | 0, _ => exact .inl (by rw [hx]; exact hm0)
    | 1, _ => exact .inr (by rw [hx]; rfl)
    | 2, _ => exact .inr (by rw [hx]; rfl)
    | 3, _ => exact .inr (by rw [hx]; rfl)
    | 4, _ => exact .inr (by rw [hx]; rfl)
  generalize hxx : [m.getD (Int.toNat 0) ((0, 0), 0), ((4, 0), 0), ((-1, 0), 0), ((2, 65536), 0), ((1, 300), 2)].getD (bad % 5).toNat ((0, 0), 0) = x
  have hx1 := hx x hxx.symm
  have e3 : instS (stNewS 0 100) (cat m [x]) = ((0, 1), stNewS 0 100) := by
    show instS (stNewS 0 100) (m ++ [x]) = _
    unfold instS
    rw [hx1]; rfl
  have hc : (cat m [x]).length = m.length + 1 := by show (m ++ [x]).length = _; simp
  rw [br_dt (by omega), br_dt (by push_cast; omega), br_dt (by simp only [LIM]; omega), br_dt (by simp only [LIM]; omega), br_dt (by simp only [List.length_singleton, LIM]; omega), br_dt (by simp only [List.length_singleton, LIM]; omega), bd_grd (okSt ok0 (by omega)), e3]
  simp only
  rw [br_f (by decide), br_f (by decide), br_f (by decide), br_f (by decide)]
  have ok0' : StoOk ((stNewS 0 100).1, (stNewS 0 100).2.1, (stNewS 0 100).2.2.1, (stNewS 0 100).2.2.2.1, ()) := ok0
  rw [bd_grd (okSt ok0 (by omega)), e2]
  simp only
  rw [br_f (by decide), br_f (by decide), br_f (by decide), br_f (by decide)]
  exact ord_L1 hp ho hl 30 (by omega)
end Go.BB
