/- A symbolic machine for the model's code, and what it shows of this seat's functions. No conditions. -/
import Derived.Test.YtnofmeckcimodaaESFdo
import Derived.Test.YtnofmeckcimodaaEVfdo
import Derived.Test.YtnofmeckcimodaaEGbuff
set_option linter.unusedSimpArgs false
set_option linter.unusedVariables false
namespace Go.BB
open Go
theorem keyLt_iff {a b : Key} : keyLt a b = true ↔ a.1 < b.1 ∨ (a.1 = b.1 ∧ a.2 < b.2) := by simp [keyLt]
theorem keyLt_false {a b : Key} : keyLt a b = false ↔ ¬ (a.1 < b.1 ∨ (a.1 = b.1 ∧ a.2 < b.2)) := by rw [← keyLt_iff]; simp
theorem key_eq {a b : Key} (h1 : a.1 = b.1) (h2 : a.2 = b.2) : a = b := Prod.ext h1 h2
theorem keyLt_irrefl (a : Key) : keyLt a a = false := by rw [keyLt_false]; omega
theorem keyLt_trans {a b c : Key} (h1 : keyLt a b = true) (h2 : keyLt b c = true) : keyLt a c = true := by rw [keyLt_iff] at *; omega
theorem keyLt_asymm {a b : Key} (h1 : keyLt a b = true) : keyLt b a = false := by rw [keyLt_iff] at h1; rw [keyLt_false]; omega
theorem keyLt_total {a b : Key} (h1 : keyLt a b = false) (h2 : keyLt b a = false) : a = b := by
  rw [keyLt_false] at h1 h2
  exact key_eq (by omega) (by omega)
theorem keyLt_ne {a b : Key} (h : keyLt a b = true) : a ≠ b := by rintro rfl; rw [keyLt_irrefl] at h; cases h
/-- how two keys stand -/
theorem key_three (a b : Key) : (keyLt a b = true ∧ a ≠ b ∧ keyLt b a = false) ∨ (a = b ∧ keyLt a b = false) ∨ (keyLt a b = false ∧ a ≠ b ∧ keyLt b a = true) := by
  cases h : keyLt a b with
  | true => exact .inl ⟨rfl, keyLt_ne h, keyLt_asymm h⟩
  | false =>
    cases h2 : keyLt b a with
    | true => exact .inr (.inr ⟨rfl, fun e => keyLt_ne h2 e.symm, rfl⟩)
    | false => exact .inr (.inl ⟨keyLt_total h h2, rfl⟩)
/-! buffers -/
theorem bufS_cons : ∀ {a : Cel} {l : List Cel}, bufS (a :: l) = true ↔ (∀ c ∈ l, keyLt a.1 c.1 = true) ∧ bufS l = true
  | a, [] => by simp [bufS]
  | a, b :: l => by
    have ih := bufS_cons (a := b) (l := l)
    simp only [bufS, Bool.and_eq_true]
    rw [ih]
    constructor
    · rintro ⟨h1, h2, h3⟩
      refine ⟨fun c hc => ?_, h2, h3⟩
      rcases List.mem_cons.1 hc with rfl | hc
      · exact h1
      · exact keyLt_trans h1 (h2 c hc)
    · rintro ⟨h1, h2, h3⟩
      exact ⟨h1 b List.mem_cons_self, h2, h3⟩
theorem bufS_lt : ∀ {l : List Cel}, bufS l = true → ∀ (i j : Nat) (z : Cel), i < j → j < l.length → keyLt (l.getD i z).1 (l.getD j z).1 = true
  | [], _, _, j, _, _, h => by simp at h
  | a :: l, hb, i, j, z, hij, hj => by
    rw [bufS_cons] at hb
    match i, j, hij with
    | 0, j + 1, _ =>
      simp only [List.getD_cons_zero, List.getD_cons_succ]
      refine hb.1 _ ?_
      rw [List.getD_eq_getElem?_getD, List.getElem?_eq_getElem (by simpa using hj)]
      exact List.getElem_mem _
    | i + 1, j + 1, hij => simpa using bufS_lt hb.2 i j z (by omega) (by simpa using hj)
theorem cntK_le : ∀ (l : List Cel) (k : Key), cntK l k ≤ l.length
  | [], _ => by simp [cntK]
  | a :: l, k => by
    have := cntK_le l k
    simp only [cntK, List.length_cons]
    split <;> omega
theorem cntK_lt : ∀ (l : List Cel) (k : Key) (i : Nat) (z : Cel), i < cntK l k → keyLt (l.getD i z).1 k = true
  | [], _, _, _, h => by simp [cntK] at h
  | a :: l, k, i, z, h => by
    simp only [cntK] at h
    split at h
    · rename_i ha
      cases i with
      | zero => simpa using ha
      | succ i => simpa using cntK_lt l k i z (by omega)
    · omega
theorem cntK_stop : ∀ (l : List Cel) (k : Key) (z : Cel), cntK l k < l.length → keyLt (l.getD (cntK l k) z).1 k = false
  | [], _, _, h => by simp [cntK] at h
  | a :: l, k, z, h => by
    simp only [cntK] at h ⊢
    split
    · rename_i ha
      rw [if_pos ha] at h
      simpa using cntK_stop l k z (by simpa using h)
    · rename_i ha
      simpa using ha
theorem cntK_iff {l : List Cel} (hb : bufS l = true) (k : Key) (i : Nat) (z : Cel) (hi : i < l.length) : keyLt (l.getD i z).1 k = true ↔ i < cntK l k := by
  constructor
  · intro h
    apply Classical.byContradiction
    intro hn
    have hlt : cntK l k < l.length := by omega
    have hs := cntK_stop l k z hlt
    by_cases e : cntK l k = i
    · rw [e, h] at hs; cases hs
    · have := keyLt_trans (bufS_lt hb (cntK l k) i z (by omega) hi) h
      rw [this] at hs; cases hs
  · exact cntK_lt l k i z
/-! puts and gets, by recursion -/
def putR : List Cel → Cel → List Cel
  | [], c => [c]
  | a :: l, c => if keyLt a.1 c.1 then a :: putR l c else if a.1 = c.1 then c :: l else c :: a :: l
def getR : List Cel → Key → Option Int
  | [], _ => none
  | a :: l, k => if keyLt a.1 k then getR l k else if a.1 = k then some a.2 else none
theorem hasK_cons_lt {a : Cel} {l : List Cel} {k : Key} (h : keyLt a.1 k = true) : hasK (a :: l) k = hasK l k := by
  simp [hasK, cntK, h]
theorem hasK_cons_ge {a : Cel} {l : List Cel} {k : Key} (h : keyLt a.1 k = false) : hasK (a :: l) k = decide (a.1 = k) := by
  simp [hasK, cntK, h]
theorem putK_eq : ∀ (l : List Cel) (c : Cel), putK l c = putR l c
  | [], c => by simp [putK, putR, cntK, hasK]
  | a :: l, c => by
    have ih := putK_eq l c
    unfold putK at ih ⊢
    cases h : keyLt a.1 c.1 with
    | true =>
      rw [hasK_cons_lt h]
      simp only [cntK, putR, h, if_true, List.take_succ_cons]
      rw [← ih]
      cases hasK l c.1 <;> simp
    | false =>
      rw [hasK_cons_ge h]
      simp only [cntK, putR, h]
      by_cases e : a.1 = c.1
      · simp [e]
      · simp [e]
theorem getK_eq : ∀ (l : List Cel) (k : Key), getK l k = match getR l k with | some v => (v, true) | none => (0, false)
  | [], k => by simp [getK, getR, hasK, cntK]
  | a :: l, k => by
    have ih := getK_eq l k
    unfold getK at ih ⊢
    cases h : keyLt a.1 k with
    | true =>
      rw [hasK_cons_lt h]
      simp only [cntK, getR, h, if_true, List.getD_cons_succ]
      exact ih
    | false =>
      rw [hasK_cons_ge h]
      simp only [cntK, getR, h]
      by_cases e : a.1 = k <;> simp [e]
theorem mem_putR {x : Cel} : ∀ {l : List Cel} {c : Cel}, x ∈ putR l c → x = c ∨ x ∈ l
  | [], c, h => by simp [putR] at h; exact .inl h
  | a :: l, c, h => by
    simp only [putR] at h
    split at h
    · rcases List.mem_cons.1 h with h | h
      · exact .inr (h ▸ List.mem_cons_self)
      · rcases mem_putR h with h | h
        · exact .inl h
        · exact .inr (List.mem_cons_of_mem _ h)
    · split at h
      · rcases List.mem_cons.1 h with h | h
        · exact .inl h
        · exact .inr (List.mem_cons_of_mem _ h)
      · rcases List.mem_cons.1 h with h | h
        · exact .inl h
        · exact .inr h
theorem bufS_put : ∀ {l : List Cel} (c : Cel), bufS l = true → bufS (putR l c) = true
  | [], c, _ => rfl
  | a :: l, c, h => by
    have h' := bufS_cons.1 h
    simp only [putR]
    split
    · rename_i ha
      refine bufS_cons.2 ⟨fun x hx => ?_, bufS_put c h'.2⟩
      rcases mem_putR hx with rfl | hx
      · exact ha
      · exact h'.1 x hx
    · rename_i ha
      split
      · rename_i e
        refine bufS_cons.2 ⟨fun x hx => ?_, h'.2⟩
        rw [← e]; exact h'.1 x hx
      · rename_i e
        have hca : keyLt c.1 a.1 = true := by
          rcases key_three a.1 c.1 with h | h | h
          · exact absurd h.1 ha
          · exact absurd h.1 e
          · exact h.2.2
        refine bufS_cons.2 ⟨fun x hx => ?_, h⟩
        rcases List.mem_cons.1 hx with rfl | hx
        · exact hca
        · exact keyLt_trans hca (h'.1 x hx)
theorem getR_put : ∀ {l : List Cel} (c : Cel) (k : Key), bufS l = true → getR (putR l c) k = if k = c.1 then some c.2 else getR l k
  | [], c, k, _ => by
    simp only [putR, getR]
    rcases key_three c.1 k with ⟨h1, h2, _⟩ | ⟨rfl, h1⟩ | ⟨h1, h2, _⟩
    · simp [h1, h2.symm]
    · simp [h1]
    · simp [h1, h2, h2.symm]
  | a :: l, c, k, h => by
    have h' := bufS_cons.1 h
    have ih := getR_put (l := l) c k h'.2
    simp only [putR]
    rcases key_three a.1 c.1 with ⟨h1, h2, h3⟩ | ⟨h1, h2⟩ | ⟨h1, h2, h3⟩
    · rw [if_pos h1]
      simp only [getR, ih]
      rcases key_three a.1 k with ⟨k1, k2, k3⟩ | ⟨k1, k2⟩ | ⟨k1, k2, k3⟩
      · simp [k1]
      · subst k1; simp [k2, h2]
      · have : k ≠ c.1 := by rintro rfl; rw [h1] at k1; cases k1
        simp [k1, k2, this]
    · rw [if_neg (by rw [h2]; decide), if_pos h1]
      simp only [getR]
      rw [← h1]
      rcases key_three a.1 k with ⟨k1, k2, k3⟩ | ⟨k1, k2⟩ | ⟨k1, k2, k3⟩
      · simp [k1, k2.symm]
      · subst k1; simp [k2]
      · simp [k1, k2, k2.symm]
    · rw [if_neg (by rw [h1]; decide), if_neg h2]
      simp only [getR]
      rcases key_three c.1 k with ⟨k1, k2, k3⟩ | ⟨k1, k2⟩ | ⟨k1, k2, k3⟩
      · simp [k1, k2.symm]
      · subst k1; simp [k2]
      · have hka : keyLt k a.1 = true := keyLt_trans k3 h3
        simp [k1, k2, k2.symm, keyLt_asymm hka, (keyLt_ne hka).symm]
theorem putR_len : ∀ (l : List Cel) (c : Cel), (putR l c).length ≤ l.length + 1
  | [], _ => by simp [putR]
  | a :: l, c => by
    have := putR_len l c
    simp only [putR]
    split
    · simp only [List.length_cons]; omega
    · split <;> simp
/-! what is made by numbers -/
def cellsR (ks : List Int) : List Cel := ks.foldl (fun l k => putR l (cellS k)) []
theorem cellsS_eq (ks : List Int) : cellsS ks = cellsR (ks.take 20) := by
  unfold cellsS cellsR
  congr 1
  funext l k
  exact putK_eq l _
theorem foldl_buf (ks : List Int) : ∀ l, bufS l = true → bufS (ks.foldl (fun l k => putR l (cellS k)) l) = true := by
  induction ks with
  | nil => intro l h; exact h
  | cons k ks ih => intro l h; exact ih _ (bufS_put _ h)
theorem foldl_len (ks : List Int) : ∀ l : List Cel, (ks.foldl (fun l k => putR l (cellS k)) l).length ≤ l.length + ks.length := by
  induction ks with
  | nil => intro l; simp
  | cons k ks ih =>
    intro l
    have h1 := ih (putR l (cellS k))
    have h2 := putR_len l (cellS k)
    simp only [List.foldl_cons, List.length_cons]
    omega
theorem cellsS_len (ks : List Int) : (cellsS ks).length ≤ 20 := by
  rw [cellsS_eq]
  have := foldl_len (ks.take 20) []
  unfold cellsR
  simp at this
  omega
theorem keyS_ok (k : Int) : 0 ≤ (keyS k).1 ∧ (keyS k).1 < 4 ∧ 0 ≤ (keyS k).2 ∧ (keyS k).2 < 65536 := by
  have h1 := Int.emod_nonneg k (show (4 : Int) ≠ 0 by decide)
  have h2 := Int.emod_lt_of_pos k (show (0 : Int) < 4 by decide)
  have h3 := digitS_range k 4 (n := 16) (by decide)
  unfold keyS
  simp only
  split <;> omega
theorem spanR_iff {s : Spn} : spanR s = true ↔ 0 ≤ s.1 ∧ s.1 < 4 ∧ 0 ≤ s.2.1 ∧ s.2.2 ≤ 65536 ∧ s.2.1 < s.2.2 := by simp [spanR]
end Go.BB
set_option linter.unusedSimpArgs false
set_option linter.unusedVariables false
namespace Go.BB
open Go Go.Proofs
set_option maxRecDepth 100000
theorem mk_eta {α β : Type} (p : α × β) : (p.1, p.2) = p := rfl
theorem notf' {α : Type} {x y : α} : br (!false) x y = x := rfl
theorem key_beq (a b : Key) : (a.1 == b.1 && a.2 == b.2) = decide (a = b) := by
  rw [← Bool.coe_iff_coe]
  simp only [Bool.and_eq_true, beq_iff_eq, decide_eq_true_eq]
  exact ⟨fun h => Prod.ext h.1 h.2, fun h => by subst h; exact ⟨rfl, rfl⟩⟩
theorem v_rless : Valid Try.prog n_rless c_rless := by
  refine valid_fn mixed hf_rless (by kernel_rfl) rfl (ts := tmpsOf f_rless.results.toList) (by kernel_rfl) (cfg := cfgW g_rless) tt_ok Γok_nil rless_tm c_rless (by kernel_rfl) (fun _ _ _ _ => ⟨⟩) ?_
  rintro ⟨(a : Key), (b : Key), ⟨⟩⟩ r u h
  refine ⟨0, (rless_rn _ _ _).trans (Eq.trans ?_ h)⟩
  show rless_P 0 a b = some ((keyLt a b, ()), ((), (), ()))
  unfold rless_P keyLt
  by_cases h1 : a.1 < b.1
  · rw [br_dt h1]; simp [h1]
  · rw [br_df h1]
    by_cases h2 : a.1 = b.1
    · rw [br_t (by simp [h2])]; simp [h2]
    · rw [br_f (by simp [h2])]; simp [h1, h2]
theorem v_rbfind : Valid Try.prog n_rbfind c_rbfind := by
  refine valid_fn mixed hf_rbfind (by kernel_rfl) rfl (ts := tmpsOf f_rbfind.results.toList) (by kernel_rfl) (cfg := cfgW g_rbfind) tt_ok (Γok_cons v_rless Γok_nil) rbfind_tm c_rbfind (by kernel_rfl) (fun _ _ _ _ => ⟨⟩) ?_
  rintro ⟨(l : List Cel), (k : Key), ⟨⟩⟩ r u h
  obtain ⟨h1, h2⟩ := grd_some h
  simp only [Bool.and_eq_true] at h1 h2
  have hl := lenOk_lt h1.1
  refine ⟨l.length + 1, (rbfind_rn _ _ _).trans (Eq.trans ?_ (congrArg some h2))⟩
  unfold rbfind_P
  have hc := cntK_le l k
  refine loopN_meas (step := rbfind_L1) (fun x => x.2.2.2.1.toNat - x.2.2.1.toNat) (fun x => ∃ (a b : Nat), a ≤ cntK l k ∧ cntK l k ≤ b ∧ b ≤ l.length ∧ x = (l, (k.1, k.2, ()), (a : Int), (b : Int), ())) (fun _ => some ((((cntK l k : Nat) : Int), hasK l k, ()), (), (), ())) ?_ _ _ ⟨0, l.length, by omega, by omega, by omega, rfl⟩ (by simp only; omega)
  rintro x ⟨a, b, ha, hb, hbl, rfl⟩ rec hrec
  simp only [rbfind_L1, notf', mk_eta]
  by_cases h : a < b
  · have e : IntKind.i64.wrap ((IntKind.i64.wrap ((a : Int) + b)).tdiv 2) = (((a + b) / 2 : Nat) : Int) := by
      rw [wrapI (n := (a : Int) + b) (by omega) (by omega), Int.tdiv_eq_ediv_of_nonneg (by omega), wrapI (by omega) (by omega)]; omega
    rw [br_dt (by omega), e, br_dt (by omega), br_dt (by omega), Int.toNat_natCast]
    have hi := cntK_iff h1.2 k ((a + b) / 2) ((0, 0), 0) (by omega)
    by_cases hv : keyLt (l.getD ((a + b) / 2) ((0, 0), 0)).1 k = true
    · rw [br_t hv, wrapI (by omega) (by omega)]
      have := hi.1 hv
      exact hrec _ ⟨(a + b) / 2 + 1, b, by omega, hb, hbl, by simp⟩ (by simp only; omega)
    · rw [br_f (by simpa using hv)]
      have : ¬ (a + b) / 2 < cntK l k := fun h => hv (hi.2 h)
      exact hrec _ ⟨a, (a + b) / 2, ha, by omega, by omega, rfl⟩ (by simp only; omega)
  · have e : a = cntK l k := by omega
    subst e
    rw [br_df (by omega)]
    unfold hasK
    by_cases hlt : cntK l k < l.length
    · rw [br_dt (by omega), br_dt (by omega), br_dt (by omega), Int.toNat_natCast, key_beq, decide_eq_true hlt, Bool.true_and]
    · rw [br_df (by omega), decide_eq_false hlt]; rfl
theorem hasK_lt {l : List Cel} {k : Key} (h : hasK l k = true) : cntK l k < l.length := by
  simp [hasK] at h; exact h.1
theorem v_rbget : Valid Try.prog n_rbget c_rbget := by
  refine valid_fn mixed hf_rbget (by kernel_rfl) rfl (ts := tmpsOf f_rbget.results.toList) (by kernel_rfl) (cfg := cfgW g_rbget) tt_ok (Γok_cons v_rbfind Γok_nil) rbget_tm c_rbget (by kernel_rfl) (fun _ _ _ _ => ⟨⟩) ?_
  rintro ⟨(l : List Cel), (k : Key), ⟨⟩⟩ r u h
  obtain ⟨h1, h2⟩ := grd_some h
  simp only at h1 h2
  refine ⟨0, (rbget_rn _ _ _).trans (Eq.trans ?_ (congrArg some h2))⟩
  unfold rbget_P getK
  rw [bd_grd h1]
  simp only [mk_eta, Int.toNat_natCast]
  cases hk : hasK l k with
  | true =>
    have hlt := hasK_lt hk
    rw [br_f (by rfl), br_dt (by omega), br_dt (by omega)]; rfl
  | false => rw [br_t (by rfl)]; rfl
theorem v_rput : Valid Try.prog n_rput c_rput := by
  refine valid_fn mixed hf_rput (by kernel_rfl) rfl (ts := tmpsOf f_rput.results.toList) (by kernel_rfl) (cfg := cfgW g_rput) tt_ok (Γok_cons v_rbfind Γok_nil) rput_tm c_rput (by kernel_rfl) (fun _ _ _ _ => ⟨⟩) ?_
  rintro ⟨(l : List Cel), (c : Cel), ⟨⟩⟩ r u h
  obtain ⟨h1, h2⟩ := grd_some h
  simp only at h1 h2
  have hl := lenOk_lt (Bool.and_eq_true _ _ ▸ h1 : _ ∧ _).1
  refine ⟨0, (rput_rn _ _ _).trans (Eq.trans ?_ (congrArg some h2))⟩
  unfold rput_P putK
  have hc := cntK_le l c.1
  rw [bd_grd h1]
  simp only [mk_eta, Int.toNat_natCast]
  rw [br_dt (by omega), br_dt (by omega), br_dt (lim_mul (by simp; omega) (by decide)), br_dt (lim_le (by simp; omega)), br_dt (lim_mul (by simp; omega) (by decide)), br_dt (lim_le (by simp; omega))]
  cases hk : hasK l c.1 with
  | true =>
    have hlt := hasK_lt hk
    have e2 : IntKind.i64.wrap ((cntK l c.1 : Int) + 1) = ((cntK l c.1 + 1 : Nat) : Int) := (wrapI (by omega) (by omega)).trans (by omega)
    simp only [e2, Int.toNat_natCast]
    have e3 : List.take (l.length - (cntK l c.1 + 1)) (List.drop (cntK l c.1 + 1) l) = List.drop (cntK l c.1 + 1) l := List.take_of_length_le (by simp)
    simp only [e3]
    rw [br_t rfl, br_dt (by omega), br_dt (by omega), br_dt (lim_mul (by simp [cat]; omega) (by decide)), br_dt (lim_le (by simp [cat]; omega))]
    simp [cat]
    rfl
  | false =>
    have e3 : List.take (l.length - cntK l c.1) (List.drop (cntK l c.1) l) = List.drop (cntK l c.1) l := List.take_of_length_le (by simp)
    simp only [e3]
    rw [br_f rfl, br_dt (by omega), br_dt (by omega), br_dt (lim_mul (by simp [cat]; omega) (by decide)), br_dt (lim_le (by simp [cat]; omega))]
    simp [cat]
    rfl
end Go.BB
set_option linter.unusedSimpArgs false
set_option linter.unusedVariables false
namespace Go.BB
open Go Go.Proofs
set_option maxRecDepth 100000
theorem v_lay : Valid Try.prog n_lay c_lay := by
  refine valid_fn mixed hf_lay (by kernel_rfl) rfl (ts := tmpsOf f_lay.results.toList) (by kernel_rfl) (cfg := cfgW g_lay) tt_ok Γok_nil lay_tm c_lay (by kernel_rfl) (fun _ _ _ _ => ⟨⟩) ?_
  rintro ⟨(k : Key), (l : List Int), ⟨⟩⟩ r u h
  obtain ⟨h1, h2⟩ := grd_some h
  simp only [Bool.and_eq_true, decide_eq_true_eq] at h1 h2
  have hl := lenOk_lt h1.1
  refine ⟨l.length + 1, (lay_rn _ _ _).trans (Eq.trans ?_ (congrArg some h2))⟩
  unfold lay_P
  rw [br_dt (by omega), br_dt (lim_mul (by omega) (by decide)), br_dt (lim_le (by omega))]
  simp only [Int.toNat_natCast]
  have hlen : ∀ (ws : List Int) (a : Int), (layFrom k.1 a ws).length = ws.length := by
    intro ws
    induction ws with
    | nil => intro a; rfl
    | cons w ws ih => intro a; simp [layFrom, ih]
  have hget : ∀ (ws : List Int) (a : Int) (i : Nat), i < ws.length → (layFrom k.1 a ws)[i]? = some ((k.1, a + i), ws.getD i 0) := by
    intro ws
    induction ws with
    | nil => intro a i h; simp at h
    | cons w ws ih =>
      intro a i h
      cases i with
      | zero => simp [layFrom]
      | succ i =>
        simp only [layFrom, List.getElem?_cons_succ, ih (a + 1) i (by simpa using h), List.getD_cons_succ]
        congr 3
        push_cast; omega
  refine Eq.trans ?_ (loopN_for (step := lay_L1) (res := some ((layFrom k.1 k.2 l, ()), (), (), ())) l.length (fun i => ((k.1, k.2, ()), (layFrom k.1 k.2 l).take i ++ List.replicate (l.length - i) ((0, 0), 0), l, (l.length : Int), (i : Int), ())) (fun i hi rec => ?_) (fun rec => ?_) (l.length + 1) (by omega))
  · simp; rfl
  · have ht : (List.take i (layFrom k.1 k.2 l)).length = i := by rw [List.length_take, hlen]; omega
    simp only [lay_L1, Int.toNat_natCast]
    rw [br_dt (by omega), br_dt (by omega), br_dt (by omega), br_dt (by omega), br_dt (by rw [List.length_append, ht, List.length_replicate]; omega), wrapI (n := (i : Int) + 1) (by omega) (by omega), wrapI (by omega) (by omega)]
    congr 1
    refine Prod.ext rfl (Prod.ext ?_ rfl)
    show List.set (_ ++ _) i _ = _
    rw [List.set_append_right _ _ (by omega), ht, Nat.sub_self, show l.length - i = (l.length - (i + 1)) + 1 by omega, List.replicate_succ, List.set_cons_zero, List.take_add_one, hget l k.2 i hi]
    simp
  · simp only [lay_L1]
    rw [br_df (by omega), Nat.sub_self]
    have : List.take l.length (layFrom k.1 k.2 l) = layFrom k.1 k.2 l := List.take_of_length_le (by rw [hlen]; omega)
    rw [this]
    simp
theorem v_rspanRight : Valid Try.prog n_rspanRight c_rspanRight := by
  refine valid_fn mixed hf_rspanRight (by kernel_rfl) rfl (ts := tmpsOf f_rspanRight.results.toList) (by kernel_rfl) (cfg := cfgW g_rspanRight) tt_ok Γok_nil rspanRight_tm c_rspanRight (by kernel_rfl) (fun _ _ _ _ => ⟨⟩) ?_
  rintro ⟨(s : Spn), ⟨⟩⟩ r u h
  refine ⟨0, (rspanRight_rn _ _).trans (Eq.trans ?_ h)⟩
  show rspanRight_P 0 s = some ((spanR s, ()), (), ())
  unfold rspanRight_P spanR
  by_cases c1 : 0 ≤ s.1
  · rw [br_dt c1, decide_eq_true c1, Bool.true_and]
    by_cases c2 : s.1 < 4
    · rw [br_dt (by omega), decide_eq_true c2, Bool.true_and]
      by_cases c3 : 0 ≤ s.2.1
      · rw [br_dt c3, decide_eq_true c3, Bool.true_and]
        by_cases c4 : s.2.2 ≤ 65536
        · rw [br_dt c4, decide_eq_true c4, Bool.true_and]
        · rw [br_df c4, decide_eq_false c4]; rfl
      · rw [br_df c3, decide_eq_false c3]; rfl
    · rw [br_df (by omega), decide_eq_false c2]; rfl
  · rw [br_df c1, decide_eq_false c1]; rfl
theorem v_key : Valid Try.prog n_key c_key := by
  refine valid_fnc mixed hf_key (by kernel_rfl) rfl (cfg := cfgW g_key) tt_ok (Γok_cons v_within (Γok_cons v_digit Γok_nil)) key_tm c_key (by kernel_rfl) (fun _ _ _ _ => ⟨⟩) ?_
  rintro ⟨(k : Int), ⟨⟩⟩ r u h
  refine ⟨0, (key_rn _ _).trans (Eq.trans ?_ h)⟩
  show key_P 0 k = some ((keyS k, ()), (), ())
  unfold key_P keyS
  have h3 := digitS_range k 4 (n := 16) (by decide)
  rw [bd_grd (by rfl), bd_grd (by rfl), bd_grd (by rfl)]
  simp only
  rw [wrapI (n := 65535 - digitS k 4 16) (by omega) (by omega)]
  by_cases c1 : digitS k 64 16 = 0
  · rw [br_t (beq_iff_eq.2 c1), if_pos c1]
  · rw [br_f (beq_eq_false_iff_ne.2 c1), if_neg c1]
theorem v_cell : Valid Try.prog n_cell c_cell := by
  refine valid_fnc mixed hf_cell (by kernel_rfl) rfl (cfg := cfgW g_cell) tt_ok (Γok_cons v_key (Γok_cons v_digit Γok_nil)) cell_tm c_cell (by kernel_rfl) (fun _ _ _ _ => ⟨⟩) ?_
  rintro ⟨(k : Int), ⟨⟩⟩ r u h
  refine ⟨0, (cell_rn _ _).trans (Eq.trans ?_ h)⟩
  show cell_P 0 k = some ((cellS k, ()), (), ())
  unfold cell_P cellS
  have h3 := digitS_range k 1024 (n := 65536) (by decide)
  have hk := keyS_ok k
  have hk1 : (keyS k).1 = k % 4 := rfl
  rw [bd_grd (by rfl)]
  simp only [notf', mk_eta]
  rw [wrapW (n := digitS k 1024 65536) (by omega) (by omega), hk1]
  by_cases c1 : k % 4 < 2
  · rw [br_dt c1, if_pos c1, Int.tmod_eq_emod_of_nonneg (by omega)]
  · rw [br_df c1, if_neg c1]
theorem v_cells : Valid Try.prog n_cells c_cells := by
  refine valid_fn mixed hf_cells (by kernel_rfl) rfl (ts := tmpsOf f_cells.results.toList) (by kernel_rfl) (cfg := cfgW g_cells) tt_ok (Γok_cons v_cell (Γok_cons v_rput Γok_nil)) cells_tm c_cells (by kernel_rfl) (fun _ _ _ _ => ⟨⟩) ?_
  rintro ⟨(l : List Int), ⟨⟩⟩ r u h
  refine ⟨22, (cells_rn _ _).trans (Eq.trans ?_ h)⟩
  show cells_P 22 l = some ((cellsS l, ()), (), ())
  unfold cells_P
  have hlen : (l.take 20).length ≤ 20 ∧ (l.take 20).length ≤ l.length := by rw [List.length_take]; omega
  refine loopN_for (step := cells_L1) (l.take 20).length (fun i => (l, cellsR (l.take i), (i : Int), ())) (fun i hi rec => ?_) (fun rec => ?_) _ (by omega)
  · simp only [cells_L1, Int.toNat_natCast, mk_eta]
    have h20 : i < 20 ∧ i < l.length := by rw [List.length_take] at hi; omega
    have hb : bufS (cellsR (l.take i)) = true := foldl_buf _ _ rfl
    have hn : (cellsR (l.take i)).length ≤ 20 := by
      have := foldl_len (l.take i) []
      unfold cellsR
      rw [List.length_take] at this
      simp at this
      omega
    rw [br_dt (by omega), br_dt (by omega), br_dt (by omega), br_dt (by omega), bd_grd (by rw [hb]; simp [lenOk]; omega), wrapI (n := (i : Int) + 1) (by omega) (by omega)]
    simp only
    congr 1
    refine Prod.ext rfl (Prod.ext ?_ rfl)
    show putK _ _ = cellsR _
    rw [take_snoc l i 0 h20.2]
    unfold cellsR
    rw [List.foldl_append, putK_eq]
    rfl
  · simp only [cells_L1]
    rw [cellsS_eq]
    by_cases h : l.length ≤ 20
    · have e : l.take 20 = l := List.take_of_length_le h
      rw [e, br_df (by omega), List.take_length]
    · have e : (l.take 20).length = 20 := by rw [List.length_take]; omega
      rw [e, br_dt (by omega), br_df (by omega)]
end Go.BB
set_option linter.unusedSimpArgs false
set_option linter.unusedVariables false
namespace Go.BB
open Go Go.Proofs
set_option maxRecDepth 100000
theorem layFrom_len (t : Int) : ∀ (ws : List Int) (a : Int), (layFrom t a ws).length = ws.length
  | [], a => rfl
  | w :: ws, a => by unfold layFrom; rw [List.length_cons, layFrom_len t ws, List.length_cons]
theorem layFrom_snoc (t w : Int) : ∀ (ws : List Int) (a : Int), layFrom t a (ws ++ [w]) = layFrom t a ws ++ [((t, a + ws.length), w)]
  | [], a => by simp [layFrom]
  | x :: ws, a => by
    rw [List.cons_append]
    unfold layFrom
    rw [layFrom_snoc t w ws (a + 1), List.cons_append, List.length_cons]
    rw [show a + 1 + (ws.length : Int) = a + ((ws.length + 1 : Nat) : Int) by push_cast; omega]
theorem v_rlay : Valid Try.prog n_rlay c_rlay := by
  refine valid_fn mixed hf_rlay (by kernel_rfl) rfl (ts := tmpsOf f_rlay.results.toList) (by kernel_rfl) (cfg := cfgW g_rlay) tt_ok Γok_nil rlay_tm c_rlay (by kernel_rfl) (fun _ _ _ _ => ⟨⟩) ?_
  rintro ⟨(⟨t, at1⟩ : Key), (ws : List Int), ⟨⟩⟩ r u h
  obtain ⟨h1, h2⟩ := grd_some h
  simp only [Bool.and_eq_true, decide_eq_true_eq] at h1
  obtain ⟨g1, g2, g3⟩ := h1
  have hl := lenOk_lt g1
  refine ⟨ws.length + 1, (rlay_rn _ _ _).trans (Eq.trans ?_ (congrArg some h2))⟩
  show rlay_P (ws.length + 1) (t, at1) ws = some ((layFrom t at1 ws, ()), ((), (), ()))
  unfold rlay_P
  refine loopN_for (step := rlay_L1) ws.length (fun i => (ws, (t, at1, ()), layFrom t at1 (ws.take i), (i : Int), ())) (fun i hi rec => ?_) (fun rec => ?_) (ws.length + 1) (by omega)
  · simp only [rlay_L1, Int.toNat_natCast]
    have e : (layFrom t at1 (ws.take i)).length = i := by rw [layFrom_len, List.length_take]; omega
    rw [br_dt (by omega), br_dt (by omega), br_dt (by omega), br_dt (by rw [e]; simp only [List.length_singleton, LIM]; omega), br_dt (by rw [e]; simp only [List.length_singleton, LIM]; omega), wrapI (n := (i : Int) + 1) (by omega) (by omega), wrapI (n := at1 + (i : Int)) (by omega) (by omega)]
    rw [take_snoc ws i 0 hi, layFrom_snoc, show ((ws.take i).length : Int) = (i : Int) by rw [List.length_take]; omega]
    rfl
  · simp only [rlay_L1]
    rw [br_df (by omega), List.take_length]
theorem v_shown : Valid Try.prog n_shown c_shown := by
  refine valid_fnc mixed hf_shown (by kernel_rfl) rfl (cfg := cfgW g_shown) tt_ok Γok_nil shown_tm c_shown (by kernel_rfl) (fun _ _ _ _ => ⟨⟩) ?_
  rintro ⟨(a : AskT), (l : List Int), ⟨⟩⟩ r u h
  obtain ⟨h1, h2⟩ := grd_some h
  have hl := lenOk_lt h1
  dsimp only at hl
  refine ⟨l.length + 1, (shown_rn _ _ _).trans (Eq.trans ?_ (congrArg some h2))⟩
  show shown_P (l.length + 1) a l = some ((shownA a l, ()), ((), (), ()))
  have hloop1 : loopN shown_L1 (l.length + 1) (l, (0, 0, (), (), 0, 0, 0, 0, 0, 0, 0, false, 0, (), ()), (a.1, 0, [], (), 0, 0, 0, 0, 0, 0, 0, false, 0, (), ()), 0, ()) = some (((a.1, 0, l.map (fun v => v != 0), [], 0, 0, 0, 0, 0, 0, 0, false, 0, []), ()), (), (), ()) := by
    refine loopN_for (step := shown_L1) l.length (fun i => (l, (0, 0, (), (), 0, 0, 0, 0, 0, 0, 0, false, 0, (), ()), (a.1, 0, (l.take i).map (fun v => v != 0), (), 0, 0, 0, 0, 0, 0, 0, false, 0, (), ()), (i : Int), ())) (fun i hi rec => ?_) (fun rec => ?_) (l.length + 1) (by omega)
    · simp only [shown_L1, Int.toNat_natCast]
      have e : ((l.take i).map (fun v => v != 0)).length = i := by rw [List.length_map, List.length_take]; omega
      rw [br_dt (by omega), br_dt (by omega), br_dt (by omega), br_dt (by rw [e]; simp only [List.length_singleton, LIM]; omega), br_dt (by rw [e]; simp only [List.length_singleton, LIM]; omega), wrapI (by omega) (by omega)]
      rw [take_snoc l i 0 hi, List.map_append]
      rfl
    · simp only [shown_L1]
      rw [br_df (by omega), List.take_length]
  unfold shown_P shownA
  by_cases f1 : a.1 = 1
  · rw [br_f (by rw [f1]; rfl), if_pos (.inl f1)]
    exact hloop1
  · rw [br_t (by simpa using f1)]
    by_cases f2 : a.1 = 2
    · rw [br_f (by rw [f2]; rfl), if_pos (.inr f2)]
      exact hloop1
    · rw [br_t (by simpa using f2), br_dt (lim_mul (by omega) (by decide)), br_dt (lim_le (by omega)), if_neg (by rintro (h | h); exact f1 h; exact f2 h)]
theorem v_rfget : Valid Try.prog n_rfget c_rfget := by
  refine valid_fn mixed hf_rfget (by kernel_rfl) rfl (ts := tmpsOf f_rfget.results.toList) (by kernel_rfl) (cfg := cfgW g_rfget) tt_ok (Γok_cons v_rbget Γok_nil) rfget_tm c_rfget (by kernel_rfl) (fun _ _ _ _ => ⟨⟩) ?_
  rintro ⟨(⟨m, ⟨⟩⟩ : List Cel × Unit), (k : Key), ⟨⟩⟩ r u h
  obtain ⟨h1, h2⟩ := grd_some h
  refine ⟨0, (rfget_rn _ _ _).trans (Eq.trans ?_ (congrArg some h2))⟩
  show rfget_P 0 (m, ()) k = some (((getK m k).1, ()), ((m, ()), (), ()))
  unfold rfget_P
  rw [bd_grd h1]
theorem setR_ok : ∀ (l m : List Cel), bufS m = true → bufS (setR m l) = true ∧ (setR m l).length ≤ m.length + l.length
  | [], m, h => ⟨h, by show m.length ≤ _; omega⟩
  | c :: l, m, h => by
    show bufS (setR (if keyR c.1 then putK m c else m) l) = true ∧ (setR (if keyR c.1 then putK m c else m) l).length ≤ _
    rw [List.length_cons]
    cases keyR c.1 with
    | true =>
      have h2 : bufS (putK m c) = true := by rw [putK_eq]; exact bufS_put c h
      have h3 : (putK m c).length ≤ m.length + 1 := by rw [putK_eq]; exact putR_len m c
      have := setR_ok l (putK m c) h2
      exact ⟨this.1, Nat.le_trans this.2 (by omega)⟩
    | false =>
      have := setR_ok l m h
      exact ⟨this.1, Nat.le_trans this.2 (by omega)⟩
theorem keyR_4 {α : Type} (k : Key) (x y : α) : br (decide (k.1 ≥ 0)) (br (decide (k.1 ≤ 3)) (br (decide (k.2 ≥ 0)) (br (decide (k.2 < 65536)) x y) y) y) y = br (keyR k) x y := by
  unfold keyR
  by_cases h1 : k.1 ≥ 0
  · by_cases h2 : k.1 ≤ 3
    · by_cases h3 : k.2 ≥ 0
      · by_cases h4 : k.2 < 65536
        · rw [br_dt h1, br_dt h2, br_dt h3, br_dt h4, br_t (by simp; omega)]
        · rw [br_dt h1, br_dt h2, br_dt h3, br_df h4, br_f (by simp; omega)]
      · rw [br_dt h1, br_dt h2, br_df h3, br_f (by simp; omega)]
    · rw [br_dt h1, br_df h2, br_f (by simp; omega)]
  · rw [br_df h1, br_f (by simp; omega)]
theorem v_rfset : Valid Try.prog n_rfset c_rfset := by
  refine valid_fn mixed hf_rfset (by kernel_rfl) rfl (ts := tmpsOf f_rfset.results.toList) (by kernel_rfl) (cfg := cfgW g_rfset) tt_ok (Γok_cons v_rput Γok_nil) rfset_tm c_rfset (by kernel_rfl) (fun _ _ _ _ => ⟨⟩) ?_
  rintro ⟨(⟨m, ⟨⟩⟩ : List Cel × Unit), (l : List Cel), ⟨⟩⟩ r u h
  obtain ⟨h1, h2⟩ := grd_some h
  simp only [Bool.and_eq_true, decide_eq_true_eq] at h1
  obtain ⟨g1, g2, g3⟩ := h1
  refine ⟨l.length + 1, (rfset_rn _ _ _).trans (Eq.trans ?_ (congrArg some h2))⟩
  show rfset_P (l.length + 1) (m, ()) l = some ((), ((setR m l, ()), (), ()))
  unfold rfset_P
  refine loopN_for (step := rfset_L1) l.length (fun i => ((setR m (l.take i), ()), l, (i : Int), ())) (fun i hi rec => ?_) (fun rec => ?_) (l.length + 1) (by omega)
  · simp only [rfset_L1, Int.toNat_natCast]
    obtain ⟨k1, k2⟩ := setR_ok (l.take i) m g2
    have k3 : (l.take i).length ≤ l.length := by rw [List.length_take]; omega
    rw [br_dt (show (i : Int) < (l.length : Int) by omega), br_dt (show (0 : Int) ≤ (i : Int) by omega), br_dt (show (i : Int) < (l.length : Int) by omega), wrapI (by omega) (by omega), take_snoc l i ((0, 0), 0) hi]
    simp only [br_dt (show (i : Int) < (l.length : Int) by omega), br_dt (show (0 : Int) ≤ (i : Int) by omega)]
    have e : ∀ c : Cel, setR m (l.take i ++ [c]) = if keyR c.1 then putK (setR m (l.take i)) c else setR m (l.take i) := by intro c; simp [setR]
    rw [e]
    refine (keyR_4 (l.getD i ((0, 0), 0)).1 _ _).trans ?_
    rw [bd_grd (and_t (lenOk_of (by omega)) k1)]
    cases hk : keyR (l.getD i ((0, 0), 0)).1 with
    | true => rw [br_t rfl, if_pos rfl]; rfl
    | false => rw [br_f rfl, if_neg (by decide)]; rfl
  · simp only [rfset_L1]
    rw [br_df (by omega), List.take_length]
end Go.BB
