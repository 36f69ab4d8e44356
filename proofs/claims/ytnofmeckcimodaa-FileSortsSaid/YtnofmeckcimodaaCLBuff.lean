/- A symbolic machine for the model's code, and what it shows of this seat's functions. No conditions. -/
import Derived.Test.YtnofmeckcimodaaCLChain
import Derived.Test.YtnofmeckcimodaaCVcom
import Derived.Test.YtnofmeckcimodaaCSStore
set_option linter.unusedSimpArgs false
set_option linter.unusedVariables false
namespace Go.BB
open Go Go.Proofs
set_option maxRecDepth 100000
theorem v_upto : Valid Try.prog n_upto c_upto := by
  refine valid_fn mixed hf_upto (by kernel_rfl) rfl (ts := tmpsOf f_upto.results.toList) (by kernel_rfl) (cfg := cfgW g_upto) tt_ok Γok_nil upto_tm c_upto (by kernel_rfl) (fun _ _ _ _ => ⟨⟩) ?_
  rintro ⟨(l : List (Int × Int)), (q : Int), ⟨⟩⟩ r u h
  obtain ⟨h1, h2⟩ := grd_some h
  simp only [Bool.and_eq_true] at h1 h2
  have hl := lenOk_lt h1.1
  refine ⟨l.length + 1, (upto_rn _ _ _).trans (Eq.trans ?_ (congrArg some h2))⟩
  unfold upto_P
  have hc := cnt_le l q
  refine loopN_meas (step := upto_L1) (fun x => x.2.2.2.1.toNat - x.2.2.1.toNat) (fun x => ∃ (a b : Nat), a ≤ cnt l q ∧ cnt l q ≤ b ∧ b ≤ l.length ∧ x = (l, q, (a : Int), (b : Int), ())) (fun _ => some ((((cnt l q : Nat) : Int), ()), (), (), ())) ?_ _ _ ⟨0, l.length, by omega, by omega, by omega, rfl⟩ (by simp only; omega)
  rintro x ⟨a, b, ha, hb, hbl, rfl⟩ rec hrec
  simp only [upto_L1, sh1]
  by_cases h : a < b
  · have e : IntKind.i64.wrap ((a : Int) + b) / 2 = (((a + b) / 2 : Nat) : Int) := by rw [wrapI (by omega) (by omega)]; omega
    rw [br_dt (by omega), e, br_dt (by omega), br_dt (by omega), Int.toNat_natCast]
    have hi := cnt_iff h1.2 q ((a + b) / 2) (by omega)
    by_cases hv : (l.getD ((a + b) / 2) (0, 0)).1 ≤ q
    · rw [br_dt hv, wrapI (by omega) (by omega)]
      have := hi.1 hv
      exact hrec _ ⟨(a + b) / 2 + 1, b, by omega, hb, hbl, by simp⟩ (by simp only; omega)
    · rw [br_df hv]
      have : ¬ (a + b) / 2 < cnt l q := fun h => hv (hi.2 h)
      exact hrec _ ⟨a, (a + b) / 2, ha, by omega, by omega, rfl⟩ (by simp only; omega)
  · rw [br_df (by omega), show a = cnt l q by omega]
theorem v_chainAt : Valid Try.prog n_chainAt c_chainAt := by
  refine valid_fn mixed hf_chainAt (by kernel_rfl) rfl (ts := tmpsOf f_chainAt.results.toList) (by kernel_rfl) (cfg := cfgW g_chainAt) tt_ok (Γok_cons v_upto Γok_nil) chainAt_tm c_chainAt (by kernel_rfl) (fun _ _ _ _ => ⟨⟩) ?_
  rintro ⟨(l : List (Int × Int)), (q : Int), ⟨⟩⟩ r u h
  obtain ⟨h1, h2⟩ := grd_some h
  simp only at h1 h2
  have hl := lenOk_lt (Bool.and_eq_true _ _ ▸ h1 : _ ∧ _).1
  have hc := cnt_le l q
  refine ⟨0, (chainAt_rn _ _ _).trans (Eq.trans ?_ (congrArg some h2))⟩
  unfold chainAt_P atV
  rw [bd_grd h1]
  simp only
  by_cases h0 : cnt l q = 0
  · rw [br_t (by simp [h0]), if_pos h0]; rfl
  · have e1 : IntKind.i64.wrap ((cnt l q : Int) - 1) = ((cnt l q - 1 : Nat) : Int) := (wrapI (by omega) (by omega)).trans (by omega)
    rw [br_f (by simpa using h0), e1, br_dt (by omega), br_dt (by omega), if_neg h0, Int.toNat_natCast]; rfl
theorem v_rchainAt : Valid Try.prog n_rchainAt c_rchainAt := by
  refine valid_fn mixed hf_rchainAt (by kernel_rfl) rfl (ts := tmpsOf f_rchainAt.results.toList) (by kernel_rfl) (cfg := cfgW g_rchainAt) tt_ok Γok_nil rchainAt_tm c_rchainAt (by kernel_rfl) (fun _ _ _ _ => ⟨⟩) ?_
  rintro ⟨(l : List (Int × Int)), (q : Int), ⟨⟩⟩ r u h
  obtain ⟨h1, h2⟩ := grd_some h
  simp only at h1 h2
  have hl := lenOk_lt h1
  have hc := cnt_le l q
  refine ⟨cnt l q + 1, (rchainAt_rn _ _ _).trans (Eq.trans ?_ (congrArg some h2))⟩
  unfold rchainAt_P
  refine loopN_for (step := rchainAt_L1) (cnt l q) (fun i => (l, q, (if i = 0 then 0 else (l.getD (i - 1) (0, 0)).2), (i : Int), ())) (fun i hi rec => ?_) (fun rec => ?_) _ (by omega)
  · simp only [rchainAt_L1, Int.toNat_natCast]
    rw [br_dt (by omega), br_dt (by omega), br_dt (by omega), br_dt (cnt_lt l q i hi), br_dt (by omega), br_dt (by omega), wrapI (by omega) (by omega)]
    simp
  · simp only [rchainAt_L1, Int.toNat_natCast]
    by_cases h : cnt l q < l.length
    · rw [br_dt (by omega), br_dt (by omega), br_dt (by omega), br_df (cnt_stop l q h)]; rfl
    · rw [br_df (by omega)]; rfl
theorem newest_ok (l : List (Int × Int)) (hl : l.length < 1000000) : newest_P 0 l = some ((newS l, ()), (), ()) := by
  unfold newest_P newS
  by_cases h0 : l.length = 0
  · rw [br_t (by simp [h0]), if_pos h0]
  · have e1 : IntKind.i64.wrap ((l.length : Int) - 1) = ((l.length - 1 : Nat) : Int) := (wrapI (by omega) (by omega)).trans (by omega)
    rw [br_f (by simpa using h0), e1, br_dt (by omega), br_dt (by omega), if_neg h0, Int.toNat_natCast]
theorem v_newest : Valid Try.prog n_newest c_newest := by
  refine valid_fn mixed hf_newest (by kernel_rfl) rfl (ts := tmpsOf f_newest.results.toList) (by kernel_rfl) (cfg := cfgW g_newest) tt_ok Γok_nil newest_tm c_newest (by kernel_rfl) (fun _ _ _ _ => ⟨⟩) ?_
  rintro ⟨(l : List (Int × Int)), ⟨⟩⟩ r u h
  obtain ⟨h1, h2⟩ := grd_some h
  simp only at h1 h2
  exact ⟨0, (newest_rn _ _).trans ((newest_ok l (lenOk_lt h1)).trans (congrArg some h2))⟩
theorem v_rnewest : Valid Try.prog n_rnewest c_rnewest := by
  refine valid_fn mixed hf_rnewest (by kernel_rfl) rfl (ts := tmpsOf f_rnewest.results.toList) (by kernel_rfl) (cfg := cfgW g_rnewest) tt_ok Γok_nil rnewest_tm c_rnewest (by kernel_rfl) (fun _ _ _ _ => ⟨⟩) ?_
  rintro ⟨(l : List (Int × Int)), ⟨⟩⟩ r u h
  obtain ⟨h1, h2⟩ := grd_some h
  simp only at h1 h2
  exact ⟨0, (rnewest_rn _ _).trans ((newest_ok l (lenOk_lt h1)).trans (congrArg some h2))⟩
theorem v_rchainAdd : Valid Try.prog n_rchainAdd c_rchainAdd := by
  refine valid_fn mixed hf_rchainAdd (by kernel_rfl) rfl (ts := tmpsOf f_rchainAdd.results.toList) (by kernel_rfl) (cfg := cfgW g_rchainAdd) tt_ok (Γok_cons v_rnewest Γok_nil) rchainAdd_tm c_rchainAdd (by kernel_rfl) (fun _ _ _ _ => ⟨⟩) ?_
  rintro ⟨(l : List (Int × Int)), (v : Int × Int), ⟨⟩⟩ r u h
  obtain ⟨h1, h2⟩ := grd_some h
  simp only at h1 h2
  have hl := lenOk_lt h1
  refine ⟨0, (rchainAdd_rn _ _ _).trans (Eq.trans ?_ (congrArg some h2))⟩
  unfold rchainAdd_P addS
  rw [bd_grd h1]
  simp only
  by_cases hv : v.1 ≤ newS l
  · rw [br_dt hv, if_pos hv]; rfl
  · rw [br_df hv, if_neg hv, br_dt (lim_mul (by omega) (by decide)), br_dt (lim_le (by omega)), br_dt (lim_mul (by simp; omega) (by decide)), br_dt (lim_le (by simp; omega))]; rfl
theorem v_trim : Valid Try.prog n_trim c_trim := by
  refine valid_fn mixed hf_trim (by kernel_rfl) rfl (ts := tmpsOf f_trim.results.toList) (by kernel_rfl) (cfg := cfgW g_trim) tt_ok (Γok_cons v_upto (Γok_cons v_cloneVersions Γok_nil)) trim_tm c_trim (by kernel_rfl) (fun _ _ _ _ => ⟨⟩) ?_
  rintro ⟨(l : List (Int × Int)), (q : Int), ⟨⟩⟩ r u h
  obtain ⟨h1, h2⟩ := grd_some h
  simp only at h1 h2
  have hl := lenOk_lt (Bool.and_eq_true _ _ ▸ h1 : _ ∧ _).1
  have hc := cnt_le l q
  refine ⟨0, (trim_rn _ _ _).trans (Eq.trans ?_ (congrArg some h2))⟩
  unfold trim_P trimS
  rw [bd_grd h1]
  have e1 : maxI (IntKind.i64.wrap ((cnt l q : Int) - 1)) 0 = ((cnt l q - 1 : Nat) : Int) := by rw [wrapI (by omega) (by omega), maxI_eq]; omega
  simp only [e1, Int.toNat_natCast]
  have e2 : List.take (l.length - (cnt l q - 1)) (List.drop (cnt l q - 1) l) = List.drop (cnt l q - 1) l := List.take_of_length_le (by simp)
  rw [br_dt (by omega), br_dt (by omega), e2, bd_grd (by simp; omega)]
  rfl
theorem v_rtrim : Valid Try.prog n_rtrim c_rtrim := by
  refine valid_fn mixed hf_rtrim (by kernel_rfl) rfl (ts := tmpsOf f_rtrim.results.toList) (by kernel_rfl) (cfg := cfgW g_rtrim) tt_ok Γok_nil rtrim_tm c_rtrim (by kernel_rfl) (fun _ _ _ _ => ⟨⟩) ?_
  rintro ⟨(l : List (Int × Int)), (q : Int), ⟨⟩⟩ r u h
  obtain ⟨h1, h2⟩ := grd_some h
  simp only [Bool.and_eq_true] at h1 h2
  have hl := lenOk_lt h1.1
  have hc := cnt_le l q
  refine ⟨l.length + 1, (rtrim_rn _ _ _).trans (Eq.trans ?_ (congrArg some h2))⟩
  unfold rtrim_P trimS
  have := loopN_for (step := rtrim_L1) l.length (fun i => (l, q, (l.take i).drop (cnt l q - 1), (i : Int), ())) (res := some ((l.drop (cnt l q - 1), ()), (), (), ())) (fun i hi rec => ?_) (fun rec => ?_) (l.length + 1) (by omega)
  · rw [List.take_zero, List.drop_nil] at this
    exact this
  · simp only [rtrim_L1, Int.toNat_natCast]
    have e1 : IntKind.i64.wrap ((i : Int) + 1) = ((i + 1 : Nat) : Int) := (wrapI (by omega) (by omega)).trans (by omega)
    rw [e1, Int.toNat_natCast, br_dt (by omega)]
    have hkeep : cnt l q ≤ i + 1 → br (decide ((0 : Int) ≤ i)) (br (decide ((i : Int) < l.length)) (br (decide ((((l.take i).drop (cnt l q - 1)).length + [((l.getD i (0, 0)).1, (l.getD i (0, 0)).2)].length) * 16 ≤ LIM))
        (br (decide (((l.take i).drop (cnt l q - 1)).length + [((l.getD i (0, 0)).1, (l.getD i (0, 0)).2)].length ≤ LIM)) (rec (l, q, cat ((l.take i).drop (cnt l q - 1)) [((l.getD i (0, 0)).1, (l.getD i (0, 0)).2)], ((i + 1 : Nat) : Int), ())) none) none) none) none
        = rec (l, q, (l.take (i + 1)).drop (cnt l q - 1), ((i + 1 : Nat) : Int), ()) := by
      intro hle
      rw [br_dt (by omega), br_dt (by omega), br_dt (lim_mul (by simp; omega) (by decide)), br_dt (lim_le (by simp; omega)), take_snoc l i (0, 0) hi, List.drop_append_of_le_length (by simp; omega)]
      rfl
    by_cases hn : i + 1 < l.length
    · rw [br_dt (by omega), br_dt (by omega), br_dt (by omega)]
      have hiff := cnt_iff h1.2 q (i + 1) hn
      by_cases hv : (l.getD (i + 1) (0, 0)).1 ≤ q
      · have := hiff.1 hv
        have z1 : (l.take i).drop (cnt l q - 1) = [] := List.drop_eq_nil_of_le (by simp; omega)
        have z2 : (l.take (i + 1)).drop (cnt l q - 1) = [] := List.drop_eq_nil_of_le (by simp; omega)
        rw [br_dt hv, z1, z2]
      · have : ¬ i + 1 < cnt l q := fun h => hv (hiff.2 h)
        rw [br_df hv]
        exact hkeep (by omega)
    · rw [br_df (by omega)]
      exact hkeep (by omega)
  · simp only [rtrim_L1]
    rw [br_df (by omega), List.take_length]
end Go.BB
set_option linter.unusedSimpArgs false
set_option linter.unusedVariables false
namespace Go.BB
open Go
theorem keyLt_iff {a b : Key} : keyLt a b = true ↔ a.1 < b.1 ∨ (a.1 = b.1 ∧ a.2 < b.2) := by simp [keyLt]
theorem keyLt_false {a b : Key} : keyLt a b = false ↔ ¬ (a.1 < b.1 ∨ (a.1 = b.1 ∧ a.2 < b.2)) := by rw [← keyLt_iff]; simp
theorem key_eq {a b : Key} (h1 : a.1 = b.1) (h2 : a.2 = b.2) : a = b := Prod.ext h1 h2
theorem keyLt_irrefl (a : Key) : keyLt a a = false := by rw [keyLt_false]; omega
theorem keyLt_trans {a b c : Key} (h1 : keyLt a b = true) (h2 : keyLt b c = true) : keyLt a c = true := by rw [keyLt_iff] at *; omega
theorem keyLt_asymm {a b : Key} (h1 : keyLt a b = true) : keyLt b a = false := by rw [keyLt_iff] at h1; rw [keyLt_false]; omega
theorem keyLt_total {a b : Key} (h1 : keyLt a b = false) (h2 : keyLt b a = false) : a = b := by
  rw [keyLt_false] at h1 h2
  exact key_eq (by omega) (by omega)
theorem keyLt_ne {a b : Key} (h : keyLt a b = true) : a ≠ b := by rintro rfl; rw [keyLt_irrefl] at h; cases h
/-- how two keys stand -/
theorem key_three (a b : Key) : (keyLt a b = true ∧ a ≠ b ∧ keyLt b a = false) ∨ (a = b ∧ keyLt a b = false) ∨ (keyLt a b = false ∧ a ≠ b ∧ keyLt b a = true) := by
  cases h : keyLt a b with
  | true => exact .inl ⟨rfl, keyLt_ne h, keyLt_asymm h⟩
  | false =>
    cases h2 : keyLt b a with
    | true => exact .inr (.inr ⟨rfl, fun e => keyLt_ne h2 e.symm, rfl⟩)
    | false => exact .inr (.inl ⟨keyLt_total h h2, rfl⟩)
/-! buffers -/
theorem bufS_cons : ∀ {a : Cel} {l : List Cel}, bufS (a :: l) = true ↔ (∀ c ∈ l, keyLt a.1 c.1 = true) ∧ bufS l = true
  | a, [] => by simp [bufS]
  | a, b :: l => by
    have ih := bufS_cons (a := b) (l := l)
    simp only [bufS, Bool.and_eq_true]
    rw [ih]
    constructor
    · rintro ⟨h1, h2, h3⟩
      refine ⟨fun c hc => ?_, h2, h3⟩
      rcases List.mem_cons.1 hc with rfl | hc
      · exact h1
      · exact keyLt_trans h1 (h2 c hc)
    · rintro ⟨h1, h2, h3⟩
      exact ⟨h1 b List.mem_cons_self, h2, h3⟩
theorem bufS_lt : ∀ {l : List Cel}, bufS l = true → ∀ (i j : Nat) (z : Cel), i < j → j < l.length → keyLt (l.getD i z).1 (l.getD j z).1 = true
  | [], _, _, j, _, _, h => by simp at h
  | a :: l, hb, i, j, z, hij, hj => by
    rw [bufS_cons] at hb
    match i, j, hij with
    | 0, j + 1, _ =>
      simp only [List.getD_cons_zero, List.getD_cons_succ]
      refine hb.1 _ ?_
      rw [List.getD_eq_getElem?_getD, List.getElem?_eq_getElem (by simpa using hj)]
      exact List.getElem_mem _
    | i + 1, j + 1, hij => simpa using bufS_lt hb.2 i j z (by omega) (by simpa using hj)
theorem bufS_of_lt : ∀ {l : List Cel}, (∀ i, i + 1 < l.length → keyLt (l.getD i ((0, 0), 0)).1 (l.getD (i + 1) ((0, 0), 0)).1 = true) → bufS l = true
  | [], _ => rfl
  | [_], _ => rfl
  | a :: b :: l, h => by
    simp only [bufS, Bool.and_eq_true]
    refine ⟨by simpa using h 0 (by simp), bufS_of_lt fun i hi => ?_⟩
    simpa using h (i + 1) (by simpa using hi)
theorem bufS_drop : ∀ {l : List Cel} (n : Nat), bufS l = true → bufS (l.drop n) = true
  | [], n, _ => by simp [bufS]
  | a :: l, 0, h => h
  | a :: l, n + 1, h => by rw [List.drop_succ_cons]; exact bufS_drop n (bufS_cons.1 h).2
theorem cntK_le : ∀ (l : List Cel) (k : Key), cntK l k ≤ l.length
  | [], _ => by simp [cntK]
  | a :: l, k => by
    have := cntK_le l k
    simp only [cntK, List.length_cons]
    split <;> omega
theorem cntK_lt : ∀ (l : List Cel) (k : Key) (i : Nat) (z : Cel), i < cntK l k → keyLt (l.getD i z).1 k = true
  | [], _, _, _, h => by simp [cntK] at h
  | a :: l, k, i, z, h => by
    simp only [cntK] at h
    split at h
    · rename_i ha
      cases i with
      | zero => simpa using ha
      | succ i => simpa using cntK_lt l k i z (by omega)
    · omega
theorem cntK_stop : ∀ (l : List Cel) (k : Key) (z : Cel), cntK l k < l.length → keyLt (l.getD (cntK l k) z).1 k = false
  | [], _, _, h => by simp [cntK] at h
  | a :: l, k, z, h => by
    simp only [cntK] at h ⊢
    split
    · rename_i ha
      rw [if_pos ha] at h
      simpa using cntK_stop l k z (by simpa using h)
    · rename_i ha
      simpa using ha
theorem cntK_iff {l : List Cel} (hb : bufS l = true) (k : Key) (i : Nat) (z : Cel) (hi : i < l.length) : keyLt (l.getD i z).1 k = true ↔ i < cntK l k := by
  constructor
  · intro h
    apply Classical.byContradiction
    intro hn
    have hlt : cntK l k < l.length := by omega
    have hs := cntK_stop l k z hlt
    by_cases e : cntK l k = i
    · rw [e, h] at hs; cases hs
    · have := keyLt_trans (bufS_lt hb (cntK l k) i z (by omega) hi) h
      rw [this] at hs; cases hs
  · exact cntK_lt l k i z
/-! puts and gets, by recursion -/
def putR : List Cel → Cel → List Cel
  | [], c => [c]
  | a :: l, c => if keyLt a.1 c.1 then a :: putR l c else if a.1 = c.1 then c :: l else c :: a :: l
def getR : List Cel → Key → Option Int
  | [], _ => none
  | a :: l, k => if keyLt a.1 k then getR l k else if a.1 = k then some a.2 else none
theorem hasK_cons_lt {a : Cel} {l : List Cel} {k : Key} (h : keyLt a.1 k = true) : hasK (a :: l) k = hasK l k := by
  simp [hasK, cntK, h]
theorem hasK_cons_ge {a : Cel} {l : List Cel} {k : Key} (h : keyLt a.1 k = false) : hasK (a :: l) k = decide (a.1 = k) := by
  simp [hasK, cntK, h]
theorem putK_eq : ∀ (l : List Cel) (c : Cel), putK l c = putR l c
  | [], c => by simp [putK, putR, cntK, hasK]
  | a :: l, c => by
    have ih := putK_eq l c
    unfold putK at ih ⊢
    cases h : keyLt a.1 c.1 with
    | true =>
      rw [hasK_cons_lt h]
      simp only [cntK, putR, h, if_true, List.take_succ_cons]
      rw [← ih]
      cases hasK l c.1 <;> simp
    | false =>
      rw [hasK_cons_ge h]
      simp only [cntK, putR, h]
      by_cases e : a.1 = c.1
      · simp [e]
      · simp [e]
theorem getK_eq : ∀ (l : List Cel) (k : Key), getK l k = match getR l k with | some v => (v, true) | none => (0, false)
  | [], k => by simp [getK, getR, hasK, cntK]
  | a :: l, k => by
    have ih := getK_eq l k
    unfold getK at ih ⊢
    cases h : keyLt a.1 k with
    | true =>
      rw [hasK_cons_lt h]
      simp only [cntK, getR, h, if_true, List.getD_cons_succ]
      exact ih
    | false =>
      rw [hasK_cons_ge h]
      simp only [cntK, getR, h]
      by_cases e : a.1 = k <;> simp [e]
theorem mem_putR {x : Cel} : ∀ {l : List Cel} {c : Cel}, x ∈ putR l c → x = c ∨ x ∈ l
  | [], c, h => by simp [putR] at h; exact .inl h
  | a :: l, c, h => by
    simp only [putR] at h
    split at h
    · rcases List.mem_cons.1 h with h | h
      · exact .inr (h ▸ List.mem_cons_self)
      · rcases mem_putR h with h | h
        · exact .inl h
        · exact .inr (List.mem_cons_of_mem _ h)
    · split at h
      · rcases List.mem_cons.1 h with h | h
        · exact .inl h
        · exact .inr (List.mem_cons_of_mem _ h)
      · rcases List.mem_cons.1 h with h | h
        · exact .inl h
        · exact .inr h
theorem bufS_put : ∀ {l : List Cel} (c : Cel), bufS l = true → bufS (putR l c) = true
  | [], c, _ => rfl
  | a :: l, c, h => by
    have h' := bufS_cons.1 h
    simp only [putR]
    split
    · rename_i ha
      refine bufS_cons.2 ⟨fun x hx => ?_, bufS_put c h'.2⟩
      rcases mem_putR hx with rfl | hx
      · exact ha
      · exact h'.1 x hx
    · rename_i ha
      split
      · rename_i e
        refine bufS_cons.2 ⟨fun x hx => ?_, h'.2⟩
        rw [← e]; exact h'.1 x hx
      · rename_i e
        have hca : keyLt c.1 a.1 = true := by
          rcases key_three a.1 c.1 with h | h | h
          · exact absurd h.1 ha
          · exact absurd h.1 e
          · exact h.2.2
        refine bufS_cons.2 ⟨fun x hx => ?_, h⟩
        rcases List.mem_cons.1 hx with rfl | hx
        · exact hca
        · exact keyLt_trans hca (h'.1 x hx)
theorem getR_lt : ∀ {l : List Cel} {k : Key}, (∀ c ∈ l, keyLt k c.1 = true) → getR l k = none
  | [], _, _ => rfl
  | a :: l, k, h => by
    have ha := h a List.mem_cons_self
    simp only [getR]
    rw [if_neg (by rw [keyLt_asymm ha]; decide), if_neg (fun e => keyLt_ne ha e.symm)]
theorem getR_put : ∀ {l : List Cel} (c : Cel) (k : Key), bufS l = true → getR (putR l c) k = if k = c.1 then some c.2 else getR l k
  | [], c, k, _ => by
    simp only [putR, getR]
    rcases key_three c.1 k with ⟨h1, h2, _⟩ | ⟨rfl, h1⟩ | ⟨h1, h2, _⟩
    · simp [h1, h2.symm]
    · simp [h1]
    · simp [h1, h2, h2.symm]
  | a :: l, c, k, h => by
    have h' := bufS_cons.1 h
    have ih := getR_put (l := l) c k h'.2
    simp only [putR]
    rcases key_three a.1 c.1 with ⟨h1, h2, h3⟩ | ⟨h1, h2⟩ | ⟨h1, h2, h3⟩
    · rw [if_pos h1]
      simp only [getR, ih]
      rcases key_three a.1 k with ⟨k1, k2, k3⟩ | ⟨k1, k2⟩ | ⟨k1, k2, k3⟩
      · simp [k1]
      · subst k1; simp [k2, h2]
      · have : k ≠ c.1 := by rintro rfl; rw [h1] at k1; cases k1
        simp [k1, k2, this]
    · rw [if_neg (by rw [h2]; decide), if_pos h1]
      simp only [getR]
      rw [← h1]
      rcases key_three a.1 k with ⟨k1, k2, k3⟩ | ⟨k1, k2⟩ | ⟨k1, k2, k3⟩
      · simp [k1, k2.symm]
      · subst k1; simp [k2]
      · simp [k1, k2, k2.symm]
    · rw [if_neg (by rw [h1]; decide), if_neg h2]
      simp only [getR]
      rcases key_three c.1 k with ⟨k1, k2, k3⟩ | ⟨k1, k2⟩ | ⟨k1, k2, k3⟩
      · simp [k1, k2.symm]
      · subst k1; simp [k2]
      · have hka : keyLt k a.1 = true := keyLt_trans k3 h3
        simp [k1, k2, k2.symm, keyLt_asymm hka, (keyLt_ne hka).symm]
/-- buffers that answer alike are one -/
theorem buf_ext : ∀ {a b : List Cel}, bufS a = true → bufS b = true → (∀ k, getR a k = getR b k) → a = b
  | [], [], _, _, _ => rfl
  | [], b :: l, _, hb, h => by
    have := h b.1
    simp [getR, keyLt_irrefl] at this
  | a :: l, [], _, _, h => by
    have := h a.1
    simp [getR, keyLt_irrefl] at this
  | a :: l, b :: m, ha, hb, h => by
    have ha' := bufS_cons.1 ha
    have hb' := bufS_cons.1 hb
    rcases key_three a.1 b.1 with ⟨h1, h2, h3⟩ | ⟨h1, h2⟩ | ⟨h1, h2, h3⟩
    · have := h a.1
      simp [getR, keyLt_irrefl, h3, h2.symm] at this
    · have hv := h a.1
      rw [h1] at hv
      have e2 : a.2 = b.2 := by simpa [getR, keyLt_irrefl, h1] using hv
      have e : a = b := Prod.ext h1 e2
      subst e
      congr 1
      refine buf_ext ha'.2 hb'.2 fun k => ?_
      have hk := h k
      simp only [getR] at hk
      rcases key_three a.1 k with ⟨k1, k2, k3⟩ | ⟨k1, k2⟩ | ⟨k1, k2, k3⟩
      · simpa [k1] using hk
      · subst k1
        rw [getR_lt ha'.1, getR_lt hb'.1]
      · rw [getR_lt fun c hc => keyLt_trans k3 (ha'.1 c hc), getR_lt fun c hc => keyLt_trans k3 (hb'.1 c hc)]
    · have := h b.1
      simp [getR, keyLt_irrefl, h1, h2] at this
theorem putR_len : ∀ (l : List Cel) (c : Cel), (putR l c).length ≤ l.length + 1
  | [], _ => by simp [putR]
  | a :: l, c => by
    have := putR_len l c
    simp only [putR]
    split
    · simp only [List.length_cons]; omega
    · split <;> simp
/-! what is made by numbers -/
def cellsR (ks : List Int) : List Cel := ks.foldl (fun l k => putR l (cellS k)) []
theorem cellsS_eq (ks : List Int) : cellsS ks = cellsR (ks.take 20) := by
  unfold cellsS cellsR
  congr 1
  funext l k
  exact putK_eq l _
theorem foldl_buf (ks : List Int) : ∀ l, bufS l = true → bufS (ks.foldl (fun l k => putR l (cellS k)) l) = true := by
  induction ks with
  | nil => intro l h; exact h
  | cons k ks ih => intro l h; exact ih _ (bufS_put _ h)
theorem foldl_len (ks : List Int) : ∀ l : List Cel, (ks.foldl (fun l k => putR l (cellS k)) l).length ≤ l.length + ks.length := by
  induction ks with
  | nil => intro l; simp
  | cons k ks ih =>
    intro l
    have h1 := ih (putR l (cellS k))
    have h2 := putR_len l (cellS k)
    simp only [List.foldl_cons, List.length_cons]
    omega
theorem cellsS_buf (ks : List Int) : bufS (cellsS ks) = true := by rw [cellsS_eq]; exact foldl_buf _ _ rfl
theorem cellsS_len (ks : List Int) : (cellsS ks).length ≤ 20 := by
  rw [cellsS_eq]
  have := foldl_len (ks.take 20) []
  unfold cellsR
  simp at this
  omega
theorem keyS_ok (k : Int) : 0 ≤ (keyS k).1 ∧ (keyS k).1 < 4 ∧ 0 ≤ (keyS k).2 ∧ (keyS k).2 < 65536 := by
  have h1 := Int.emod_nonneg k (show (4 : Int) ≠ 0 by decide)
  have h2 := Int.emod_lt_of_pos k (show (0 : Int) < 4 by decide)
  have h3 := digitS_range k 4 (n := 16) (by decide)
  unfold keyS
  simp only
  split <;> omega
theorem cellS_ok (k : Int) : 0 ≤ (cellS k).2 ∧ (cellS k).2 < 65536 ∧ ((cellS k).1.1 < 2 → (cellS k).2 < 2) := by
  have h3 := digitS_range k 1024 (n := 65536) (by decide)
  unfold cellS keyS
  simp only
  split <;> omega
theorem spanS_ok (k : Int) : spanR (spanS k) = true := by
  have h1 := Int.emod_nonneg k (show (4 : Int) ≠ 0 by decide)
  have h2 := Int.emod_lt_of_pos k (show (0 : Int) < 4 by decide)
  have h3 := digitS_range k 4 (n := 40) (by decide)
  have h4 := digitS_range k 160 (n := 12) (by decide)
  unfold spanS spanR
  simp only [Bool.and_eq_true, decide_eq_true_eq]
  refine ⟨h1, h2, ?_, ?_, ?_⟩ <;> split <;> (try split) <;> omega
theorem spanR_iff {s : Spn} : spanR s = true ↔ 0 ≤ s.1 ∧ s.1 < 4 ∧ 0 ≤ s.2.1 ∧ s.2.2 ≤ 65536 ∧ s.2.1 < s.2.2 := by simp [spanR]
end Go.BB
