/- A symbolic machine for the model's code, and what it shows of this seat's functions. No conditions. -/
import Derived.Test.YtnofmeckcimodaaBSStore
import Derived.Test.YtnofmeckcimodaaBLChain
import Derived.Test.YtnofmeckcimodaaBGstore3
set_option linter.unusedSimpArgs false
set_option linter.unusedVariables false
namespace Go.BB
open Go
theorem keyLt_iff {a b : Key} : keyLt a b = true ↔ a.1 < b.1 ∨ (a.1 = b.1 ∧ a.2 < b.2) := by simp [keyLt]
theorem keyLt_false {a b : Key} : keyLt a b = false ↔ ¬ (a.1 < b.1 ∨ (a.1 = b.1 ∧ a.2 < b.2)) := by rw [← keyLt_iff]; simp
theorem key_eq {a b : Key} (h1 : a.1 = b.1) (h2 : a.2 = b.2) : a = b := Prod.ext h1 h2
theorem keyLt_irrefl (a : Key) : keyLt a a = false := by rw [keyLt_false]; omega
theorem keyLt_trans {a b c : Key} (h1 : keyLt a b = true) (h2 : keyLt b c = true) : keyLt a c = true := by rw [keyLt_iff] at *; omega
theorem keyLt_asymm {a b : Key} (h1 : keyLt a b = true) : keyLt b a = false := by rw [keyLt_iff] at h1; rw [keyLt_false]; omega
theorem keyLt_total {a b : Key} (h1 : keyLt a b = false) (h2 : keyLt b a = false) : a = b := by
  rw [keyLt_false] at h1 h2
  exact key_eq (by omega) (by omega)
theorem keyLt_ne {a b : Key} (h : keyLt a b = true) : a ≠ b := by rintro rfl; rw [keyLt_irrefl] at h; cases h
/-- how two keys stand -/
theorem key_three (a b : Key) : (keyLt a b = true ∧ a ≠ b ∧ keyLt b a = false) ∨ (a = b ∧ keyLt a b = false) ∨ (keyLt a b = false ∧ a ≠ b ∧ keyLt b a = true) := by
  cases h : keyLt a b with
  | true => exact .inl ⟨rfl, keyLt_ne h, keyLt_asymm h⟩
  | false =>
    cases h2 : keyLt b a with
    | true => exact .inr (.inr ⟨rfl, fun e => keyLt_ne h2 e.symm, rfl⟩)
    | false => exact .inr (.inl ⟨keyLt_total h h2, rfl⟩)
/-! buffers -/
theorem bufS_cons : ∀ {a : Cel} {l : List Cel}, bufS (a :: l) = true ↔ (∀ c ∈ l, keyLt a.1 c.1 = true) ∧ bufS l = true
  | a, [] => by simp [bufS]
  | a, b :: l => by
    have ih := bufS_cons (a := b) (l := l)
    simp only [bufS, Bool.and_eq_true]
    rw [ih]
    constructor
    · rintro ⟨h1, h2, h3⟩
      refine ⟨fun c hc => ?_, h2, h3⟩
      rcases List.mem_cons.1 hc with rfl | hc
      · exact h1
      · exact keyLt_trans h1 (h2 c hc)
    · rintro ⟨h1, h2, h3⟩
      exact ⟨h1 b List.mem_cons_self, h2, h3⟩
theorem bufS_lt : ∀ {l : List Cel}, bufS l = true → ∀ (i j : Nat) (z : Cel), i < j → j < l.length → keyLt (l.getD i z).1 (l.getD j z).1 = true
  | [], _, _, j, _, _, h => by simp at h
  | a :: l, hb, i, j, z, hij, hj => by
    rw [bufS_cons] at hb
    match i, j, hij with
    | 0, j + 1, _ =>
      simp only [List.getD_cons_zero, List.getD_cons_succ]
      refine hb.1 _ ?_
      rw [List.getD_eq_getElem?_getD, List.getElem?_eq_getElem (by simpa using hj)]
      exact List.getElem_mem _
    | i + 1, j + 1, hij => simpa using bufS_lt hb.2 i j z (by omega) (by simpa using hj)
theorem bufS_of_lt : ∀ {l : List Cel}, (∀ i, i + 1 < l.length → keyLt (l.getD i ((0, 0), 0)).1 (l.getD (i + 1) ((0, 0), 0)).1 = true) → bufS l = true
  | [], _ => rfl
  | [_], _ => rfl
  | a :: b :: l, h => by
    simp only [bufS, Bool.and_eq_true]
    refine ⟨by simpa using h 0 (by simp), bufS_of_lt fun i hi => ?_⟩
    simpa using h (i + 1) (by simpa using hi)
theorem bufS_drop : ∀ {l : List Cel} (n : Nat), bufS l = true → bufS (l.drop n) = true
  | [], n, _ => by simp [bufS]
  | a :: l, 0, h => h
  | a :: l, n + 1, h => by rw [List.drop_succ_cons]; exact bufS_drop n (bufS_cons.1 h).2
theorem cntK_le : ∀ (l : List Cel) (k : Key), cntK l k ≤ l.length
  | [], _ => by simp [cntK]
  | a :: l, k => by
    have := cntK_le l k
    simp only [cntK, List.length_cons]
    split <;> omega
theorem cntK_lt : ∀ (l : List Cel) (k : Key) (i : Nat) (z : Cel), i < cntK l k → keyLt (l.getD i z).1 k = true
  | [], _, _, _, h => by simp [cntK] at h
  | a :: l, k, i, z, h => by
    simp only [cntK] at h
    split at h
    · rename_i ha
      cases i with
      | zero => simpa using ha
      | succ i => simpa using cntK_lt l k i z (by omega)
    · omega
theorem cntK_stop : ∀ (l : List Cel) (k : Key) (z : Cel), cntK l k < l.length → keyLt (l.getD (cntK l k) z).1 k = false
  | [], _, _, h => by simp [cntK] at h
  | a :: l, k, z, h => by
    simp only [cntK] at h ⊢
    split
    · rename_i ha
      rw [if_pos ha] at h
      simpa using cntK_stop l k z (by simpa using h)
    · rename_i ha
      simpa using ha
theorem cntK_iff {l : List Cel} (hb : bufS l = true) (k : Key) (i : Nat) (z : Cel) (hi : i < l.length) : keyLt (l.getD i z).1 k = true ↔ i < cntK l k := by
  constructor
  · intro h
    apply Classical.byContradiction
    intro hn
    have hlt : cntK l k < l.length := by omega
    have hs := cntK_stop l k z hlt
    by_cases e : cntK l k = i
    · rw [e, h] at hs; cases hs
    · have := keyLt_trans (bufS_lt hb (cntK l k) i z (by omega) hi) h
      rw [this] at hs; cases hs
  · exact cntK_lt l k i z
/-! puts and gets, by recursion -/
def putR : List Cel → Cel → List Cel
  | [], c => [c]
  | a :: l, c => if keyLt a.1 c.1 then a :: putR l c else if a.1 = c.1 then c :: l else c :: a :: l
def getR : List Cel → Key → Option Int
  | [], _ => none
  | a :: l, k => if keyLt a.1 k then getR l k else if a.1 = k then some a.2 else none
theorem hasK_cons_lt {a : Cel} {l : List Cel} {k : Key} (h : keyLt a.1 k = true) : hasK (a :: l) k = hasK l k := by
  simp [hasK, cntK, h]
theorem hasK_cons_ge {a : Cel} {l : List Cel} {k : Key} (h : keyLt a.1 k = false) : hasK (a :: l) k = decide (a.1 = k) := by
  simp [hasK, cntK, h]
theorem putK_eq : ∀ (l : List Cel) (c : Cel), putK l c = putR l c
  | [], c => by simp [putK, putR, cntK, hasK]
  | a :: l, c => by
    have ih := putK_eq l c
    unfold putK at ih ⊢
    cases h : keyLt a.1 c.1 with
    | true =>
      rw [hasK_cons_lt h]
      simp only [cntK, putR, h, if_true, List.take_succ_cons]
      rw [← ih]
      cases hasK l c.1 <;> simp
    | false =>
      rw [hasK_cons_ge h]
      simp only [cntK, putR, h]
      by_cases e : a.1 = c.1
      · simp [e]
      · simp [e]
theorem getK_eq : ∀ (l : List Cel) (k : Key), getK l k = match getR l k with | some v => (v, true) | none => (0, false)
  | [], k => by simp [getK, getR, hasK, cntK]
  | a :: l, k => by
    have ih := getK_eq l k
    unfold getK at ih ⊢
    cases h : keyLt a.1 k with
    | true =>
      rw [hasK_cons_lt h]
      simp only [cntK, getR, h, if_true, List.getD_cons_succ]
      exact ih
    | false =>
      rw [hasK_cons_ge h]
      simp only [cntK, getR, h]
      by_cases e : a.1 = k <;> simp [e]
theorem mem_putR {x : Cel} : ∀ {l : List Cel} {c : Cel}, x ∈ putR l c → x = c ∨ x ∈ l
  | [], c, h => by simp [putR] at h; exact .inl h
  | a :: l, c, h => by
    simp only [putR] at h
    split at h
    · rcases List.mem_cons.1 h with h | h
      · exact .inr (h ▸ List.mem_cons_self)
      · rcases mem_putR h with h | h
        · exact .inl h
        · exact .inr (List.mem_cons_of_mem _ h)
    · split at h
      · rcases List.mem_cons.1 h with h | h
        · exact .inl h
        · exact .inr (List.mem_cons_of_mem _ h)
      · rcases List.mem_cons.1 h with h | h
        · exact .inl h
        · exact .inr h
theorem bufS_put : ∀ {l : List Cel} (c : Cel), bufS l = true → bufS (putR l c) = true
  | [], c, _ => rfl
  | a :: l, c, h => by
    have h' := bufS_cons.1 h
    simp only [putR]
    split
    · rename_i ha
      refine bufS_cons.2 ⟨fun x hx => ?_, bufS_put c h'.2⟩
      rcases mem_putR hx with rfl | hx
      · exact ha
      · exact h'.1 x hx
    · rename_i ha
      split
      · rename_i e
        refine bufS_cons.2 ⟨fun x hx => ?_, h'.2⟩
        rw [← e]; exact h'.1 x hx
      · rename_i e
        have hca : keyLt c.1 a.1 = true := by
          rcases key_three a.1 c.1 with h | h | h
          · exact absurd h.1 ha
          · exact absurd h.1 e
          · exact h.2.2
        refine bufS_cons.2 ⟨fun x hx => ?_, h⟩
        rcases List.mem_cons.1 hx with rfl | hx
        · exact hca
        · exact keyLt_trans hca (h'.1 x hx)
theorem getR_lt : ∀ {l : List Cel} {k : Key}, (∀ c ∈ l, keyLt k c.1 = true) → getR l k = none
  | [], _, _ => rfl
  | a :: l, k, h => by
    have ha := h a List.mem_cons_self
    simp only [getR]
    rw [if_neg (by rw [keyLt_asymm ha]; decide), if_neg (fun e => keyLt_ne ha e.symm)]
theorem getR_put : ∀ {l : List Cel} (c : Cel) (k : Key), bufS l = true → getR (putR l c) k = if k = c.1 then some c.2 else getR l k
  | [], c, k, _ => by
    simp only [putR, getR]
    rcases key_three c.1 k with ⟨h1, h2, _⟩ | ⟨rfl, h1⟩ | ⟨h1, h2, _⟩
    · simp [h1, h2.symm]
    · simp [h1]
    · simp [h1, h2, h2.symm]
  | a :: l, c, k, h => by
    have h' := bufS_cons.1 h
    have ih := getR_put (l := l) c k h'.2
    simp only [putR]
    rcases key_three a.1 c.1 with ⟨h1, h2, h3⟩ | ⟨h1, h2⟩ | ⟨h1, h2, h3⟩
    · rw [if_pos h1]
      simp only [getR, ih]
      rcases key_three a.1 k with ⟨k1, k2, k3⟩ | ⟨k1, k2⟩ | ⟨k1, k2, k3⟩
      · simp [k1]
      · subst k1; simp [k2, h2]
      · have : k ≠ c.1 := by rintro rfl; rw [h1] at k1; cases k1
        simp [k1, k2, this]
    · rw [if_neg (by rw [h2]; decide), if_pos h1]
      simp only [getR]
      rw [← h1]
      rcases key_three a.1 k with ⟨k1, k2, k3⟩ | ⟨k1, k2⟩ | ⟨k1, k2, k3⟩
      · simp [k1, k2.symm]
      · subst k1; simp [k2]
      · simp [k1, k2, k2.symm]
    · rw [if_neg (by rw [h1]; decide), if_neg h2]
      simp only [getR]
      rcases key_three c.1 k with ⟨k1, k2, k3⟩ | ⟨k1, k2⟩ | ⟨k1, k2, k3⟩
      · simp [k1, k2.symm]
      · subst k1; simp [k2]
      · have hka : keyLt k a.1 = true := keyLt_trans k3 h3
        simp [k1, k2, k2.symm, keyLt_asymm hka, (keyLt_ne hka).symm]
/-- buffers that answer alike are one -/
theorem buf_ext : ∀ {a b : List Cel}, bufS a = true → bufS b = true → (∀ k, getR a k = getR b k) → a = b
  | [], [], _, _, _ => rfl
  | [], b :: l, _, hb, h => by
    have := h b.1
    simp [getR, keyLt_irrefl] at this
  | a :: l, [], _, _, h => by
    have := h a.1
    simp [getR, keyLt_irrefl] at this
  | a :: l, b :: m, ha, hb, h => by
    have ha' := bufS_cons.1 ha
    have hb' := bufS_cons.1 hb
    rcases key_three a.1 b.1 with ⟨h1, h2, h3⟩ | ⟨h1, h2⟩ | ⟨h1, h2, h3⟩
    · have := h a.1
      simp [getR, keyLt_irrefl, h3, h2.symm] at this
    · have hv := h a.1
      rw [h1] at hv
      have e2 : a.2 = b.2 := by simpa [getR, keyLt_irrefl, h1] using hv
      have e : a = b := Prod.ext h1 e2
      subst e
      congr 1
      refine buf_ext ha'.2 hb'.2 fun k => ?_
      have hk := h k
      simp only [getR] at hk
      rcases key_three a.1 k with ⟨k1, k2, k3⟩ | ⟨k1, k2⟩ | ⟨k1, k2, k3⟩
      · simpa [k1] using hk
      · subst k1
        rw [getR_lt ha'.1, getR_lt hb'.1]
      · rw [getR_lt fun c hc => keyLt_trans k3 (ha'.1 c hc), getR_lt fun c hc => keyLt_trans k3 (hb'.1 c hc)]
    · have := h b.1
      simp [getR, keyLt_irrefl, h1, h2] at this
theorem putR_len : ∀ (l : List Cel) (c : Cel), (putR l c).length ≤ l.length + 1
  | [], _ => by simp [putR]
  | a :: l, c => by
    have := putR_len l c
    simp only [putR]
    split
    · simp only [List.length_cons]; omega
    · split <;> simp
/-! what is made by numbers -/
def cellsR (ks : List Int) : List Cel := ks.foldl (fun l k => putR l (cellS k)) []
theorem cellsS_eq (ks : List Int) : cellsS ks = cellsR (ks.take 20) := by
  unfold cellsS cellsR
  congr 1
  funext l k
  exact putK_eq l _
theorem foldl_buf (ks : List Int) : ∀ l, bufS l = true → bufS (ks.foldl (fun l k => putR l (cellS k)) l) = true := by
  induction ks with
  | nil => intro l h; exact h
  | cons k ks ih => intro l h; exact ih _ (bufS_put _ h)
theorem foldl_len (ks : List Int) : ∀ l : List Cel, (ks.foldl (fun l k => putR l (cellS k)) l).length ≤ l.length + ks.length := by
  induction ks with
  | nil => intro l; simp
  | cons k ks ih =>
    intro l
    have h1 := ih (putR l (cellS k))
    have h2 := putR_len l (cellS k)
    simp only [List.foldl_cons, List.length_cons]
    omega
theorem cellsS_buf (ks : List Int) : bufS (cellsS ks) = true := by rw [cellsS_eq]; exact foldl_buf _ _ rfl
theorem cellsS_len (ks : List Int) : (cellsS ks).length ≤ 20 := by
  rw [cellsS_eq]
  have := foldl_len (ks.take 20) []
  unfold cellsR
  simp at this
  omega
theorem keyS_ok (k : Int) : 0 ≤ (keyS k).1 ∧ (keyS k).1 < 4 ∧ 0 ≤ (keyS k).2 ∧ (keyS k).2 < 65536 := by
  have h1 := Int.emod_nonneg k (show (4 : Int) ≠ 0 by decide)
  have h2 := Int.emod_lt_of_pos k (show (0 : Int) < 4 by decide)
  have h3 := digitS_range k 4 (n := 16) (by decide)
  unfold keyS
  simp only
  split <;> omega
theorem cellS_ok (k : Int) : 0 ≤ (cellS k).2 ∧ (cellS k).2 < 65536 ∧ ((cellS k).1.1 < 2 → (cellS k).2 < 2) := by
  have h3 := digitS_range k 1024 (n := 65536) (by decide)
  unfold cellS keyS
  simp only
  split <;> omega
theorem spanS_ok (k : Int) : spanR (spanS k) = true := by
  have h1 := Int.emod_nonneg k (show (4 : Int) ≠ 0 by decide)
  have h2 := Int.emod_lt_of_pos k (show (0 : Int) < 4 by decide)
  have h3 := digitS_range k 4 (n := 40) (by decide)
  have h4 := digitS_range k 160 (n := 12) (by decide)
  unfold spanS spanR
  simp only [Bool.and_eq_true, decide_eq_true_eq]
  refine ⟨h1, h2, ?_, ?_, ?_⟩ <;> split <;> (try split) <;> omega
theorem spanR_iff {s : Spn} : spanR s = true ↔ 0 ≤ s.1 ∧ s.1 < 4 ∧ 0 ≤ s.2.1 ∧ s.2.2 ≤ 65536 ∧ s.2.1 < s.2.2 := by simp [spanR]
end Go.BB
/-! plain lemmas on stores -/
namespace Go.BB
open Go
theorem eqK_iff {a b : Key} : eqK a b = true ↔ a = b := by
  show (eqI a.1 b.1 && eqI a.2 b.2) = true ↔ _
  simp only [Bool.and_eq_true, eqI, beq_iff_eq]
  exact ⟨fun h => Prod.ext h.1 h.2, fun h => by subst h; exact ⟨rfl, rfl⟩⟩
theorem eqK_false {a b : Key} : eqK a b = false ↔ a ≠ b := by
  rw [← Bool.not_eq_true, eqK_iff]
theorem midx_cons {V : Type} (p : Key × V) (m : List (Key × V)) (k : Key) : midx eqK (p :: m) k = if p.1 = k then some 0 else (midx eqK m k).map (· + 1) := by
  show (match eqK p.1 k with | true => _ | false => _) = _
  by_cases h : p.1 = k
  · rw [eqK_iff.2 h, if_pos h]
  · rw [eqK_false.2 h, if_neg h]
theorem midx_lt {V : Type} : ∀ {m : List (Key × V)} {k : Key} {j : Nat}, midx eqK m k = some j → ∃ p, m[j]? = some p ∧ p.1 = k
  | [], k, j, h => by cases h
  | p :: m, k, j, h => by
    rw [midx_cons] at h
    split at h
    · cases h; rename_i hp; exact ⟨p, rfl, hp⟩
    · simp only [Option.map_eq_some_iff] at h
      obtain ⟨i, h1, rfl⟩ := h
      obtain ⟨q, h2, h3⟩ := midx_lt h1
      exact ⟨q, by simpa using h2, h3⟩
theorem mval_succ {K V : Type} (p : K × List V) (m : List (K × List V)) (n : Option Nat) (h : n.isSome = true) : mval (p :: m) (n.map (· + 1)) = mval m n := by
  cases n with
  | none => cases h
  | some j => simp [mval]
theorem chnOf_nil (k : Key) : chnOf [] k = [] := rfl
theorem chnOf_cons (p : Key × List Ver) (m : Chs) (k : Key) : chnOf (p :: m) k = if p.1 = k then p.2 else chnOf m k := by
  unfold chnOf
  rw [midx_cons]
  split
  · rfl
  · cases hm : midx eqK m k with
    | none => rfl
    | some j => exact mval_succ p m (some j) rfl
theorem ment_cons (p : Key × List Ver) (m : Chs) (k : Key) : ment eqK (p :: m) k = if p.1 = k then p :: m else p :: ment eqK m k := by
  unfold ment
  rw [midx_cons]
  by_cases h : p.1 = k
  · rw [if_pos h, if_pos h]
  · rw [if_neg h, if_neg h]
    cases midx eqK m k <;> rfl
theorem ment_some (m : Chs) (k : Key) : ∃ j, midx eqK (ment eqK m k) k = some j := by
  induction m with
  | nil => exact ⟨0, by show midx eqK ([] ++ [(k, [])]) k = _; rw [List.nil_append, midx_cons, if_pos rfl]⟩
  | cons p m ih =>
    rw [ment_cons]
    split
    · rename_i h; exact ⟨0, by rw [midx_cons, if_pos h]⟩
    · rename_i h
      obtain ⟨j, hj⟩ := ih
      exact ⟨j + 1, by rw [midx_cons, if_neg h, hj]; rfl⟩
theorem isSm_ment (m : Chs) (k : Key) : isSm (midx eqK (ment eqK m k) k) = true := by
  obtain ⟨j, hj⟩ := ment_some m k
  rw [hj]; rfl
theorem mval_ment (m : Chs) (k : Key) : mval (ment eqK m k) (midx eqK (ment eqK m k) k) = chnOf m k := by
  induction m with
  | nil =>
    show mval ([] ++ [(k, [])]) (midx eqK ([] ++ [(k, [])]) k) = []
    rw [List.nil_append, midx_cons, if_pos rfl]; rfl
  | cons p m ih =>
    rw [ment_cons, chnOf_cons]
    split
    · rename_i h; rw [midx_cons, if_pos h]; rfl
    · rename_i h
      rw [midx_cons, if_neg h]
      obtain ⟨j, hj⟩ := ment_some m k
      rw [hj] at ih ⊢
      exact (mval_succ p _ (some j) rfl).trans ih
theorem mput_same (m : Chs) (k : Key) : mput m (midx eqK m k) (chnOf m k) = m := by
  induction m with
  | nil => rfl
  | cons p m ih =>
    rw [chnOf_cons, midx_cons]
    split
    · rename_i h; rfl
    · cases hm : midx eqK m k with
      | none => rfl
      | some j =>
        rw [hm] at ih
        simp only [Option.map_some, mput, List.getElem?_cons_succ] at ih ⊢
        cases hj : m[j]? with
        | none => rfl
        | some q =>
          rw [hj] at ih
          simp only at ih ⊢
          rw [List.set_cons_succ, ih]
theorem laid_nil (k : Key) (v : Ver) : laid [] k v = [(k, [v])] := by
  unfold laid
  rw [mval_ment]
  show mput ([] ++ [(k, [])]) (midx eqK ([] ++ [(k, [])]) k) (cat [] [v]) = _
  rw [List.nil_append, midx_cons, if_pos rfl]; rfl
theorem laid_cons (p : Key × List Ver) (m : Chs) (k : Key) (v : Ver) : laid (p :: m) k v = if p.1 = k then (p.1, p.2 ++ [v]) :: m else p :: laid m k v := by
  unfold laid
  rw [mval_ment, mval_ment, chnOf_cons, ment_cons]
  split
  · rename_i h; rw [midx_cons, if_pos h]; rfl
  · rename_i h
    rw [midx_cons, if_neg h]
    obtain ⟨j, hj⟩ := ment_some m k
    obtain ⟨q, hq, _⟩ := midx_lt hj
    rw [hj]
    simp only [Option.map_some, mput, List.getElem?_cons_succ, hq, List.set_cons_succ]
theorem chnOf_laid (m : Chs) (k : Key) (v : Ver) (k' : Key) : chnOf (laid m k v) k' = if k = k' then chnOf m k ++ [v] else chnOf m k' := by
  induction m with
  | nil => rw [laid_nil, chnOf_cons, chnOf_nil, chnOf_nil]; rfl
  | cons p m ih =>
    rw [laid_cons, chnOf_cons, chnOf_cons]
    by_cases h : p.1 = k
    · rw [if_pos h, if_pos h, chnOf_cons]
      by_cases h' : k = k'
      · rw [if_pos (h.trans h'), if_pos h']
      · rw [if_neg (fun e => h' (h.symm.trans e)), if_neg h', if_neg (fun e => h' (h.symm.trans e))]
    · rw [if_neg h, if_neg h, chnOf_cons, ih]
      by_cases h' : k = k'
      · subst h'; rw [if_neg h, if_pos rfl, if_pos rfl]
      · rw [if_neg h', if_neg h']
theorem chsLen_cons (p : Key × List Ver) (m : Chs) : chsLen (p :: m) = p.2.length + chsLen m := by simp [chsLen]
theorem chsLen_laid (m : Chs) (k : Key) (v : Ver) : chsLen (laid m k v) = chsLen m + 1 := by
  induction m with
  | nil => rw [laid_nil]; rfl
  | cons p m ih =>
    rw [laid_cons]
    split
    · rw [chsLen_cons, chsLen_cons]; simp; omega
    · rw [chsLen_cons, chsLen_cons, ih]; omega
theorem chnOf_len (m : Chs) (k : Key) : (chnOf m k).length ≤ chsLen m := by
  induction m with
  | nil => simp [chnOf_nil]
  | cons p m ih =>
    rw [chnOf_cons, chsLen_cons]
    split <;> omega
theorem laidAll_nil (q : Int) (m : Chs) : laidAll q m [] = m := rfl
theorem laidAll_cons (q : Int) (m : Chs) (c : Cel) (l : List Cel) : laidAll q m (c :: l) = laidAll q (laid m c.1 (q, c.2)) l := rfl
theorem laidAll_snoc (q : Int) (m : Chs) (l : List Cel) (c : Cel) : laidAll q m (l ++ [c]) = laid (laidAll q m l) c.1 (q, c.2) := by simp [laidAll]
theorem chsLen_laidAll (q : Int) : ∀ (l : List Cel) (m : Chs), chsLen (laidAll q m l) = chsLen m + l.length
  | [], m => by simp [laidAll_nil]
  | c :: l, m => by rw [laidAll_cons, chsLen_laidAll q l, chsLen_laid]; simp; omega
/-- cells whose keys differ -/
def nodupK (l : List Cel) : Prop := (l.map (·.1)).Nodup
theorem onceGo_iff : ∀ (l : List Cel) (seen : List Key), onceGo seen l = true ↔ (∀ c ∈ l, celR c = true) ∧ (∀ c ∈ l, c.1 ∉ seen) ∧ nodupK l
  | [], seen => by simp [onceGo, nodupK]
  | c :: l, seen => by
    unfold onceGo
    simp only [Bool.and_eq_true, onceGo_iff l, List.mem_cons, forall_eq_or_imp, Bool.not_eq_true', List.any_eq_false, decide_eq_true_eq, nodupK, List.map_cons, List.nodup_cons, List.mem_map]
    constructor
    · rintro ⟨h1, h2, h3, h4, h5⟩
      refine ⟨⟨h1, h3⟩, ⟨fun h => h2 _ h rfl, fun d hd h => h4 d hd (.inr h)⟩, ?_, h5⟩
      rintro ⟨d, hd, e⟩
      exact h4 d hd (.inl e)
    · rintro ⟨⟨h1, h3⟩, ⟨h4, h6⟩, h7, h5⟩
      refine ⟨h1, fun x hx e => h4 (e ▸ hx), h3, fun d hd h => ?_, h5⟩
      rcases h with h | h
      · exact h7 ⟨d, hd, h⟩
      · exact h6 d hd h
theorem onceS_iff (l : List Cel) : onceS l = true ↔ (∀ c ∈ l, celR c = true) ∧ nodupK l ∧ l ≠ [] := by
  unfold onceS
  simp only [Bool.and_eq_true, onceGo_iff, decide_eq_true_eq, List.not_mem_nil, not_false_eq_true, implies_true, true_and, and_assoc]
/-- what stands at a key behind cells of unlike keys -/
theorem chnOf_laidAll (q : Int) : ∀ (l : List Cel) (m : Chs) (k : Key), nodupK l → chnOf (laidAll q m l) k = match l.find? (fun c => decide (c.1 = k)) with | some c => chnOf m k ++ [(q, c.2)] | none => chnOf m k
  | [], m, k, _ => rfl
  | c :: l, m, k, h => by
    have h' : c.1 ∉ l.map (·.1) ∧ nodupK l := List.nodup_cons.1 h
    rw [laidAll_cons, chnOf_laidAll q l _ k h'.2, List.find?_cons, chnOf_laid]
    by_cases hk : c.1 = k
    · have hno : l.find? (fun d => decide (d.1 = k)) = none := by
        rw [List.find?_eq_none]
        intro d hd
        simp only [decide_eq_true_eq]
        intro e
        exact h'.1 (List.mem_map.2 ⟨d, hd, e.trans hk.symm⟩)
      rw [hno, decide_eq_true hk, if_pos hk, hk]
    · rw [decide_eq_false hk, if_neg hk]
/-! what is so of each store -/
structure StoOk (s : Sto) : Prop where
  u : 0 ≤ s.1 ∧ s.1 ≤ 18446744073709551615
  n : 0 ≤ s.2.1 ∧ s.2.1 ≤ s.2.2.1
  most : s.2.2.1 ≤ 1048576
  few : s.2.1 ≤ 500000
  len : (chsLen s.2.2.2.1 : Int) = s.2.1
  rows : ∀ p ∈ s.2.2.2.1, rightFrom 0 p.2 = true ∧ newS p.2 ≤ s.1
theorem stoOk_iff (s : Sto) : stoOk s = true ↔ StoOk s := by
  unfold stoOk isU
  simp only [Bool.and_eq_true, decide_eq_true_eq, List.all_eq_true]
  constructor
  · rintro ⟨⟨h1, h2⟩, h3, h4, h5, h8, h6, h7⟩
    exact ⟨⟨h1, h2⟩, ⟨h3, h4⟩, h5, h8, h6, h7⟩
  · rintro ⟨⟨h1, h2⟩, ⟨h3, h4⟩, h5, h8, h6, h7⟩
    exact ⟨⟨h1, h2⟩, h3, h4, h5, h8, h6, h7⟩
theorem chnOf_ok {s : Sto} (h : StoOk s) (k : Key) : rightFrom 0 (chnOf s.2.2.2.1 k) = true ∧ newS (chnOf s.2.2.2.1 k) ≤ s.1 ∧ (chnOf s.2.2.2.1 k).length ≤ 500000 := by
  have hl := chnOf_len s.2.2.2.1 k
  refine ⟨?_, ?_, by have := h.len; have := h.few; omega⟩
  all_goals
    have hrow := h.rows
    generalize s.2.2.2.1 = m at hrow
    clear hl
    induction m with
    | nil => first | rfl | exact h.u.1
    | cons p m ih =>
      rw [chnOf_cons]
      split
      · first | exact (hrow p List.mem_cons_self).1 | exact (hrow p List.mem_cons_self).2
      · exact ih fun q hq => hrow q (List.mem_cons_of_mem _ hq)
end Go.BB
