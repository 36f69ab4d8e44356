/- A symbolic machine for the model's code, and what it shows of this seat's functions. No conditions. -/
import Derived.Test.YtnofmeckcimodaaBSView
import Derived.Test.YtnofmeckcimodaaBLGc
set_option linter.unusedSimpArgs false
set_option linter.unusedVariables false
/-! plain lemmas on sums of spans -/
namespace Go.BB
open Go
theorem aheadS_iff {a b : Spn} : aheadS a b = true ↔ a.1 < b.1 ∨ (a.1 = b.1 ∧ a.2.2 < b.2.1) := by simp [aheadS]
theorem aheadS_not {a b : Spn} : aheadS a b = false ↔ ¬ (a.1 < b.1 ∨ (a.1 = b.1 ∧ a.2.2 < b.2.1)) := by rw [← aheadS_iff]; simp
theorem aheadS_trans {a b c : Spn} (hb : spanR b = true) (h1 : aheadS a b = true) (h2 : aheadS b c = true) : aheadS a c = true := by
  rw [spanR_iff] at hb; rw [aheadS_iff] at *; omega
theorem canonS_iff : ∀ {x : Spn} {l : List Spn}, canonS (x :: l) = true ↔ spanR x = true ∧ (∀ y ∈ l, aheadS x y = true) ∧ canonS l = true
  | x, [] => by simp [canonS]
  | x, y :: l => by
    show (spanR x && (aheadS x y && canonS (y :: l))) = true ↔ _
    rw [Bool.and_eq_true, Bool.and_eq_true]
    constructor
    · rintro ⟨h1, h2, h3⟩
      have h4 := canonS_iff.1 h3
      refine ⟨h1, fun z hz => ?_, h3⟩
      rcases List.mem_cons.1 hz with rfl | hz
      · exact h2
      · exact aheadS_trans h4.1 h2 (h4.2.1 z hz)
    · rintro ⟨h1, h2, h3⟩
      exact ⟨h1, h2 y List.mem_cons_self, h3⟩
theorem canonS_right : ∀ {l : List Spn}, canonS l = true → ∀ x ∈ l, spanR x = true
  | [], _, _, h => by cases h
  | y :: l, h, x, hx => by
    have h' := canonS_iff.1 h
    rcases List.mem_cons.1 hx with rfl | hx
    · exact h'.1
    · exact canonS_right h'.2.2 x hx
theorem spanR_merge {s x : Spn} (hs : spanR s = true) (hx : spanR x = true) : spanR (mergeS s x) = true := by
  rw [spanR_iff] at *
  show 0 ≤ s.1 ∧ s.1 < 4 ∧ 0 ≤ min s.2.1 x.2.1 ∧ max s.2.2 x.2.2 ≤ 65536 ∧ min s.2.1 x.2.1 < max s.2.2 x.2.2
  omega
theorem ahead_merge {s x y : Spn} (h1 : aheadS y s = true) (h2 : aheadS y x = true) (e : s.1 = x.1) : aheadS y (mergeS s x) = true := by
  rw [aheadS_iff] at *
  show y.1 < s.1 ∨ (y.1 = s.1 ∧ y.2.2 < min s.2.1 x.2.1)
  omega
theorem touch {s x : Spn} (h1 : aheadS x s = false) (h2 : aheadS s x = false) : s.1 = x.1 := by
  rw [aheadS_not] at *; omega
theorem addGo_ahead {y : Spn} : ∀ (l : List Spn) (s : Spn), (∀ z ∈ l, aheadS y z = true) → aheadS y s = true → ∀ z ∈ addGo l s, aheadS y z = true
  | [], s, _, hs, z, hz => by rw [List.mem_singleton.1 hz]; exact hs
  | x :: l, s, hl, hs, z, hz => by
    unfold addGo at hz
    split at hz
    · rcases List.mem_cons.1 hz with rfl | hz
      · exact hl _ List.mem_cons_self
      · exact addGo_ahead l s (fun z hz => hl z (List.mem_cons_of_mem _ hz)) hs z hz
    · split at hz
      · rcases List.mem_cons.1 hz with rfl | hz
        · exact hs
        · exact hl z hz
      · rename_i h1 h2
        exact addGo_ahead l _ (fun z hz => hl z (List.mem_cons_of_mem _ hz)) (ahead_merge hs (hl x List.mem_cons_self) (touch (by simpa using h1) (by simpa using h2))) z hz
theorem addGo_canon : ∀ {l : List Spn} {s : Spn}, canonS l = true → spanR s = true → canonS (addGo l s) = true
  | [], s, _, hs => canonS_iff.2 ⟨hs, (fun y hy => nomatch hy), rfl⟩
  | x :: l, s, hl, hs => by
    have h := canonS_iff.1 hl
    unfold addGo
    split
    · rename_i h1
      exact canonS_iff.2 ⟨h.1, addGo_ahead l s h.2.1 h1, addGo_canon h.2.2 hs⟩
    · split
      · rename_i h1 h2
        refine canonS_iff.2 ⟨hs, fun y hy => ?_, hl⟩
        rcases List.mem_cons.1 hy with rfl | hy
        · exact h2
        · exact aheadS_trans h.1 h2 (h.2.1 y hy)
      · exact addGo_canon h.2.2 (spanR_merge hs h.1)
theorem addGo_len : ∀ (l : List Spn) (s : Spn), (addGo l s).length ≤ l.length + 1
  | [], s => by simp [addGo]
  | x :: l, s => by
    unfold addGo
    split
    · have := addGo_len l s; simp only [List.length_cons]; omega
    · split
      · simp
      · have := addGo_len l (mergeS s x); simp only [List.length_cons]; omega
theorem hasS_cons1 (x : Spn) (l : List Spn) (k : Key) : hasS (x :: l) k = true ↔ (x.1 = k.1 ∧ x.2.1 ≤ k.2 ∧ k.2 < x.2.2) ∨ hasS l k = true := by
  simp only [hasS, List.any_cons, Bool.or_eq_true, Bool.and_eq_true, decide_eq_true_eq]
theorem addGo_has (k : Key) : ∀ (l : List Spn) (s : Spn), canonS l = true → spanR s = true → (hasS (addGo l s) k = true ↔ hasS l k = true ∨ (s.1 = k.1 ∧ s.2.1 ≤ k.2 ∧ k.2 < s.2.2))
  | [], s, _, _ => by
    show hasS [s] k = true ↔ _
    rw [hasS_cons1]
    simp [hasS]
  | x :: l, s, hl, hs => by
    have h := canonS_iff.1 hl
    unfold addGo
    split
    · rw [hasS_cons1, hasS_cons1, addGo_has k l s h.2.2 hs]
      constructor
      · rintro (h | h | h)
        · exact .inl (.inl h)
        · exact .inl (.inr h)
        · exact .inr h
      · rintro ((h | h) | h)
        · exact .inl h
        · exact .inr (.inl h)
        · exact .inr (.inr h)
    · split
      · rw [hasS_cons1]
        exact ⟨fun h => h.symm, fun h => h.symm⟩
      · rename_i h1 h2
        rw [addGo_has k l _ h.2.2 (spanR_merge hs h.1), hasS_cons1]
        have ht := touch (by simpa using h1) (by simpa using h2)
        have h1' := aheadS_not.1 (by simpa using h1)
        have h2' := aheadS_not.1 (by simpa using h2)
        have hx := spanR_iff.1 h.1
        have hs' := spanR_iff.1 hs
        have e : (mergeS s x).1 = k.1 ∧ (mergeS s x).2.1 ≤ k.2 ∧ k.2 < (mergeS s x).2.2 ↔ (x.1 = k.1 ∧ x.2.1 ≤ k.2 ∧ k.2 < x.2.2) ∨ (s.1 = k.1 ∧ s.2.1 ≤ k.2 ∧ k.2 < s.2.2) := by
          show s.1 = k.1 ∧ min s.2.1 x.2.1 ≤ k.2 ∧ k.2 < max s.2.2 x.2.2 ↔ _
          omega
        rw [e]
        constructor
        · rintro (h | h | h)
          · exact .inl (.inr h)
          · exact .inl (.inl h)
          · exact .inr h
        · rintro ((h | h) | h)
          · exact .inr (.inl h)
          · exact .inl h
          · exact .inr (.inr h)
/-- canonical spans of the same addresses are the same -/
theorem canon_ext : ∀ {a b : List Spn}, canonS a = true → canonS b = true → (∀ k, hasS a k = true ↔ hasS b k = true) → a = b
  | [], [], _, _, _ => rfl
  | [], y :: b, _, hb, h => by
    have hy := spanR_iff.1 (canonS_iff.1 hb).1
    have := (h (y.1, y.2.1)).2 ((hasS_cons1 _ _ _).2 (.inl ⟨rfl, Int.le_refl _, hy.2.2.2.2⟩))
    cases this
  | x :: a, [], ha, _, h => by
    have hx := spanR_iff.1 (canonS_iff.1 ha).1
    have := (h (x.1, x.2.1)).1 ((hasS_cons1 _ _ _).2 (.inl ⟨rfl, Int.le_refl _, hx.2.2.2.2⟩))
    cases this
  | x :: a, y :: b, ha, hb, h => by
    have ha' := canonS_iff.1 ha
    have hb' := canonS_iff.1 hb
    have hx := spanR_iff.1 ha'.1
    have hy := spanR_iff.1 hb'.1
    have mem : ∀ {l : List Spn} {k : Key}, hasS l k = true → ∃ z ∈ l, z.1 = k.1 ∧ z.2.1 ≤ k.2 ∧ k.2 < z.2.2 := by
      intro l k hh
      simp only [hasS, List.any_eq_true, Bool.and_eq_true, decide_eq_true_eq] at hh
      exact hh
    -- the first addresses
    have f1 : keyLt (x.1, x.2.1) (y.1, y.2.1) = false := by
      have := (h (x.1, x.2.1)).1 ((hasS_cons1 _ _ _).2 (.inl ⟨rfl, Int.le_refl _, hx.2.2.2.2⟩))
      obtain ⟨z, hz, e1, e2, e3⟩ := mem this
      simp only at e1 e2 e3
      rw [keyLt_false]
      simp only
      rcases List.mem_cons.1 hz with rfl | hz
      · omega
      · have := aheadS_iff.1 (hb'.2.1 z hz); omega
    have f2 : keyLt (y.1, y.2.1) (x.1, x.2.1) = false := by
      have := (h (y.1, y.2.1)).2 ((hasS_cons1 _ _ _).2 (.inl ⟨rfl, Int.le_refl _, hy.2.2.2.2⟩))
      obtain ⟨z, hz, e1, e2, e3⟩ := mem this
      simp only at e1 e2 e3
      rw [keyLt_false]
      simp only
      rcases List.mem_cons.1 hz with rfl | hz
      · omega
      · have := aheadS_iff.1 (ha'.2.1 z hz); omega
    have fe := keyLt_total f1 f2
    simp only [Prod.mk.injEq] at fe
    -- the ends
    have g1 : ¬ x.2.2 < y.2.2 := by
      intro hlt
      have := (h (x.1, x.2.2)).2 ((hasS_cons1 _ _ _).2 (.inl ⟨fe.1.symm, by simp only; omega, hlt⟩))
      obtain ⟨z, hz, e1, e2, e3⟩ := mem this
      simp only at e1 e2 e3
      rcases List.mem_cons.1 hz with rfl | hz
      · omega
      · have := aheadS_iff.1 (ha'.2.1 z hz); omega
    have g2 : ¬ y.2.2 < x.2.2 := by
      intro hlt
      have := (h (y.1, y.2.2)).1 ((hasS_cons1 _ _ _).2 (.inl ⟨fe.1, by simp only; omega, hlt⟩))
      obtain ⟨z, hz, e1, e2, e3⟩ := mem this
      simp only at e1 e2 e3
      rcases List.mem_cons.1 hz with rfl | hz
      · omega
      · have := aheadS_iff.1 (hb'.2.1 z hz); omega
    have exy : x = y := Prod.ext fe.1 (Prod.ext fe.2 (by omega))
    subst exy
    congr 1
    refine canon_ext ha'.2.2 hb'.2.2 fun k => ?_
    have hk := h k
    rw [hasS_cons1, hasS_cons1] at hk
    have no : ∀ {l : List Spn}, (∀ y ∈ l, aheadS x y = true) → hasS l k = true → ¬ (x.1 = k.1 ∧ x.2.1 ≤ k.2 ∧ k.2 < x.2.2) := by
      intro l hl hh
      obtain ⟨z, hz, e1, e2, e3⟩ := mem hh
      have := aheadS_iff.1 (hl z hz)
      omega
    constructor
    · intro hh
      rcases hk.1 (.inr hh) with h3 | h3
      · exact absurd h3 (no ha'.2.1 hh)
      · exact h3
    · intro hh
      rcases hk.2 (.inr hh) with h3 | h3
      · exact absurd h3 (no hb'.2.1 hh)
      · exact h3
theorem addAll_canon : ∀ {r l : List Spn}, canonS l = true → (∀ x ∈ r, spanR x = true) → canonS (addAll l r) = true
  | [], l, h, _ => h
  | x :: r, l, h, hr => by
    show canonS (addAll (addGo l x) r) = true
    exact addAll_canon (addGo_canon h (hr x List.mem_cons_self)) fun y hy => hr y (List.mem_cons_of_mem _ hy)
theorem addAll_has (k : Key) : ∀ {r l : List Spn}, canonS l = true → (∀ x ∈ r, spanR x = true) → (hasS (addAll l r) k = true ↔ hasS l k = true ∨ hasS r k = true)
  | [], l, h, _ => by
    show hasS l k = true ↔ hasS l k = true ∨ hasS [] k = true
    simp [hasS]
  | x :: r, l, h, hr => by
    show hasS (addAll (addGo l x) r) k = true ↔ _
    rw [addAll_has k (addGo_canon h (hr x List.mem_cons_self)) (fun y hy => hr y (List.mem_cons_of_mem _ hy)), addGo_has k l x h (hr x List.mem_cons_self), hasS_cons1]
    constructor
    · rintro ((h | h) | h)
      · exact .inl h
      · exact .inr (.inl h)
      · exact .inr (.inr h)
    · rintro (h | h | h)
      · exact .inl (.inl h)
      · exact .inl (.inr h)
      · exact .inr h
theorem addAll_len : ∀ (r l : List Spn), (addAll l r).length ≤ l.length + r.length
  | [], l => by simp [addAll]
  | x :: r, l => by
    have h1 := addGo_len l x
    have h2 := addAll_len r (addGo l x)
    show (addAll (addGo l x) r).length ≤ _
    simp only [List.length_cons]; omega
theorem spansS_canon (ks : List Int) : canonS (spansS ks) = true := by
  unfold spansS
  generalize ks.take 20 = l
  have : ∀ (l : List Int) (a : List Spn), canonS a = true → canonS (l.foldl (fun l k => addGo l (spanS k)) a) = true := by
    intro l
    induction l with
    | nil => intro a h; exact h
    | cons k l ih => intro a h; exact ih _ (addGo_canon h (spanS_ok k))
  exact this l [] rfl
theorem spansS_len (ks : List Int) : (spansS ks).length ≤ 20 := by
  have : ∀ (l : List Int) (a : List Spn), (l.foldl (fun l k => addGo l (spanS k)) a).length ≤ a.length + l.length := by
    intro l
    induction l with
    | nil => intro a; simp
    | cons k l ih =>
      intro a
      have h1 := ih (addGo a (spanS k))
      have h2 := addGo_len a (spanS k)
      simp only [List.foldl_cons, List.length_cons]
      omega
  have h := this (ks.take 20) []
  simp only [List.length_nil, List.length_take] at h
  unfold spansS
  omega
theorem canonS_drop : ∀ {l : List Spn} (n : Nat), canonS l = true → canonS (l.drop n) = true
  | [], n, _ => by simp [canonS]
  | x :: l, 0, h => h
  | x :: l, n + 1, h => by rw [List.drop_succ_cons]; exact canonS_drop n (canonS_iff.1 h).2.2
theorem aheadS_asymm {a b : Spn} (ha : spanR a = true) (hb : spanR b = true) (h : aheadS a b = true) : aheadS b a = false := by
  rw [spanR_iff] at ha hb; rw [aheadS_iff] at h; rw [aheadS_not]; omega
theorem ins_eq (A B : List Spn) (s : Spn) : ((splice (A ++ B ++ [s]) (List.take ((A ++ B ++ [s]).length - A.length) (List.drop A.length (A ++ B ++ [s]))) (A.length + 1) ((A ++ B ++ [s]).length - (A.length + 1))).set A.length s) = A ++ s :: B := by
  have h1 : List.drop A.length (A ++ B ++ [s]) = B ++ [s] := by simp
  rw [h1, List.take_of_length_le (by simp)]
  unfold splice
  have e1 : (A ++ B ++ [s]).length - (A.length + 1) = B.length := by simp; omega
  rw [e1]
  have e2 : (B ++ [s]).take B.length = B := by simp
  have e3 : Nat.min (B ++ [s]).length B.length = B.length := by show min _ _ = _; simp
  rw [e2, e3]
  have e4 : List.drop (A.length + 1 + B.length) (A ++ B ++ [s]) = [] := List.drop_eq_nil_of_le (by simp; omega)
  rw [e4, List.append_nil]
  cases B with
  | nil => simp [List.take_append, List.set_append, List.take_of_length_le]
  | cons b B => simp [List.take_append, List.set_append, List.take_of_length_le]
end Go.BB
