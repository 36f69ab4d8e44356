/- A symbolic machine for the model's code, and what it shows of this seat's functions. No conditions. -/
import Derived.Test.YtnofmeckcimodaaBLStore
set_option linter.unusedVariables false
set_option linter.unusedSimpArgs false
/-! plain lemmas on the document's stores -/
namespace Go.BB
open Go
theorem srtR_cons : ∀ {a : Row} {l : List Row}, srtR (a :: l) = true ↔ (∀ c ∈ l, keyLt a.1 c.1 = true) ∧ srtR l = true
  | a, [] => by simp [srtR]
  | a, b :: l => by
    have ih := srtR_cons (a := b) (l := l)
    simp only [srtR, Bool.and_eq_true]
    constructor
    · rintro ⟨h1, h2⟩
      refine ⟨fun c hc => ?_, h2⟩
      rcases List.mem_cons.1 hc with rfl | hc
      · exact h1
      · exact keyLt_trans h1 ((ih.1 h2).1 c hc)
    · rintro ⟨h1, h2⟩
      exact ⟨h1 b List.mem_cons_self, h2⟩
theorem cntR_le : ∀ (l : List Row) (k : Key), cntR l k ≤ l.length
  | [], _ => Nat.le_refl _
  | r :: l, k => by
    unfold cntR
    have := cntR_le l k
    split <;> simp only [List.length_cons] <;> omega
theorem cntR_lt : ∀ (l : List Row) (k : Key) (i : Nat) (z : Row), i < cntR l k → keyLt (l.getD i z).1 k = true
  | [], _, i, z, h => by simp [cntR] at h
  | r :: l, k, 0, z, h => by
    unfold cntR at h
    split at h
    · rename_i hk; simpa using hk
    · omega
  | r :: l, k, i + 1, z, h => by
    unfold cntR at h
    split at h
    · have := cntR_lt l k i z (by omega)
      simpa using this
    · omega
theorem cntR_stop : ∀ (l : List Row) (k : Key) (z : Row), cntR l k < l.length → keyLt (l.getD (cntR l k) z).1 k = false
  | [], _, z, h => by simp at h
  | r :: l, k, z, h => by
    unfold cntR at h ⊢
    split
    · rename_i hk
      rw [if_pos hk] at h
      have := cntR_stop l k z (by simpa using h)
      simpa using this
    · rename_i hk; simpa using hk
theorem cntR_iff {l : List Row} (hb : srtR l = true) (k : Key) (i : Nat) (z : Row) (hi : i < l.length) : keyLt (l.getD i z).1 k = true ↔ i < cntR l k := by
  constructor
  · intro h
    induction l generalizing i with
    | nil => simp at hi
    | cons r l ih =>
      obtain ⟨h1, h2⟩ := srtR_cons.1 hb
      cases i with
      | zero =>
        have h' : keyLt r.1 k = true := by simpa using h
        unfold cntR
        rw [if_pos h']; omega
      | succ i =>
        have hi' : i < l.length := by simpa using hi
        have h' : keyLt (l.getD i z).1 k = true := by simpa using h
        have hr : keyLt r.1 k = true := by
          refine keyLt_trans (h1 (l.getD i z) ?_) h'
          rw [List.getD_eq_getElem?_getD, List.getElem?_eq_getElem hi']
          exact List.getElem_mem hi'
        unfold cntR
        rw [if_pos hr]
        have := ih h2 i hi' h'
        omega
  · exact cntR_lt l k i z
/-- what stands at a key, row by row -/
theorem hasR_cons_lt {a : Row} {l : List Row} {k : Key} (h : keyLt a.1 k = true) : hasR (a :: l) k = hasR l k := by
  unfold hasR
  simp [cntR, h]
theorem hasR_cons_ge {a : Row} {l : List Row} {k : Key} (h : keyLt a.1 k = false) : hasR (a :: l) k = decide (a.1 = k) := by
  unfold hasR
  simp [cntR, h]
theorem rowOf_nil (k : Key) : rowOf [] k = [] := rfl
theorem rowOf_cons (a : Row) (l : List Row) (k : Key) : rowOf (a :: l) k = if keyLt a.1 k = true then rowOf l k else if a.1 = k then a.2 else [] := by
  unfold rowOf
  cases h : keyLt a.1 k with
  | true =>
    rw [hasR_cons_lt h, if_pos rfl]
    simp [cntR, h]
  | false =>
    rw [hasR_cons_ge h]
    simp [cntR, h]
theorem laidR_nil (k : Key) (v : Ver) : laidR [] k v = [(k, [v])] := rfl
theorem laidR_cons (a : Row) (l : List Row) (k : Key) (v : Ver) : laidR (a :: l) k v = if keyLt a.1 k = true then a :: laidR l k v else if a.1 = k then (a.1, a.2 ++ [v]) :: l else (k, [v]) :: a :: l := by
  unfold laidR
  cases h : keyLt a.1 k with
  | true =>
    rw [hasR_cons_lt h, if_pos rfl]
    simp only [cntR, h, if_true]
    split <;> simp
  | false =>
    rw [hasR_cons_ge h]
    have hc : cntR (a :: l) k = 0 := by unfold cntR; rw [h]; rfl
    rw [hc]
    by_cases h2 : a.1 = k
    · simp [h2]
    · simp [h2]
theorem laidAllR_cons (q : Int) (m : List Row) (c : Cel) (l : List Cel) : laidAllR q m (c :: l) = laidAllR q (laidR m c.1 (q, c.2)) l := rfl
theorem laidAllR_snoc (q : Int) (m : List Row) (l : List Cel) (c : Cel) : laidAllR q m (l ++ [c]) = laidR (laidAllR q m l) c.1 (q, c.2) := by simp [laidAllR]
/-- the keys of rows -/
theorem mem_laidR : ∀ {l : List Row} {k : Key} {v : Ver} {r : Row}, r ∈ laidR l k v → r.1 = k ∨ r ∈ l
  | [], k, v, r, h => by rw [laidR_nil, List.mem_singleton] at h; exact .inl (by rw [h])
  | a :: l, k, v, r, h => by
    rw [laidR_cons] at h
    split at h
    · rcases List.mem_cons.1 h with rfl | h
      · exact .inr List.mem_cons_self
      · exact (mem_laidR h).imp id (List.mem_cons_of_mem _)
    · split at h
      · rename_i hk
        rcases List.mem_cons.1 h with rfl | h
        · exact .inl hk
        · exact .inr (List.mem_cons_of_mem _ h)
      · rcases List.mem_cons.1 h with rfl | h
        · exact .inl rfl
        · exact .inr h
theorem srtR_laid : ∀ {l : List Row} (k : Key) (v : Ver), srtR l = true → srtR (laidR l k v) = true
  | [], k, v, _ => rfl
  | a :: l, k, v, h => by
    obtain ⟨h1, h2⟩ := srtR_cons.1 h
    rw [laidR_cons]
    split
    · rename_i hk
      refine srtR_cons.2 ⟨fun c hc => ?_, srtR_laid k v h2⟩
      rcases mem_laidR hc with e | hc
      · rw [e]; exact hk
      · exact h1 c hc
    · rename_i hk
      split
      · exact srtR_cons.2 ⟨h1, h2⟩
      · rename_i hne
        have hlt : keyLt k a.1 = true := by
          rcases key_three a.1 k with ⟨h3, _⟩ | ⟨h3, _⟩ | ⟨_, _, h3⟩
          · exact absurd h3 hk
          · exact absurd h3 hne
          · exact h3
        refine srtR_cons.2 ⟨fun c hc => ?_, h⟩
        rcases List.mem_cons.1 hc with rfl | hc
        · exact hlt
        · exact keyLt_trans hlt (h1 c hc)
theorem chsLen_laidR : ∀ (l : List Row) (k : Key) (v : Ver), chsLen (laidR l k v) = chsLen l + 1
  | [], k, v => rfl
  | a :: l, k, v => by
    rw [laidR_cons]
    split
    · rw [chsLen_cons, chsLen_cons, chsLen_laidR l]; omega
    · split
      · rw [chsLen_cons, chsLen_cons]; simp; omega
      · rw [chsLen_cons, chsLen_cons]; simp; omega
theorem len_laidR : ∀ (l : List Row) (k : Key) (v : Ver), (laidR l k v).length ≤ l.length + 1
  | [], k, v => Nat.le_refl _
  | a :: l, k, v => by
    rw [laidR_cons]
    have := len_laidR l k v
    split
    · simp only [List.length_cons]; omega
    · split <;> simp
theorem srtR_laidAll (q : Int) : ∀ (l : List Cel) (m : List Row), srtR m = true → srtR (laidAllR q m l) = true
  | [], m, h => h
  | c :: l, m, h => by rw [laidAllR_cons]; exact srtR_laidAll q l _ (srtR_laid _ _ h)
theorem len_laidAllR (q : Int) : ∀ (l : List Cel) (m : List Row), (laidAllR q m l).length ≤ m.length + l.length
  | [], m => by simp [laidAllR]
  | c :: l, m => by
    rw [laidAllR_cons]
    have h1 := len_laidAllR q l (laidR m c.1 (q, c.2))
    have h2 := len_laidR m c.1 (q, c.2)
    simp only [List.length_cons]; omega
theorem chsLen_laidAllR (q : Int) : ∀ (l : List Cel) (m : List Row), chsLen (laidAllR q m l) = chsLen m + l.length
  | [], m => by simp [laidAllR]
  | c :: l, m => by rw [laidAllR_cons, chsLen_laidAllR q l, chsLen_laidR]; simp; omega
theorem rowOf_mem {l : List Row} {k : Key} (h : hasR l k = true) : (k, rowOf l k) ∈ l := by
  unfold rowOf
  rw [if_pos h]
  unfold hasR at h
  simp only [Bool.and_eq_true, decide_eq_true_eq] at h
  obtain ⟨h1, h2⟩ := h
  rw [List.getD_eq_getElem?_getD, List.getElem?_eq_getElem h1] at h2 ⊢
  simp only [Option.getD_some] at h2 ⊢
  have hm := List.getElem_mem h1
  have e : l[cntR l k] = (k, l[cntR l k].2) := Prod.ext h2 rfl
  rw [e] at hm
  exact hm
/-! what is so of each of the document's stores -/
structure RefOk (x : Ref) : Prop where
  u : 0 ≤ x.1 ∧ x.1 ≤ 18446744073709551615
  most : x.2.1 ≤ 1048576
  len : (chsLen x.2.2.1 : Int) ≤ x.2.1
  few : chsLen x.2.2.1 ≤ 500000
  srt : srtR x.2.2.1 = true
  rowsN : x.2.2.1.length ≤ 262144
  rows : ∀ p ∈ x.2.2.1, p.2 ≠ [] ∧ rightFrom 0 p.2 = true ∧ newS p.2 ≤ x.1
theorem refOk_iff (x : Ref) : refOk x = true ↔ RefOk x := by
  unfold refOk isU
  simp only [Bool.and_eq_true, decide_eq_true_eq, List.all_eq_true]
  constructor
  · rintro ⟨⟨h1, h2⟩, h3, h4, h5, h6, h7, h8⟩
    exact ⟨⟨h1, h2⟩, h3, h4, h5, h6, h7, h8⟩
  · rintro ⟨⟨h1, h2⟩, h3, h4, h5, h6, h7, h8⟩
    exact ⟨⟨h1, h2⟩, h3, h4, h5, h6, h7, h8⟩
theorem mem_len {l : List Row} {r : Row} (h : r ∈ l) : r.2.length ≤ chsLen l := by
  induction l with
  | nil => cases h
  | cons a l ih =>
    rw [chsLen_cons]
    rcases List.mem_cons.1 h with rfl | h
    · omega
    · have := ih h; omega
theorem rowOf_ok {x : Ref} (h : RefOk x) (k : Key) : rightFrom 0 (rowOf x.2.2.1 k) = true ∧ newS (rowOf x.2.2.1 k) ≤ x.1 ∧ (rowOf x.2.2.1 k).length ≤ 500000 := by
  cases hh : hasR x.2.2.1 k with
  | true =>
    have hm := rowOf_mem hh
    have := h.rows _ hm
    have h2 := mem_len hm
    have h3 := h.few
    exact ⟨this.2.1, this.2.2, by simp only at h2; omega⟩
  | false =>
    have : rowOf x.2.2.1 k = [] := by unfold rowOf; rw [hh]; rfl
    rw [this]
    exact ⟨rfl, h.u.1, by simp⟩
theorem rowOf_gt {l : List Row} {k : Key} (h : ∀ c ∈ l, keyLt k c.1 = true) : rowOf l k = [] := by
  cases l with
  | nil => rfl
  | cons a l =>
    have h1 := h a List.mem_cons_self
    rw [rowOf_cons, keyLt_asymm h1, if_neg (by simp), if_neg (fun e => keyLt_ne h1 e.symm)]
theorem rowOf_laidR : ∀ {l : List Row} (k : Key) (v : Ver) (k' : Key), srtR l = true → rowOf (laidR l k v) k' = if k = k' then rowOf l k ++ [v] else rowOf l k'
  | [], k, v, k', _ => by
    rw [laidR_nil, rowOf_cons, rowOf_nil, rowOf_nil]
    by_cases h : k = k'
    · subst h; simp [keyLt_irrefl]
    · simp [h]
  | a :: l, k, v, k', hs => by
    obtain ⟨h1, h2⟩ := srtR_cons.1 hs
    have ih := rowOf_laidR k v k' h2
    rw [laidR_cons]
    by_cases hk : keyLt a.1 k = true
    · rw [if_pos hk, rowOf_cons, ih, rowOf_cons, rowOf_cons, if_pos hk]
      by_cases h : k = k'
      · subst h; simp [hk]
      · simp only [h, if_false]
    · rw [if_neg hk]
      by_cases he : a.1 = k
      · rw [if_pos he, rowOf_cons, rowOf_cons, rowOf_cons, if_neg hk, if_pos he]
        by_cases h : k = k'
        · subst h
          rw [if_pos rfl, if_neg hk, if_pos he]
        · simp only [h, if_false, show ¬ a.1 = k' from fun e => h (he.symm.trans e)]
      · rw [if_neg he]
        have hlt : keyLt k a.1 = true := by
          rcases key_three a.1 k with ⟨h3, _⟩ | ⟨h3, _⟩ | ⟨_, _, h3⟩
          · exact absurd h3 hk
          · exact absurd h3 he
          · exact h3
        rw [rowOf_cons]
        by_cases h : k = k'
        · subst h
          rw [rowOf_cons, if_neg hk, if_neg he, if_pos rfl]
          simp [keyLt_irrefl]
        · simp only [h, if_false]
          by_cases h3 : keyLt k k' = true
          · rw [if_pos h3]
          · rw [if_neg h3]
            have h4 : keyLt k' a.1 = true := by
              rcases key_three k k' with ⟨h5, _⟩ | ⟨h5, _⟩ | ⟨_, _, h5⟩
              · exact absurd h5 h3
              · exact absurd h5 h
              · exact keyLt_trans h5 hlt
            rw [rowOf_gt]
            intro c hc
            rcases List.mem_cons.1 hc with rfl | hc
            · exact h4
            · exact keyLt_trans h4 (h1 c hc)
theorem rowOf_laidAllR (q : Int) : ∀ (l : List Cel) (m : List Row) (k : Key), srtR m = true → nodupK l → rowOf (laidAllR q m l) k = match l.find? (fun c => decide (c.1 = k)) with | some c => rowOf m k ++ [(q, c.2)] | none => rowOf m k
  | [], m, k, _, _ => rfl
  | c :: l, m, k, hs, h => by
    have h' : c.1 ∉ l.map (·.1) ∧ nodupK l := List.nodup_cons.1 h
    rw [laidAllR_cons, rowOf_laidAllR q l _ k (srtR_laid _ _ hs) h'.2, List.find?_cons, rowOf_laidR _ _ _ hs]
    by_cases hk : c.1 = k
    · have hno : l.find? (fun d => decide (d.1 = k)) = none := by
        rw [List.find?_eq_none]
        intro d hd
        simp only [decide_eq_true_eq]
        intro e
        exact h'.1 (List.mem_map.2 ⟨d, hd, e.trans hk.symm⟩)
      rw [hno, decide_eq_true hk, if_pos hk, hk]
    · rw [decide_eq_false hk, if_neg hk]
/-- .. of a key that is not yet laid -/
theorem rowOf_part (q : Int) (l : List Cel) (m : List Row) (hs : srtR m = true) (hn : nodupK l) (i : Nat) (hi : i < l.length) : rowOf (laidAllR q m (l.take i)) (l.getD i ((0, 0), 0)).1 = rowOf m (l.getD i ((0, 0), 0)).1 := by
  have hn' : nodupK (l.take i) := by unfold nodupK at hn ⊢; exact hn.sublist ((List.take_sublist i l).map _)
  rw [rowOf_laidAllR q _ m _ hs hn']
  have : (l.take i).find? (fun c => decide (c.1 = (l.getD i ((0, 0), 0)).1)) = none := by
    rw [List.find?_eq_none]
    intro c hc
    simp only [decide_eq_true_eq]
    intro e
    unfold nodupK at hn
    have h2 : l = l.take i ++ l.getD i ((0, 0), 0) :: l.drop (i + 1) := by rw [← drop_cons l i ((0, 0), 0) hi, List.take_append_drop]
    rw [h2, List.map_append, List.map_cons, List.nodup_append] at hn
    exact hn.2.2 c.1 (List.mem_map.2 ⟨c, hc, rfl⟩) _ List.mem_cons_self e
  rw [this]
end Go.BB
