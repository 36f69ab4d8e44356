/- A symbolic machine for the model's code, and what it shows of this seat's functions. No conditions. -/
import Derived.Test.YtnofmeckcimodaaBLSpan
import Derived.Test.YtnofmeckcimodaaBLRef
import Derived.Test.YtnofmeckcimodaaBGstore3
import Derived.Test.YtnofmeckcimodaaBLawStoreO
import Derived.Test.YtnofmeckcimodaaBSView
set_option linter.unusedSimpArgs false
set_option linter.unusedVariables false
/-! plain lemmas on views, two stores, and what was written since -/
namespace Go.BB
open Go
theorem mem_laidR2 : ∀ {l : List Row} {k : Key} {v : Ver} {r : Row}, srtR l = true → r ∈ laidR l k v → r ∈ l ∨ r = (k, rowOf l k ++ [v])
  | [], k, v, r, _, h => by rw [laidR_nil, List.mem_singleton] at h; exact .inr h
  | a :: l, k, v, r, hs, h => by
    obtain ⟨h1, h2⟩ := srtR_cons.1 hs
    rw [laidR_cons] at h
    rw [rowOf_cons]
    by_cases hk : keyLt a.1 k = true
    · rw [if_pos hk] at h ⊢
      rcases List.mem_cons.1 h with rfl | h
      · exact .inl List.mem_cons_self
      · rcases mem_laidR2 h2 h with h | h
        · exact .inl (List.mem_cons_of_mem _ h)
        · exact .inr h
    · rw [if_neg hk] at h ⊢
      by_cases he : a.1 = k
      · rw [if_pos he] at h ⊢
        rcases List.mem_cons.1 h with rfl | h
        · exact .inr (by rw [he])
        · exact .inl (List.mem_cons_of_mem _ h)
      · rw [if_neg he] at h ⊢
        rcases List.mem_cons.1 h with rfl | h
        · exact .inr rfl
        · exact .inl h
theorem rowOf_nonmem (l : List Row) (k : Key) : rowOf l k = [] ∨ (k, rowOf l k) ∈ l := by
  cases hh : hasR l k with
  | true => exact .inr (rowOf_mem hh)
  | false => exact .inl (by unfold rowOf; rw [hh]; rfl)
theorem rows_laidAllR (q : Int) (hq : 0 < q) : ∀ (l : List Cel) (m : List Row), srtR m = true → nodupK l → (∀ p ∈ m, p.2 ≠ [] ∧ rightFrom 0 p.2 = true ∧ newS p.2 ≤ q ∧ (newS p.2 = q → ∀ c ∈ l, c.1 ≠ p.1)) → ∀ p ∈ laidAllR q m l, p.2 ≠ [] ∧ rightFrom 0 p.2 = true ∧ newS p.2 ≤ q
  | [], m, _, _, h, p, hp => ⟨(h p hp).1, (h p hp).2.1, (h p hp).2.2.1⟩
  | c :: l, m, hs, hn, h, p, hp => by
    have hn' : c.1 ∉ l.map (·.1) ∧ nodupK l := List.nodup_cons.1 hn
    rw [laidAllR_cons] at hp
    refine rows_laidAllR q hq l _ (srtR_laid _ _ hs) hn'.2 (fun r hr => ?_) p hp
    rcases mem_laidR2 hs hr with hr | hr
    · exact ⟨(h r hr).1, (h r hr).2.1, (h r hr).2.2.1, fun e d hd => (h r hr).2.2.2 e d (List.mem_cons_of_mem _ hd)⟩
    · subst hr
      refine ⟨by simp, ?_, Int.le_of_eq (newS_snoc _ _), fun _ d hd e => hn'.1 (List.mem_map.2 ⟨d, hd, e⟩)⟩
      rcases rowOf_nonmem m c.1 with e | e
      · rw [e]; exact rf_cons.2 ⟨hq, rfl⟩
      · have hc := h _ e
        refine rf_add hc.2.1 ?_
        rcases Int.lt_or_eq_of_le hc.2.2.1 with h1 | h1
        · exact h1
        · exact absurd rfl (hc.2.2.2 h1 c List.mem_cons_self)
theorem rinstS_ok {x : Ref} (h : RefOk x) {l : List Cel} (hl : chsLen x.2.2.1 + l.length ≤ 500000) (hk : x.2.2.1.length + l.length ≤ 262144) : RefOk (rinstS x l).2 := by
  unfold rinstS
  by_cases ho : onceS l = false
  · rw [if_pos ho]; exact h
  rw [if_neg ho]
  by_cases h1 : x.1 = 18446744073709551615
  · rw [if_pos h1]; exact h
  rw [if_neg h1]
  by_cases h2 : (chsLen x.2.2.1 : Int) + l.length > x.2.1
  · rw [if_pos h2]; exact h
  rw [if_neg h2]
  have hu := h.u
  have hn := ((onceS_iff l).1 (by simpa using ho)).2.1
  refine ⟨⟨by show 0 ≤ x.1 + 1; omega, by show x.1 + 1 ≤ _; omega⟩, h.most, ?_, ?_, srtR_laidAll _ _ _ h.srt, ?_, ?_⟩
  · show (chsLen (laidAllR (x.1 + 1) x.2.2.1 l) : Int) ≤ x.2.1
    rw [chsLen_laidAllR]; push_cast; omega
  · show chsLen (laidAllR (x.1 + 1) x.2.2.1 l) ≤ 500000
    rw [chsLen_laidAllR]; omega
  · have := len_laidAllR (x.1 + 1) l x.2.2.1
    show (laidAllR (x.1 + 1) x.2.2.1 l).length ≤ 262144
    omega
  · refine rows_laidAllR (x.1 + 1) (by omega) l _ h.srt hn fun p hp => ?_
    have hr := h.rows p hp
    exact ⟨hr.1, hr.2.1, by omega, fun e => absurd e (by omega)⟩
theorem rstNewS_ok {f : Int} (m : Int) (h0 : 0 ≤ f) (h1 : f ≤ 18446744073709551615) : RefOk (rstNewS f m) :=
  ⟨⟨h0, h1⟩, by show min (max m 0) 1048576 ≤ 1048576; omega, by show (0 : Int) ≤ min (max m 0) 1048576; omega, by show (0 : Nat) ≤ 500000; decide, rfl, by show (0 : Nat) ≤ 262144; decide, fun p hp => nomatch hp⟩
/-- a store is what the document's is -/
structure Like (s : Sto) (x : Ref) : Prop where
  last : s.1 = x.1
  most : s.2.2.1 = x.2.1
  len : chsLen s.2.2.2.1 = chsLen x.2.2.1
  row : ∀ k, chnOf s.2.2.2.1 k = rowOf x.2.2.1 k
theorem like_new (f m : Int) : Like (stNewS f m) (rstNewS f m) := ⟨rfl, rfl, rfl, fun _ => rfl⟩
theorem like_inst {s : Sto} {x : Ref} (hs : StoOk s) (hx : RefOk x) (h : Like s x) (l : List Cel) : (instS s l).1 = (rinstS x l).1 ∧ Like (instS s l).2 (rinstS x l).2 := by
  have e1 := h.last
  have e2 := h.most
  have e3 := h.len
  have e4 := hs.len
  unfold instS rinstS
  by_cases ho : onceS l = false
  · rw [if_pos ho, if_pos ho]; exact ⟨rfl, h⟩
  rw [if_neg ho, if_neg ho]
  by_cases h1 : s.1 = 18446744073709551615
  · rw [if_pos h1, if_pos (e1 ▸ h1)]; exact ⟨rfl, h⟩
  rw [if_neg h1, if_neg (fun e => h1 (e1.trans e))]
  by_cases h2 : (l.length : Int) > s.2.2.1 - s.2.1
  · rw [if_pos h2, if_pos (by omega)]; exact ⟨rfl, h⟩
  rw [if_neg h2, if_neg (by omega)]
  refine ⟨by simp only [e1], by simp only [e1], e2, ?_, fun k => ?_⟩
  · show chsLen (laidAll (s.1 + 1) s.2.2.2.1 l) = chsLen (laidAllR (x.1 + 1) x.2.2.1 l)
    rw [chsLen_laidAll, chsLen_laidAllR, e3]
  · have hn := ((onceS_iff l).1 (by simpa using ho)).2.1
    show chnOf (laidAll (s.1 + 1) s.2.2.2.1 l) k = rowOf (laidAllR (x.1 + 1) x.2.2.1 l) k
    rw [chnOf_laidAll _ _ _ _ hn, rowOf_laidAllR _ _ _ _ hx.srt hn, h.row, e1]
    cases l.find? (fun c => decide (c.1 = k)) <;> rfl
/-! what a view sees -/
theorem lookN_snoc (f : Key → Int) (w : List Cel) (t : Int) : ∀ (n : Nat) (a : Int), lookN f w t a (n + 1) = lookN f w t a n ++ [if (getK w (t, a + n)).2 then (getK w (t, a + n)).1 else f (t, a + n)]
  | 0, a => by simp [lookN]
  | n + 1, a => by
    rw [lookN, lookN_snoc f w t n (a + 1), lookN]
    rw [show a + 1 + (n : Int) = a + ((n + 1 : Nat) : Int) by push_cast; omega]
    rfl
theorem lookN_len (f : Key → Int) (w : List Cel) (t : Int) : ∀ (n : Nat) (a : Int), (lookN f w t a n).length = n
  | 0, a => rfl
  | n + 1, a => by simp [lookN, lookN_len f w t n]
theorem lookN_get (f : Key → Int) (w : List Cel) (t : Int) (z : Int) : ∀ (n : Nat) (a : Int) (i : Nat), i < n → (lookN f w t a n).getD i z = if (getK w (t, a + i)).2 then (getK w (t, a + i)).1 else f (t, a + i)
  | 0, _, _, h => by omega
  | n + 1, a, 0, _ => by simp [lookN]
  | n + 1, a, i + 1, h => by
    rw [lookN, List.getD_cons_succ, lookN_get f w t z n (a + 1) i (by omega)]
    rw [show a + 1 + (i : Int) = a + ((i + 1 : Nat) : Int) by push_cast; omega]
theorem look_like {s : Sto} {x : Ref} (h : Like s x) (v : Vw) (sp : Spn) : lookP s.2.2.2.1 v sp = lookD x.2.2.1 v sp := by
  unfold lookP lookD
  congr 1
  funext k
  rw [h.row]
/-! the first key that was written since -/
def First (P : Key → Prop) (r : Key × Bool) : Prop := (r.2 = true ∧ P r.1 ∧ ∀ k, P k → keyLt k r.1 = false) ∨ (r = ((0, 0), false) ∧ ∀ k, ¬ P k)
theorem First.unique {P : Key → Prop} {r r' : Key × Bool} (h : First P r) (h' : First P r') : r = r' := by
  rcases h with ⟨h1, h2, h3⟩ | ⟨h1, h2⟩
  · rcases h' with ⟨g1, g2, g3⟩ | ⟨g1, g2⟩
    · exact Prod.ext (keyLt_total (g3 _ h2) (h3 _ g2)) (h1.trans g1.symm)
    · exact absurd h2 (g2 _)
  · rcases h' with ⟨g1, g2, g3⟩ | ⟨g1, g2⟩
    · exact absurd g2 (h2 _)
    · rw [h1, g1]
theorem First.congr {P Q : Key → Prop} {r : Key × Bool} (h : ∀ k, P k ↔ Q k) (hr : First P r) : First Q r := by
  rcases hr with ⟨h1, h2, h3⟩ | ⟨h1, h2⟩
  · exact .inl ⟨h1, (h _).1 h2, fun k hk => h3 k ((h k).2 hk)⟩
  · exact .inr ⟨h1, fun k hk => h2 k ((h k).2 hk)⟩
theorem clashN_first (f : Key → Int) (since t : Int) : ∀ (n : Nat) (a : Int), First (fun k => k.1 = t ∧ a ≤ k.2 ∧ k.2 < a + n ∧ since < f k) (clashN f since t a n)
  | 0, a => .inr ⟨rfl, fun k hk => by omega⟩
  | n + 1, a => by
    rw [clashN]
    by_cases h : f (t, a) ≤ since
    · rw [if_pos h]
      refine First.congr (fun k => ?_) (clashN_first f since t n (a + 1))
      constructor
      · rintro ⟨h1, h2, h3, h4⟩
        exact ⟨h1, by omega, by push_cast; omega, h4⟩
      · rintro ⟨h1, h2, h3, h4⟩
        refine ⟨h1, ?_, by push_cast at h3; omega, h4⟩
        apply Classical.byContradiction
        intro hne
        have : k = (t, a) := Prod.ext h1 (by simp only; omega)
        rw [this] at h4; omega
    · rw [if_neg h]
      refine .inl ⟨rfl, ⟨rfl, Int.le_refl _, by show a < a + ((n + 1 : Nat) : Int); push_cast; omega, by show since < f (t, a); omega⟩, fun k hk => ?_⟩
      rw [keyLt_false]
      show ¬ (k.1 < t ∨ k.1 = t ∧ k.2 < a)
      omega
theorem clashL_first (f : Key → Int) (since : Int) : ∀ {l : List Spn}, canonS l = true → First (fun k => hasS l k = true ∧ since < f k) (clashL f since l)
  | [], _ => .inr ⟨rfl, fun k hk => by cases hk.1⟩
  | s :: l, hc => by
    have h := canonS_iff.1 hc
    have hs := spanR_iff.1 h.1
    have h1 := clashN_first f since s.1 (s.2.2 - s.2.1).toNat s.2.1
    have h2 := clashL_first f since h.2.2
    rw [clashL]
    generalize clashN f since s.1 s.2.1 (s.2.2 - s.2.1).toNat = r at h1
    rcases h1 with ⟨g1, g2, g3⟩ | ⟨g1, g2⟩
    · rw [if_pos g1]
      refine .inl ⟨g1, ⟨(hasS_cons1 _ _ _).2 (.inl ⟨g2.1.symm, g2.2.1, by omega⟩), g2.2.2.2⟩, fun k hk => ?_⟩
      rcases (hasS_cons1 _ _ _).1 hk.1 with h3 | h3
      · exact g3 k ⟨h3.1.symm, h3.2.1, by omega, hk.2⟩
      · simp only [hasS, List.any_eq_true, Bool.and_eq_true, decide_eq_true_eq] at h3
        obtain ⟨z, hz, e1, e2, e3⟩ := h3
        have := aheadS_iff.1 (h.2.1 z hz)
        rw [keyLt_false]
        omega
    · rw [g1, if_neg (by decide)]
      refine First.congr (fun k => ?_) h2
      constructor
      · rintro ⟨a1, a2⟩
        exact ⟨(hasS_cons1 _ _ _).2 (.inr a1), a2⟩
      · rintro ⟨a1, a2⟩
        rcases (hasS_cons1 _ _ _).1 a1 with h3 | h3
        · exact absurd ⟨h3.1.symm, h3.2.1, by omega, a2⟩ (g2 k)
        · exact ⟨h3, a2⟩
theorem clashD_first (since : Int) (h0 : 0 ≤ since) (l : List Spn) : ∀ {m : List Row}, srtR m = true → First (fun k => hasS l k = true ∧ since < newS (rowOf m k)) (clashD m l since)
  | [], _ => .inr ⟨rfl, fun k hk => by
      have h2 : since < newS (rowOf [] k) := hk.2
      have : newS (rowOf [] k) = 0 := rfl
      rw [this] at h2; omega⟩
  | a :: m, hs => by
    obtain ⟨h1, h2⟩ := srtR_cons.1 hs
    have ih := clashD_first since h0 l h2
    have hrow : ∀ k, since < newS (rowOf (a :: m) k) ↔ (k = a.1 ∧ since < newS a.2) ∨ since < newS (rowOf m k) ∧ keyLt a.1 k = true := by
      intro k
      rw [rowOf_cons]
      rcases key_three a.1 k with ⟨g1, g2, g3⟩ | ⟨g1, g2⟩ | ⟨g1, g2, g3⟩
      · rw [if_pos g1]
        exact ⟨fun h => .inr ⟨h, g1⟩, fun h => h.elim (fun h => absurd h.1.symm g2) (fun h => h.1)⟩
      · rw [if_neg (by rw [g2]; decide), if_pos g1]
        exact ⟨fun h => .inl ⟨g1.symm, h⟩, fun h => h.elim (fun h => h.2) (fun h => by rw [g2] at h; exact absurd h.2 (by decide))⟩
      · rw [if_neg (by rw [g1]; decide), if_neg g2]
        have : newS ([] : List Ver) = 0 := rfl
        rw [this]
        exact ⟨fun h => absurd h (by omega), fun h => h.elim (fun h => absurd h.1.symm g2) (fun h => by rw [g1] at h; exact absurd h.2 (by decide))⟩
    have hbehind : ∀ k, since < newS (rowOf m k) → keyLt a.1 k = true := by
      intro k hk
      rcases rowOf_nonmem m k with e | e
      · rw [e] at hk
        have : newS ([] : List Ver) = 0 := rfl
        omega
      · exact h1 _ e
    rw [clashD]
    cases hc : (decide (newS a.2 > since) && hasS l a.1) with
    | true =>
      rw [if_pos rfl]
      simp only [Bool.and_eq_true, decide_eq_true_eq] at hc
      refine .inl ⟨rfl, ⟨hc.2, (hrow _).2 (.inl ⟨rfl, hc.1⟩)⟩, fun k hk => ?_⟩
      rcases (hrow k).1 hk.2 with h3 | h3
      · rw [h3.1]; exact keyLt_irrefl _
      · exact keyLt_asymm h3.2
    | false =>
      rw [if_neg (by decide)]
      refine First.congr (fun k => ?_) ih
      constructor
      · rintro ⟨a1, a2⟩
        exact ⟨a1, (hrow k).2 (.inr ⟨a2, hbehind k a2⟩)⟩
      · rintro ⟨a1, a2⟩
        rcases (hrow k).1 a2 with h3 | h3
        · exfalso
          have : (decide (newS a.2 > since) && hasS l a.1) = true := by
            rw [Bool.and_eq_true, decide_eq_true_eq]
            exact ⟨h3.2, h3.1 ▸ a1⟩
          rw [hc] at this; cases this
        · exact ⟨a1, h3.1⟩
theorem clash_like {s : Sto} {x : Ref} (hx : RefOk x) (h : Like s x) {l : List Spn} (hl : canonS l = true) (since : Int) (h0 : 0 ≤ since) : clashP s.2.2.2.1 l since = clashD x.2.2.1 l since := by
  have h1 := clashL_first (fun k => newS (chnOf s.2.2.2.1 k)) since hl
  have h2 := clashD_first since h0 l hx.srt
  refine First.unique h1 (First.congr (fun k => ?_) h2)
  rw [h.row]
end Go.BB
set_option linter.unusedSimpArgs false
set_option linter.unusedVariables false
/-! a store and the document's: what is laid and what goes keeps them alike -/
namespace Go.BB
open Go
theorem rowOf_self : ∀ {l : List Row}, srtR l = true → ∀ {p : Row}, p ∈ l → rowOf l p.1 = p.2
  | a :: l, hs, p, hp => by
    obtain ⟨h1, h2⟩ := srtR_cons.1 hs
    rw [rowOf_cons]
    rcases List.mem_cons.1 hp with rfl | hp
    · rw [keyLt_irrefl, if_neg (by decide), if_pos rfl]
    · rw [if_pos (h1 p hp)]
      exact rowOf_self h2 hp
theorem nodup_srt : ∀ {l : List Row}, srtR l = true → l.Nodup
  | [], _ => List.nodup_nil
  | a :: l, hs => by
    obtain ⟨h1, h2⟩ := srtR_cons.1 hs
    refine List.nodup_cons.2 ⟨fun hm => ?_, nodup_srt h2⟩
    have := h1 a hm
    rw [keyLt_irrefl] at this; cases this
theorem chnOf_self : ∀ {m : Chs}, (m.map (·.1)).Nodup → ∀ {p : Key × List Ver}, p ∈ m → chnOf m p.1 = p.2
  | a :: m, hn, p, hp => by
    have hn' : a.1 ∉ m.map (·.1) ∧ (m.map (·.1)).Nodup := List.nodup_cons.1 hn
    rw [chnOf_cons]
    rcases List.mem_cons.1 hp with rfl | hp
    · rw [if_pos rfl]
    · rw [if_neg (fun e => hn'.1 (List.mem_map.2 ⟨p, hp, e.symm⟩))]
      exact chnOf_self hn'.2 hp
theorem nodup_of_map {m : Chs} (h : (m.map (·.1)).Nodup) : m.Nodup := by
  induction m with
  | nil => exact List.nodup_nil
  | cons a m ih =>
    have hn' : a.1 ∉ m.map (·.1) ∧ (m.map (·.1)).Nodup := List.nodup_cons.1 h
    exact List.nodup_cons.2 ⟨fun hm => hn'.1 (List.mem_map.2 ⟨a, hm, rfl⟩), ih hn'.2⟩
/-- rows that show the same stand alike, but for their order -/
theorem rows_perm {m : Chs} {l : List Row} (hm : (m.map (·.1)).Nodup) (hmn : ∀ p ∈ m, p.2 ≠ []) (hl : srtR l = true) (hln : ∀ p ∈ l, p.2 ≠ []) (h : ∀ k, chnOf m k = rowOf l k) : m.Perm l := by
  refine (List.perm_ext_iff_of_nodup (nodup_of_map hm) (nodup_srt hl)).2 fun p => ⟨fun hp => ?_, fun hp => ?_⟩
  · have e1 := chnOf_self hm hp
    have e2 := hmn p hp
    rcases rowOf_nonmem l p.1 with e | e
    · rw [← h, e1] at e; exact absurd e e2
    · rw [← h, e1] at e; exact e
  · have e1 := rowOf_self hl hp
    have e2 := hln p hp
    rcases chnOf_mem m p.1 with e | e
    · rw [h, e1] at e; exact absurd e e2
    · rw [h, e1] at e; exact e
theorem chsLen_perm {a b : Chs} (h : a.Perm b) : chsLen a = chsLen b := by
  induction h with
  | nil => rfl
  | cons x _ ih => rw [chsLen_cons, chsLen_cons, ih]
  | swap x y l => rw [chsLen_cons, chsLen_cons, chsLen_cons, chsLen_cons]; omega
  | trans _ _ h1 h2 => exact h1.trans h2
theorem trimS_nil (q : Int) : trimS [] q = [] := by unfold trimS; simp
theorem rowOf_gcM (q : Int) : ∀ (l : List Row) (k : Key), rowOf (gcM q l) k = trimS (rowOf l k) q
  | [], k => by rw [show gcM q [] = [] from rfl, rowOf_nil, trimS_nil]
  | a :: l, k => by
    show rowOf ((a.1, trimS a.2 q) :: gcM q l) k = _
    rw [rowOf_cons, rowOf_cons, rowOf_gcM q l k]
    simp only
    split
    · rfl
    · split
      · rfl
      · rw [trimS_nil]
theorem ne_laidAll (q : Int) : ∀ (l : List Cel) {m : Chs}, (∀ p ∈ m, p.2 ≠ []) → ∀ p ∈ laidAll q m l, p.2 ≠ []
  | [], m, h => h
  | c :: l, m, h => by
    rw [laidAll_cons]
    refine ne_laidAll q l fun p hp => ?_
    rcases mem_laid hp with hp | rfl
    · exact h p hp
    · simp
/-- alike, and all that keeps them so -/
structure Twin (s : Sto) (x : Ref) : Prop where
  sok : StoOk s
  xok : RefOk x
  like : Like s x
  nod : nodM s.2.2.2.1 = true
  ne : ∀ p ∈ s.2.2.2.1, p.2 ≠ []
theorem Twin.perm {s : Sto} {x : Ref} (h : Twin s x) : s.2.2.2.1.Perm x.2.2.1 :=
  rows_perm ((nodM_iff _).1 h.nod) h.ne h.xok.srt (fun p hp => (h.xok.rows p hp).1) h.like.row
theorem twin_new {f : Int} (m : Int) (h0 : 0 ≤ f) (h1 : f ≤ 18446744073709551615) : Twin (stNewS f m) (rstNewS f m) :=
  ⟨stNewS_ok m h0 h1, rstNewS_ok m h0 h1, like_new f m, nodM_nil, fun p hp => nomatch hp⟩
theorem ne_inst {s : Sto} (h : ∀ p ∈ s.2.2.2.1, p.2 ≠ []) (l : List Cel) : ∀ p ∈ (instS s l).2.2.2.2.1, p.2 ≠ [] := by
  unfold instS
  split
  · exact h
  · split
    · exact h
    · split
      · exact h
      · exact ne_laidAll _ l h
theorem twin_inst {s : Sto} {x : Ref} (h : Twin s x) (l : List Cel) (hl : s.2.1 + l.length ≤ 500000) (hk : x.2.2.1.length + l.length ≤ 262144) : (instS s l).1 = (rinstS x l).1 ∧ Twin (instS s l).2 (rinstS x l).2 := by
  have e1 := h.like.len
  have e2 := h.sok.len
  have hlike := like_inst h.sok h.xok h.like l
  exact ⟨hlike.1, instS_ok h.sok hl, rinstS_ok h.xok (by omega) hk, hlike.2, nodM_inst h.nod l, ne_inst h.ne l⟩
theorem twin_gc {s : Sto} {x : Ref} (h : Twin s x) (q : Int) : goneM q s.2.2.2.1 = goneM q x.2.2.1 ∧ Twin (gcS s q) (rgcS x q) := by
  have hp := h.perm
  have hg : (gcM q s.2.2.2.1).Perm (gcM q x.2.2.1) := hp.map _
  refine ⟨by unfold goneM; rw [chsLen_perm hp, chsLen_perm hg], gcS_ok h.sok q, rgcS_ok h.xok q, ⟨h.like.last, h.like.most, chsLen_perm hg, fun k => ?_⟩, nodM_gc h.nod q, fun p hp => ?_⟩
  · show chnOf (gcM q s.2.2.2.1) k = rowOf (gcM q x.2.2.1) k
    rw [chnOf_gcM, rowOf_gcM, h.like.row]
  · obtain ⟨p0, h4, rfl⟩ := List.mem_map.1 hp
    exact trim_ne (h.ne p0 h4) q
theorem likeB_of {s : Sto} {x : Ref} (h : Twin s x) : likeB s x = true := by
  unfold likeB
  simp only [Bool.and_eq_true, decide_eq_true_eq, List.all_eq_true]
  refine ⟨(stoOk_iff s).2 h.sok, (refOk_iff x).2 h.xok, h.like.last, h.like.len, h.perm.length_eq, fun p hp => ?_, fun p hp => ?_⟩
  · rw [← h.like.row, chnOf_self ((nodM_iff _).1 h.nod) hp]
  · rw [h.like.row, rowOf_self h.xok.srt hp]
theorem likeB_to {s : Sto} {x : Ref} (h : likeB s x = true) : StoOk s ∧ RefOk x ∧ s.1 = x.1 ∧ chsLen s.2.2.2.1 = chsLen x.2.2.1 ∧ s.2.2.2.1.length = x.2.2.1.length ∧ ∀ k, chnOf s.2.2.2.1 k = rowOf x.2.2.1 k := by
  unfold likeB at h
  simp only [Bool.and_eq_true, decide_eq_true_eq, List.all_eq_true] at h
  obtain ⟨h1, h2, h3, h4, h5, h6, h7⟩ := h
  refine ⟨(stoOk_iff s).1 h1, (refOk_iff x).1 h2, h3, h4, h5, fun k => ?_⟩
  rcases chnOf_mem s.2.2.2.1 k with e | e
  · rcases rowOf_nonmem x.2.2.1 k with g | g
    · rw [e, g]
    · exact h7 _ g
  · exact h6 _ e
end Go.BB
set_option linter.unusedSimpArgs false
set_option linter.unusedVariables false
namespace Go.BB
open Go Go.Proofs
set_option maxRecDepth 100000
theorem refEta (x : Ref) : ((x.1, x.2.1, x.2.2.1, ()) : Ref) = x := rfl
theorem keyEta2 (k : Key) : (k.1, k.2) = k := rfl
theorem v_sameSt : Valid Try.prog n_sameSt c_sameSt := by
  refine valid_fn mixed hf_sameSt (by kernel_rfl) rfl (ts := tmpsOf f_sameSt.results.toList) (by kernel_rfl) (cfg := cfgW g_sameSt) tt_ok
    (Γok_cons v_within (Γok_cons v_key (Γok_cons v_stRead (Γok_cons v_rstRead (Γok_cons v_stNewest (Γok_cons v_rstNewest (Γok_cons v_stLast (Γok_cons v_stVersions (Γok_cons v_rstVersions (Γok_cons v_stKeys Γok_nil)))))))))) sameSt_tm c_sameSt (by kernel_rfl) (fun _ _ _ _ => ⟨⟩) ?_
  rintro ⟨(s : Sto), (x : Ref), (k : Int), (q : Int), ⟨⟩⟩ r u h
  obtain ⟨h1, h2⟩ := grd_some h
  obtain ⟨hs, hx, e1, e2, e3, e4⟩ := likeB_to h1
  dsimp only at hs hx e1 e2 e3 e4
  refine ⟨10, (sameSt_rn _ _ _ _ _).trans (Eq.trans ?_ (congrArg some h2))⟩
  show sameSt_P 10 s x k q = some ((true, ()), (s, (), (), (), ()))
  unfold sameSt_P
  simp only [stoEta]
  refine loopN_for (step := sameSt_L1) 8 (fun i => (s, x, k, q, (i : Int), ())) (fun i hi rec => ?_) (fun rec => ?_) 10 (by omega)
  · simp only [sameSt_L1, stoEta, keyEta2]
    rw [br_dt (by omega), bd_grd (by decide)]
    simp only
    rw [bd_grd (okSt1 hs), bd_grd ((refOk_iff x).2 hx)]
    simp only [stoEta]
    rw [br_f (by rw [e4]; simp), bd_grd (okSt1 hs), bd_grd ((refOk_iff x).2 hx)]
    simp only [stoEta]
    rw [br_f (by rw [e4]; simp), bd_grd (okSt1 hs), bd_grd ((refOk_iff x).2 hx)]
    simp only [stoEta]
    rw [br_f (by rw [e4]; simp), wrapI (by omega) (by omega)]
    rfl
  · have h3 := hx.rowsN
    have h4 := hx.few
    have h5 := hs.len
    simp only [sameSt_L1, stoEta]
    rw [br_df (by omega), br_t (by rw [e1]; simp), bd_grd (and_t (lenOk_of (by omega)) (decide_eq_true (by omega)))]
    simp only
    rw [br_t (by rw [← e2, h5]; simp), e3]
    simp
end Go.BB
