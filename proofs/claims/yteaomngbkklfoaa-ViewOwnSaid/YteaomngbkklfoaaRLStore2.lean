/- A symbolic machine for the model's code, and what it shows of this seat's functions. No conditions. -/
import Derived.Test.YteaomngbkklfoaaRSView
import Derived.Test.YteaomngbkklfoaaRLBuff
set_option linter.unusedVariables false
set_option linter.unusedSimpArgs false
/-! plain lemmas on stores -/
namespace Go.BB
open Go
theorem eqK_iff {a b : Key} : eqK a b = true ↔ a = b := by
  show (eqI a.1 b.1 && eqI a.2 b.2) = true ↔ _
  simp only [Bool.and_eq_true, eqI, beq_iff_eq]
  exact ⟨fun h => Prod.ext h.1 h.2, fun h => by subst h; exact ⟨rfl, rfl⟩⟩
theorem eqK_false {a b : Key} : eqK a b = false ↔ a ≠ b := by
  rw [← Bool.not_eq_true, eqK_iff]
theorem midx_cons {V : Type} (p : Key × V) (m : List (Key × V)) (k : Key) : midx eqK (p :: m) k = if p.1 = k then some 0 else (midx eqK m k).map (· + 1) := by
  show (match eqK p.1 k with | true => _ | false => _) = _
  by_cases h : p.1 = k
  · rw [eqK_iff.2 h, if_pos h]
  · rw [eqK_false.2 h, if_neg h]
theorem midx_lt {V : Type} : ∀ {m : List (Key × V)} {k : Key} {j : Nat}, midx eqK m k = some j → ∃ p, m[j]? = some p ∧ p.1 = k
  | [], k, j, h => by cases h
  | p :: m, k, j, h => by
    rw [midx_cons] at h
    split at h
    · cases h; rename_i hp; exact ⟨p, rfl, hp⟩
    · simp only [Option.map_eq_some_iff] at h
      obtain ⟨i, h1, rfl⟩ := h
      obtain ⟨q, h2, h3⟩ := midx_lt h1
      exact ⟨q, by simpa using h2, h3⟩
theorem mval_succ {K V : Type} (p : K × List V) (m : List (K × List V)) (n : Option Nat) (h : n.isSome = true) : mval (p :: m) (n.map (· + 1)) = mval m n := by
  cases n with
  | none => cases h
  | some j => simp [mval]
theorem chnOf_nil (k : Key) : chnOf [] k = [] := rfl
theorem chnOf_cons (p : Key × List Ver) (m : Chs) (k : Key) : chnOf (p :: m) k = if p.1 = k then p.2 else chnOf m k := by
  unfold chnOf
  rw [midx_cons]
  split
  · rfl
  · cases hm : midx eqK m k with
    | none => rfl
    | some j => exact mval_succ p m (some j) rfl
theorem ment_cons (p : Key × List Ver) (m : Chs) (k : Key) : ment eqK (p :: m) k = if p.1 = k then p :: m else p :: ment eqK m k := by
  unfold ment
  rw [midx_cons]
  by_cases h : p.1 = k
  · rw [if_pos h, if_pos h]
  · rw [if_neg h, if_neg h]
    cases midx eqK m k <;> rfl
theorem ment_some (m : Chs) (k : Key) : ∃ j, midx eqK (ment eqK m k) k = some j := by
  induction m with
  | nil => exact ⟨0, by show midx eqK ([] ++ [(k, [])]) k = _; rw [List.nil_append, midx_cons, if_pos rfl]⟩
  | cons p m ih =>
    rw [ment_cons]
    split
    · rename_i h; exact ⟨0, by rw [midx_cons, if_pos h]⟩
    · rename_i h
      obtain ⟨j, hj⟩ := ih
      exact ⟨j + 1, by rw [midx_cons, if_neg h, hj]; rfl⟩
theorem isSm_ment (m : Chs) (k : Key) : isSm (midx eqK (ment eqK m k) k) = true := by
  obtain ⟨j, hj⟩ := ment_some m k
  rw [hj]; rfl
theorem mval_ment (m : Chs) (k : Key) : mval (ment eqK m k) (midx eqK (ment eqK m k) k) = chnOf m k := by
  induction m with
  | nil =>
    show mval ([] ++ [(k, [])]) (midx eqK ([] ++ [(k, [])]) k) = []
    rw [List.nil_append, midx_cons, if_pos rfl]; rfl
  | cons p m ih =>
    rw [ment_cons, chnOf_cons]
    split
    · rename_i h; rw [midx_cons, if_pos h]; rfl
    · rename_i h
      rw [midx_cons, if_neg h]
      obtain ⟨j, hj⟩ := ment_some m k
      rw [hj] at ih ⊢
      exact (mval_succ p _ (some j) rfl).trans ih
theorem mput_same (m : Chs) (k : Key) : mput m (midx eqK m k) (chnOf m k) = m := by
  induction m with
  | nil => rfl
  | cons p m ih =>
    rw [chnOf_cons, midx_cons]
    split
    · rename_i h; rfl
    · cases hm : midx eqK m k with
      | none => rfl
      | some j =>
        rw [hm] at ih
        simp only [Option.map_some, mput, List.getElem?_cons_succ] at ih ⊢
        cases hj : m[j]? with
        | none => rfl
        | some q =>
          rw [hj] at ih
          simp only at ih ⊢
          rw [List.set_cons_succ, ih]
theorem laid_nil (k : Key) (v : Ver) : laid [] k v = [(k, [v])] := by
  unfold laid
  rw [mval_ment]
  show mput ([] ++ [(k, [])]) (midx eqK ([] ++ [(k, [])]) k) (cat [] [v]) = _
  rw [List.nil_append, midx_cons, if_pos rfl]; rfl
theorem laid_cons (p : Key × List Ver) (m : Chs) (k : Key) (v : Ver) : laid (p :: m) k v = if p.1 = k then (p.1, p.2 ++ [v]) :: m else p :: laid m k v := by
  unfold laid
  rw [mval_ment, mval_ment, chnOf_cons, ment_cons]
  split
  · rename_i h; rw [midx_cons, if_pos h]; rfl
  · rename_i h
    rw [midx_cons, if_neg h]
    obtain ⟨j, hj⟩ := ment_some m k
    obtain ⟨q, hq, _⟩ := midx_lt hj
    rw [hj]
    simp only [Option.map_some, mput, List.getElem?_cons_succ, hq, List.set_cons_succ]
theorem chnOf_laid (m : Chs) (k : Key) (v : Ver) (k' : Key) : chnOf (laid m k v) k' = if k = k' then chnOf m k ++ [v] else chnOf m k' := by
  induction m with
  | nil => rw [laid_nil, chnOf_cons, chnOf_nil, chnOf_nil]; rfl
  | cons p m ih =>
    rw [laid_cons, chnOf_cons, chnOf_cons]
    by_cases h : p.1 = k
    · rw [if_pos h, if_pos h, chnOf_cons]
      by_cases h' : k = k'
      · rw [if_pos (h.trans h'), if_pos h']
      · rw [if_neg (fun e => h' (h.symm.trans e)), if_neg h', if_neg (fun e => h' (h.symm.trans e))]
    · rw [if_neg h, if_neg h, chnOf_cons, ih]
      by_cases h' : k = k'
      · subst h'; rw [if_neg h, if_pos rfl, if_pos rfl]
      · rw [if_neg h', if_neg h']
theorem chsLen_cons (p : Key × List Ver) (m : Chs) : chsLen (p :: m) = p.2.length + chsLen m := by simp [chsLen]
theorem chsLen_laid (m : Chs) (k : Key) (v : Ver) : chsLen (laid m k v) = chsLen m + 1 := by
  induction m with
  | nil => rw [laid_nil]; rfl
  | cons p m ih =>
    rw [laid_cons]
    split
    · rw [chsLen_cons, chsLen_cons]; simp; omega
    · rw [chsLen_cons, chsLen_cons, ih]; omega
theorem chnOf_len (m : Chs) (k : Key) : (chnOf m k).length ≤ chsLen m := by
  induction m with
  | nil => simp [chnOf_nil]
  | cons p m ih =>
    rw [chnOf_cons, chsLen_cons]
    split <;> omega
theorem laidAll_nil (q : Int) (m : Chs) : laidAll q m [] = m := rfl
theorem laidAll_cons (q : Int) (m : Chs) (c : Cel) (l : List Cel) : laidAll q m (c :: l) = laidAll q (laid m c.1 (q, c.2)) l := rfl
theorem laidAll_snoc (q : Int) (m : Chs) (l : List Cel) (c : Cel) : laidAll q m (l ++ [c]) = laid (laidAll q m l) c.1 (q, c.2) := by simp [laidAll]
theorem chsLen_laidAll (q : Int) : ∀ (l : List Cel) (m : Chs), chsLen (laidAll q m l) = chsLen m + l.length
  | [], m => by simp [laidAll_nil]
  | c :: l, m => by rw [laidAll_cons, chsLen_laidAll q l, chsLen_laid]; simp; omega
/-- cells whose keys differ -/
def nodupK (l : List Cel) : Prop := (l.map (·.1)).Nodup
theorem onceGo_iff : ∀ (l : List Cel) (seen : List Key), onceGo seen l = true ↔ (∀ c ∈ l, celR c = true) ∧ (∀ c ∈ l, c.1 ∉ seen) ∧ nodupK l
  | [], seen => by simp [onceGo, nodupK]
  | c :: l, seen => by
    unfold onceGo
    simp only [Bool.and_eq_true, onceGo_iff l, List.mem_cons, forall_eq_or_imp, Bool.not_eq_true', List.any_eq_false, decide_eq_true_eq, nodupK, List.map_cons, List.nodup_cons, List.mem_map]
    constructor
    · rintro ⟨h1, h2, h3, h4, h5⟩
      refine ⟨⟨h1, h3⟩, ⟨fun h => h2 _ h rfl, fun d hd h => h4 d hd (.inr h)⟩, ?_, h5⟩
      rintro ⟨d, hd, e⟩
      exact h4 d hd (.inl e)
    · rintro ⟨⟨h1, h3⟩, ⟨h4, h6⟩, h7, h5⟩
      refine ⟨h1, fun x hx e => h4 (e ▸ hx), h3, fun d hd h => ?_, h5⟩
      rcases h with h | h
      · exact h7 ⟨d, hd, h⟩
      · exact h6 d hd h
theorem onceS_iff (l : List Cel) : onceS l = true ↔ (∀ c ∈ l, celR c = true) ∧ nodupK l ∧ l ≠ [] := by
  unfold onceS
  simp only [Bool.and_eq_true, onceGo_iff, decide_eq_true_eq, List.not_mem_nil, not_false_eq_true, implies_true, true_and, and_assoc]
/-- what stands at a key behind cells of unlike keys -/
theorem chnOf_laidAll (q : Int) : ∀ (l : List Cel) (m : Chs) (k : Key), nodupK l → chnOf (laidAll q m l) k = match l.find? (fun c => decide (c.1 = k)) with | some c => chnOf m k ++ [(q, c.2)] | none => chnOf m k
  | [], m, k, _ => rfl
  | c :: l, m, k, h => by
    have h' : c.1 ∉ l.map (·.1) ∧ nodupK l := List.nodup_cons.1 h
    rw [laidAll_cons, chnOf_laidAll q l _ k h'.2, List.find?_cons, chnOf_laid]
    by_cases hk : c.1 = k
    · have hno : l.find? (fun d => decide (d.1 = k)) = none := by
        rw [List.find?_eq_none]
        intro d hd
        simp only [decide_eq_true_eq]
        intro e
        exact h'.1 (List.mem_map.2 ⟨d, hd, e.trans hk.symm⟩)
      rw [hno, decide_eq_true hk, if_pos hk, hk]
    · rw [decide_eq_false hk, if_neg hk]
/-! what is so of each store -/
structure StoOk (s : Sto) : Prop where
  u : 0 ≤ s.1 ∧ s.1 ≤ 18446744073709551615
  n : 0 ≤ s.2.1 ∧ s.2.1 ≤ s.2.2.1
  most : s.2.2.1 ≤ 1048576
  few : s.2.1 ≤ 500000
  len : (chsLen s.2.2.2.1 : Int) = s.2.1
  rows : ∀ p ∈ s.2.2.2.1, rightFrom 0 p.2 = true ∧ newS p.2 ≤ s.1
theorem stoOk_iff (s : Sto) : stoOk s = true ↔ StoOk s := by
  unfold stoOk isU
  simp only [Bool.and_eq_true, decide_eq_true_eq, List.all_eq_true]
  constructor
  · rintro ⟨⟨h1, h2⟩, h3, h4, h5, h8, h6, h7⟩
    exact ⟨⟨h1, h2⟩, ⟨h3, h4⟩, h5, h8, h6, h7⟩
  · rintro ⟨⟨h1, h2⟩, ⟨h3, h4⟩, h5, h8, h6, h7⟩
    exact ⟨⟨h1, h2⟩, h3, h4, h5, h8, h6, h7⟩
theorem chnOf_ok {s : Sto} (h : StoOk s) (k : Key) : rightFrom 0 (chnOf s.2.2.2.1 k) = true ∧ newS (chnOf s.2.2.2.1 k) ≤ s.1 ∧ (chnOf s.2.2.2.1 k).length ≤ 500000 := by
  have hl := chnOf_len s.2.2.2.1 k
  refine ⟨?_, ?_, by have := h.len; have := h.few; omega⟩
  all_goals
    have hrow := h.rows
    generalize s.2.2.2.1 = m at hrow
    clear hl
    induction m with
    | nil => first | rfl | exact h.u.1
    | cons p m ih =>
      rw [chnOf_cons]
      split
      · first | exact (hrow p List.mem_cons_self).1 | exact (hrow p List.mem_cons_self).2
      · exact ih fun q hq => hrow q (List.mem_cons_of_mem _ hq)
end Go.BB
set_option linter.unusedSimpArgs false
set_option linter.unusedVariables false
/-! plain lemmas on stores: what is installed keeps a store right -/
namespace Go.BB
open Go
theorem chnOf_mem (m : Chs) (k : Key) : chnOf m k = [] ∨ (k, chnOf m k) ∈ m := by
  induction m with
  | nil => exact .inl rfl
  | cons p m ih =>
    rw [chnOf_cons]
    by_cases h : p.1 = k
    · rw [if_pos h]; subst h; exact .inr List.mem_cons_self
    · rw [if_neg h]
      rcases ih with h | h
      · exact .inl h
      · exact .inr (List.mem_cons_of_mem _ h)
theorem mem_laid {m : Chs} {k : Key} {v : Ver} {p : Key × List Ver} (h : p ∈ laid m k v) : p ∈ m ∨ p = (k, chnOf m k ++ [v]) := by
  induction m with
  | nil => rw [laid_nil] at h; exact .inr (List.mem_singleton.1 h)
  | cons q m ih =>
    rw [laid_cons] at h
    rw [chnOf_cons]
    by_cases e : q.1 = k
    · rw [if_pos e] at h ⊢
      rcases List.mem_cons.1 h with h | h
      · exact .inr (h.trans (by rw [e]))
      · exact .inl (List.mem_cons_of_mem _ h)
    · rw [if_neg e] at h ⊢
      rcases List.mem_cons.1 h with h | h
      · exact .inl (h ▸ List.mem_cons_self)
      · rcases ih h with h | h
        · exact .inl (List.mem_cons_of_mem _ h)
        · exact .inr h
theorem rows_laidAll (q : Int) (hq : 0 < q) : ∀ (l : List Cel) (m : Chs), nodupK l → (∀ p ∈ m, rightFrom 0 p.2 = true ∧ newS p.2 ≤ q ∧ (newS p.2 = q → ∀ c ∈ l, c.1 ≠ p.1)) → ∀ p ∈ laidAll q m l, rightFrom 0 p.2 = true ∧ newS p.2 ≤ q
  | [], m, _, h, p, hp => ⟨(h p hp).1, (h p hp).2.1⟩
  | c :: l, m, hn, h, p, hp => by
    have hn' : c.1 ∉ l.map (·.1) ∧ nodupK l := List.nodup_cons.1 hn
    rw [laidAll_cons] at hp
    refine rows_laidAll q hq l _ hn'.2 (fun r hr => ?_) p hp
    rcases mem_laid hr with hr | hr
    · exact ⟨(h r hr).1, (h r hr).2.1, fun e d hd => (h r hr).2.2 e d (List.mem_cons_of_mem _ hd)⟩
    · subst hr
      refine ⟨?_, Int.le_of_eq (newS_snoc _ _), fun _ d hd e => hn'.1 (List.mem_map.2 ⟨d, hd, e⟩)⟩
      rcases chnOf_mem m c.1 with e | e
      · rw [e]; exact rf_cons.2 ⟨hq, rfl⟩
      · have hc := h _ e
        refine rf_add hc.1 ?_
        rcases Int.lt_or_eq_of_le hc.2.1 with h1 | h1
        · exact h1
        · exact absurd rfl (hc.2.2 h1 c List.mem_cons_self)
theorem instS_new {s : Sto} {l : List Cel} (ho : onceS l = true) (h1 : s.1 ≠ 18446744073709551615) (h2 : (l.length : Int) ≤ s.2.2.1 - s.2.1) :
    instS s l = ((s.1 + 1, 0), (s.1 + 1, s.2.1 + l.length, s.2.2.1, laidAll (s.1 + 1) s.2.2.2.1 l, ())) := by
  unfold instS
  rw [if_neg (by rw [ho]; decide), if_neg h1, if_neg (by omega)]
theorem instS_ok {s : Sto} (h : StoOk s) {l : List Cel} (hl : s.2.1 + l.length ≤ 500000) : StoOk (instS s l).2 := by
  unfold instS
  by_cases ho : onceS l = false
  · rw [if_pos ho]; exact h
  rw [if_neg ho]
  by_cases h1 : s.1 = 18446744073709551615
  · rw [if_pos h1]; exact h
  rw [if_neg h1]
  by_cases h2 : (l.length : Int) > s.2.2.1 - s.2.1
  · rw [if_pos h2]; exact h
  rw [if_neg h2]
  have hu := h.u
  have hn := h.n
  have hlen := h.len
  refine ⟨⟨by show 0 ≤ s.1 + 1; omega, by show s.1 + 1 ≤ _; omega⟩, ⟨by show 0 ≤ s.2.1 + (l.length : Int); omega, by show s.2.1 + (l.length : Int) ≤ s.2.2.1; omega⟩, h.most, hl, ?_, ?_⟩
  · show (chsLen (laidAll (s.1 + 1) s.2.2.2.1 l) : Int) = s.2.1 + l.length
    rw [chsLen_laidAll]
    push_cast
    omega
  · refine rows_laidAll (s.1 + 1) (by omega) l _ ((onceS_iff l).1 (by simpa using ho)).2.1 fun p hp => ?_
    have hr := h.rows p hp
    exact ⟨hr.1, by omega, fun e => absurd e (by omega)⟩
theorem stNewS_ok {f : Int} (m : Int) (h0 : 0 ≤ f) (h1 : f ≤ 18446744073709551615) : StoOk (stNewS f m) :=
  ⟨⟨h0, h1⟩, ⟨Int.le_refl _, by show (0 : Int) ≤ min (max m 0) 1048576; omega⟩, by show min (max m 0) 1048576 ≤ 1048576; omega, by show (0 : Int) ≤ 500000; decide, rfl, fun p hp => nomatch hp⟩
/-! cells made by numbers may be -/
theorem mem_cellsR {x : Cel} : ∀ (ks : List Int) (l : List Cel), x ∈ ks.foldl (fun l k => putR l (cellS k)) l → x ∈ l ∨ ∃ k, x = cellS k
  | [], l, h => .inl h
  | k :: ks, l, h => by
    rcases mem_cellsR ks _ h with h | h
    · rcases mem_putR h with h | h
      · exact .inr ⟨k, h⟩
      · exact .inl h
    · exact .inr h
theorem cellS_right (k : Int) : celR (cellS k) = true := by
  have h := cellS_ok k
  have hk : keyR (cellS k).1 = true := by
    have := keyS_ok k
    simp only [keyR, Bool.and_eq_true, decide_eq_true_eq]
    exact this
  unfold celR
  rw [hk, Bool.true_and, Bool.or_eq_true, decide_eq_true_eq]
  by_cases ht : (cellS k).1.1 < 2
  · exact .inl (by omega)
  · refine .inr ?_
    have : isBits (cellS k).1.1 = false := by
      unfold isBits
      rw [Bool.or_eq_false_iff]
      exact ⟨beq_eq_false_iff_ne.2 (by omega), beq_eq_false_iff_ne.2 (by omega)⟩
    rw [this]; rfl
theorem mem_cellsS {ks : List Int} {x : Cel} (h : x ∈ cellsS ks) : ∃ k, x = cellS k := by
  rw [cellsS_eq] at h
  rcases mem_cellsR _ _ h with h | h
  · cases h
  · exact h
theorem nodupK_buf : ∀ {l : List Cel}, bufS l = true → nodupK l
  | [], _ => List.nodup_nil
  | a :: l, h => by
    rw [bufS_cons] at h
    refine List.nodup_cons.2 ⟨fun hm => ?_, nodupK_buf h.2⟩
    obtain ⟨d, hd, e⟩ := List.mem_map.1 hm
    have := h.1 d hd
    rw [e, keyLt_irrefl] at this; cases this
theorem onceS_cells {ks : List Int} (h : cellsS ks ≠ []) : onceS (cellsS ks) = true :=
  (onceS_iff _).2 ⟨fun c hc => by obtain ⟨k, rfl⟩ := mem_cellsS hc; exact cellS_right k, nodupK_buf (cellsS_buf ks), h⟩
theorem onceS_nil : onceS [] = false := rfl
theorem getR_find {k : Key} : ∀ {l : List Cel}, bufS l = true → getR l k = (l.find? (fun c => decide (c.1 = k))).map (·.2)
  | [], _ => rfl
  | a :: l, h => by
    rw [bufS_cons] at h
    unfold getR
    rw [List.find?_cons]
    rcases key_three a.1 k with ⟨h1, h2, _⟩ | ⟨h1, h2⟩ | ⟨h1, h2, h3⟩
    · rw [if_pos h1, decide_eq_false h2, getR_find h.2]
    · rw [if_neg (by rw [h2]; decide), if_pos h1, decide_eq_true h1]; rfl
    · rw [if_neg (by rw [h1]; decide), if_neg h2, decide_eq_false h2]
      have : l.find? (fun c => decide (c.1 = k)) = none := by
        rw [List.find?_eq_none]
        intro d hd
        simp only [decide_eq_true_eq]
        intro e
        have := keyLt_trans h3 (h.1 d hd)
        rw [e, keyLt_irrefl] at this; cases this
      rw [this]; rfl
theorem find_mem {l : List Cel} (h : nodupK l) {c : Cel} (hc : c ∈ l) : l.find? (fun d => decide (d.1 = c.1)) = some c := by
  induction l with
  | nil => cases hc
  | cons a l ih =>
    have h' : a.1 ∉ l.map (·.1) ∧ nodupK l := List.nodup_cons.1 h
    rw [List.find?_cons]
    rcases List.mem_cons.1 hc with e | e
    · subst e; rw [decide_eq_true rfl]
    · have : a.1 ≠ c.1 := fun x => h'.1 (List.mem_map.2 ⟨c, e, x.symm⟩)
      rw [decide_eq_false this]
      exact ih h'.2 e
theorem getK_find {l : List Cel} (h : bufS l = true) (k : Key) : getK l k = match l.find? (fun c => decide (c.1 = k)) with | some c => (c.2, true) | none => (0, false) := by
  rw [getK_eq, getR_find h]
  cases l.find? (fun c => decide (c.1 = k)) <;> rfl
end Go.BB
