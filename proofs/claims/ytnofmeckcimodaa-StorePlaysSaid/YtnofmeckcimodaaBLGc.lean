/- A symbolic machine for the model's code, and what it shows of this seat's functions. No conditions. -/
import Derived.Test.YtnofmeckcimodaaBLStore
import Derived.Test.YtnofmeckcimodaaBGstore3
import Derived.Test.YtnofmeckcimodaaBLRef
set_option linter.unusedSimpArgs false
set_option linter.unusedVariables false
/-! plain lemmas on stores: what is installed keeps a store right -/
namespace Go.BB
open Go
theorem chnOf_mem (m : Chs) (k : Key) : chnOf m k = [] ∨ (k, chnOf m k) ∈ m := by
  induction m with
  | nil => exact .inl rfl
  | cons p m ih =>
    rw [chnOf_cons]
    by_cases h : p.1 = k
    · rw [if_pos h]; subst h; exact .inr List.mem_cons_self
    · rw [if_neg h]
      rcases ih with h | h
      · exact .inl h
      · exact .inr (List.mem_cons_of_mem _ h)
theorem mem_laid {m : Chs} {k : Key} {v : Ver} {p : Key × List Ver} (h : p ∈ laid m k v) : p ∈ m ∨ p = (k, chnOf m k ++ [v]) := by
  induction m with
  | nil => rw [laid_nil] at h; exact .inr (List.mem_singleton.1 h)
  | cons q m ih =>
    rw [laid_cons] at h
    rw [chnOf_cons]
    by_cases e : q.1 = k
    · rw [if_pos e] at h ⊢
      rcases List.mem_cons.1 h with h | h
      · exact .inr (h.trans (by rw [e]))
      · exact .inl (List.mem_cons_of_mem _ h)
    · rw [if_neg e] at h ⊢
      rcases List.mem_cons.1 h with h | h
      · exact .inl (h ▸ List.mem_cons_self)
      · rcases ih h with h | h
        · exact .inl (List.mem_cons_of_mem _ h)
        · exact .inr h
theorem rows_laidAll (q : Int) (hq : 0 < q) : ∀ (l : List Cel) (m : Chs), nodupK l → (∀ p ∈ m, rightFrom 0 p.2 = true ∧ newS p.2 ≤ q ∧ (newS p.2 = q → ∀ c ∈ l, c.1 ≠ p.1)) → ∀ p ∈ laidAll q m l, rightFrom 0 p.2 = true ∧ newS p.2 ≤ q
  | [], m, _, h, p, hp => ⟨(h p hp).1, (h p hp).2.1⟩
  | c :: l, m, hn, h, p, hp => by
    have hn' : c.1 ∉ l.map (·.1) ∧ nodupK l := List.nodup_cons.1 hn
    rw [laidAll_cons] at hp
    refine rows_laidAll q hq l _ hn'.2 (fun r hr => ?_) p hp
    rcases mem_laid hr with hr | hr
    · exact ⟨(h r hr).1, (h r hr).2.1, fun e d hd => (h r hr).2.2 e d (List.mem_cons_of_mem _ hd)⟩
    · subst hr
      refine ⟨?_, Int.le_of_eq (newS_snoc _ _), fun _ d hd e => hn'.1 (List.mem_map.2 ⟨d, hd, e⟩)⟩
      rcases chnOf_mem m c.1 with e | e
      · rw [e]; exact rf_cons.2 ⟨hq, rfl⟩
      · have hc := h _ e
        refine rf_add hc.1 ?_
        rcases Int.lt_or_eq_of_le hc.2.1 with h1 | h1
        · exact h1
        · exact absurd rfl (hc.2.2 h1 c List.mem_cons_self)
theorem instS_new {s : Sto} {l : List Cel} (ho : onceS l = true) (h1 : s.1 ≠ 18446744073709551615) (h2 : (l.length : Int) ≤ s.2.2.1 - s.2.1) :
    instS s l = ((s.1 + 1, 0), (s.1 + 1, s.2.1 + l.length, s.2.2.1, laidAll (s.1 + 1) s.2.2.2.1 l, ())) := by
  unfold instS
  rw [if_neg (by rw [ho]; decide), if_neg h1, if_neg (by omega)]
theorem instS_ok {s : Sto} (h : StoOk s) {l : List Cel} (hl : s.2.1 + l.length ≤ 500000) : StoOk (instS s l).2 := by
  unfold instS
  by_cases ho : onceS l = false
  · rw [if_pos ho]; exact h
  rw [if_neg ho]
  by_cases h1 : s.1 = 18446744073709551615
  · rw [if_pos h1]; exact h
  rw [if_neg h1]
  by_cases h2 : (l.length : Int) > s.2.2.1 - s.2.1
  · rw [if_pos h2]; exact h
  rw [if_neg h2]
  have hu := h.u
  have hn := h.n
  have hlen := h.len
  refine ⟨⟨by show 0 ≤ s.1 + 1; omega, by show s.1 + 1 ≤ _; omega⟩, ⟨by show 0 ≤ s.2.1 + (l.length : Int); omega, by show s.2.1 + (l.length : Int) ≤ s.2.2.1; omega⟩, h.most, hl, ?_, ?_⟩
  · show (chsLen (laidAll (s.1 + 1) s.2.2.2.1 l) : Int) = s.2.1 + l.length
    rw [chsLen_laidAll]
    push_cast
    omega
  · refine rows_laidAll (s.1 + 1) (by omega) l _ ((onceS_iff l).1 (by simpa using ho)).2.1 fun p hp => ?_
    have hr := h.rows p hp
    exact ⟨hr.1, by omega, fun e => absurd e (by omega)⟩
theorem stNewS_ok {f : Int} (m : Int) (h0 : 0 ≤ f) (h1 : f ≤ 18446744073709551615) : StoOk (stNewS f m) :=
  ⟨⟨h0, h1⟩, ⟨Int.le_refl _, by show (0 : Int) ≤ min (max m 0) 1048576; omega⟩, by show min (max m 0) 1048576 ≤ 1048576; omega, by show (0 : Int) ≤ 500000; decide, rfl, fun p hp => nomatch hp⟩
/-! cells made by numbers may be -/
theorem mem_cellsR {x : Cel} : ∀ (ks : List Int) (l : List Cel), x ∈ ks.foldl (fun l k => putR l (cellS k)) l → x ∈ l ∨ ∃ k, x = cellS k
  | [], l, h => .inl h
  | k :: ks, l, h => by
    rcases mem_cellsR ks _ h with h | h
    · rcases mem_putR h with h | h
      · exact .inr ⟨k, h⟩
      · exact .inl h
    · exact .inr h
theorem cellS_right (k : Int) : celR (cellS k) = true := by
  have h := cellS_ok k
  have hk : keyR (cellS k).1 = true := by
    have := keyS_ok k
    simp only [keyR, Bool.and_eq_true, decide_eq_true_eq]
    exact this
  unfold celR
  rw [hk, Bool.true_and, Bool.or_eq_true, decide_eq_true_eq]
  by_cases ht : (cellS k).1.1 < 2
  · exact .inl (by omega)
  · refine .inr ?_
    have : isBits (cellS k).1.1 = false := by
      unfold isBits
      rw [Bool.or_eq_false_iff]
      exact ⟨beq_eq_false_iff_ne.2 (by omega), beq_eq_false_iff_ne.2 (by omega)⟩
    rw [this]; rfl
theorem mem_cellsS {ks : List Int} {x : Cel} (h : x ∈ cellsS ks) : ∃ k, x = cellS k := by
  rw [cellsS_eq] at h
  rcases mem_cellsR _ _ h with h | h
  · cases h
  · exact h
theorem nodupK_buf : ∀ {l : List Cel}, bufS l = true → nodupK l
  | [], _ => List.nodup_nil
  | a :: l, h => by
    rw [bufS_cons] at h
    refine List.nodup_cons.2 ⟨fun hm => ?_, nodupK_buf h.2⟩
    obtain ⟨d, hd, e⟩ := List.mem_map.1 hm
    have := h.1 d hd
    rw [e, keyLt_irrefl] at this; cases this
theorem onceS_cells {ks : List Int} (h : cellsS ks ≠ []) : onceS (cellsS ks) = true :=
  (onceS_iff _).2 ⟨fun c hc => by obtain ⟨k, rfl⟩ := mem_cellsS hc; exact cellS_right k, nodupK_buf (cellsS_buf ks), h⟩
theorem onceS_nil : onceS [] = false := rfl
theorem getR_find {k : Key} : ∀ {l : List Cel}, bufS l = true → getR l k = (l.find? (fun c => decide (c.1 = k))).map (·.2)
  | [], _ => rfl
  | a :: l, h => by
    rw [bufS_cons] at h
    unfold getR
    rw [List.find?_cons]
    rcases key_three a.1 k with ⟨h1, h2, _⟩ | ⟨h1, h2⟩ | ⟨h1, h2, h3⟩
    · rw [if_pos h1, decide_eq_false h2, getR_find h.2]
    · rw [if_neg (by rw [h2]; decide), if_pos h1, decide_eq_true h1]; rfl
    · rw [if_neg (by rw [h1]; decide), if_neg h2, decide_eq_false h2]
      have : l.find? (fun c => decide (c.1 = k)) = none := by
        rw [List.find?_eq_none]
        intro d hd
        simp only [decide_eq_true_eq]
        intro e
        have := keyLt_trans h3 (h.1 d hd)
        rw [e, keyLt_irrefl] at this; cases this
      rw [this]; rfl
theorem find_mem {l : List Cel} (h : nodupK l) {c : Cel} (hc : c ∈ l) : l.find? (fun d => decide (d.1 = c.1)) = some c := by
  induction l with
  | nil => cases hc
  | cons a l ih =>
    have h' : a.1 ∉ l.map (·.1) ∧ nodupK l := List.nodup_cons.1 h
    rw [List.find?_cons]
    rcases List.mem_cons.1 hc with e | e
    · subst e; rw [decide_eq_true rfl]
    · have : a.1 ≠ c.1 := fun x => h'.1 (List.mem_map.2 ⟨c, e, x.symm⟩)
      rw [decide_eq_false this]
      exact ih h'.2 e
theorem getK_find {l : List Cel} (h : bufS l = true) (k : Key) : getK l k = match l.find? (fun c => decide (c.1 = k)) with | some c => (c.2, true) | none => (0, false) := by
  rw [getK_eq, getR_find h]
  cases l.find? (fun c => decide (c.1 = k)) <;> rfl
end Go.BB
set_option linter.unusedSimpArgs false
set_option linter.unusedVariables false
/-! plain lemmas on gc, and on loops over maps -/
namespace Go.BB
open Go
theorem allOf_eq {R : Type} {is : List Nat} {f : Nat → Option R} {r : R} (hne : is ≠ []) (h : ∀ i ∈ is, f i = some r) : allOf is f = some r := by
  unfold allOf
  have hex : ∃ r, ∀ i ∈ is, f i = some r := ⟨r, h⟩
  rw [dif_pos hex]
  have hc := Classical.choose_spec hex
  cases is with
  | nil => exact absurd rfl hne
  | cons i is => rw [← hc i List.mem_cons_self]; exact h i List.mem_cons_self
/-- a loop over a map, whatever the order, by what holds ahead of each round -/
theorem rngN_inv {X R : Type} {step : Nat → (X → Option R) → X → Option R} {fin : X → Option R} (res : R) (I : List Nat → X → Prop)
    (hs : ∀ left x, I left x → ∀ j ∈ left, ∀ rec, (∀ y, I (left.erase j) y → rec y = some res) → step j rec x = some res) (hf : ∀ x, I [] x → fin x = some res) :
    ∀ (n : Nat) (left : List Nat) (x : X), left.length ≤ n → I left x → rngN step fin n left x = some res := by
  intro n
  induction n with
  | zero =>
    intro left x hl hI
    cases left with
    | nil => exact hf x hI
    | cons i is => simp at hl
  | succ n ih =>
    intro left x hl hI
    cases left with
    | nil => exact hf x hI
    | cons i is =>
      refine allOf_eq (by simp) fun j hj => hs _ x hI j hj _ fun y hy => ih _ y ?_ hy
      rw [List.length_erase_of_mem hj]
      simp only [List.length_cons] at hl ⊢
      omega
theorem gcM_keys (q : Int) (m : Chs) : (gcM q m).map (·.1) = m.map (·.1) := by simp [gcM, Function.comp_def]
theorem gcM_get (q : Int) (m : Chs) (i : Nat) : (gcM q m)[i]? = m[i]?.map fun p => (p.1, trimS p.2 q) := by simp [gcM]
theorem gcM_len (q : Int) (m : Chs) : (gcM q m).length = m.length := by simp [gcM]
theorem chnOf_gcM (q : Int) : ∀ (m : Chs) (k : Key), chnOf (gcM q m) k = trimS (chnOf m k) q
  | [], k => rfl
  | p :: m, k => by
    show chnOf ((p.1, trimS p.2 q) :: gcM q m) k = _
    rw [chnOf_cons, chnOf_cons, chnOf_gcM q m k]
    split <;> rfl
theorem chsLen_set {m : Chs} {i : Nat} {p : Key × List Ver} (h : m[i]? = some p) (l : List Ver) : chsLen (m.set i (p.1, l)) + p.2.length = chsLen m + l.length := by
  induction m generalizing i with
  | nil => simp at h
  | cons a m ih =>
    cases i with
    | zero =>
      simp only [List.getElem?_cons_zero, Option.some.injEq] at h
      subst h
      rw [List.set_cons_zero, chsLen_cons, chsLen_cons]
      simp only
      omega
    | succ i =>
      have := ih (i := i) (by simpa using h)
      rw [List.set_cons_succ, chsLen_cons, chsLen_cons]
      omega
theorem chsLen_gcM (q : Int) : ∀ (m : Chs), chsLen (gcM q m) ≤ chsLen m
  | [] => Nat.le_refl _
  | p :: m => by
    show chsLen ((p.1, trimS p.2 q) :: gcM q m) ≤ _
    rw [chsLen_cons, chsLen_cons]
    have := chsLen_gcM q m
    have := trim_len p.2 q
    simp only
    omega
theorem goneM_nonneg (q : Int) (m : Chs) : 0 ≤ goneM q m := by
  have := chsLen_gcM q m
  unfold goneM
  omega
/-- where a key stands -/
theorem midx_self : ∀ {m : Chs} {i : Nat} {p : Key × List Ver}, (m.map (·.1)).Nodup → m[i]? = some p → midx eqK m p.1 = some i
  | [], _, _, _, h => by simp at h
  | a :: m, 0, p, hn, h => by
    simp only [List.getElem?_cons_zero, Option.some.injEq] at h
    subst h
    rw [midx_cons, if_pos rfl]
  | a :: m, i + 1, p, hn, h => by
    have hn' : a.1 ∉ m.map (·.1) ∧ (m.map (·.1)).Nodup := List.nodup_cons.1 hn
    have h' : m[i]? = some p := by simpa using h
    rw [midx_cons, if_neg (fun e => hn'.1 (List.mem_map.2 ⟨p, List.mem_of_getElem? h', e.symm⟩)), midx_self hn'.2 h']
    rfl
theorem mem_chsLen {m : Chs} {p : Key × List Ver} (h : p ∈ m) : p.2.length ≤ chsLen m := mem_len (l := m) h
theorem gcS_ok {s : Sto} (h : StoOk s) (q : Int) : StoOk (gcS s q) := by
  have h1 := chsLen_gcM q s.2.2.2.1
  have h2 := h.len
  have h3 := h.n
  refine ⟨h.u, ?_, h.most, ?_, ?_, fun p hp => ?_⟩
  · show 0 ≤ s.2.1 - goneM q s.2.2.2.1 ∧ s.2.1 - goneM q s.2.2.2.1 ≤ s.2.2.1
    unfold goneM
    omega
  · have := h.few
    show s.2.1 - goneM q s.2.2.2.1 ≤ 500000
    unfold goneM
    omega
  · show (chsLen (gcM q s.2.2.2.1) : Int) = s.2.1 - goneM q s.2.2.2.1
    unfold goneM
    omega
  · obtain ⟨p0, h4, rfl⟩ := List.mem_map.1 hp
    have h5 := h.rows p0 h4
    exact ⟨rf_trim h5.1 q, by show newS (trimS p0.2 q) ≤ s.1; rw [newS_trim]; exact h5.2⟩
theorem trim_ne {l : List Ver} (h : l ≠ []) (q : Int) : trimS l q ≠ [] := by
  unfold trimS
  intro hc
  have h1 := cnt_le l q
  have h2 : (l.drop (cnt l q - 1)).length = 0 := by rw [hc]; rfl
  rw [List.length_drop] at h2
  have : 0 < l.length := List.length_pos_iff.2 h
  omega
theorem srtR_gcM (q : Int) : ∀ {m : List Row}, srtR m = true → srtR (gcM q m) = true
  | [], _ => rfl
  | a :: m, h => by
    obtain ⟨h1, h2⟩ := srtR_cons.1 h
    refine srtR_cons.2 ⟨fun c hc => ?_, srtR_gcM q h2⟩
    obtain ⟨c0, h3, rfl⟩ := List.mem_map.1 hc
    exact h1 c0 h3
theorem rgcS_ok {x : Ref} (h : RefOk x) (q : Int) : RefOk (rgcS x q) := by
  have h1 := chsLen_gcM q x.2.2.1
  have h2 := h.len
  have h3 := h.few
  refine ⟨h.u, h.most, ?_, ?_, srtR_gcM q h.srt, ?_, fun p hp => ?_⟩
  · show (chsLen (gcM q x.2.2.1) : Int) ≤ x.2.1
    omega
  · show chsLen (gcM q x.2.2.1) ≤ 500000
    omega
  · show (gcM q x.2.2.1).length ≤ _
    rw [gcM_len]; exact h.rowsN
  · obtain ⟨p0, h4, rfl⟩ := List.mem_map.1 hp
    have h5 := h.rows p0 h4
    exact ⟨trim_ne h5.1 q, rf_trim h5.2.1 q, by show newS (trimS p0.2 q) ≤ x.1; rw [newS_trim]; exact h5.2.2⟩
theorem nodM_iff (m : Chs) : nodM m = true ↔ (m.map (·.1)).Nodup := by unfold nodM; exact decide_eq_true_iff
theorem nodM_gc {m : Chs} (h : nodM m = true) (q : Int) : nodM (gcM q m) = true := by
  rw [nodM_iff] at h ⊢
  rw [gcM_keys]; exact h
theorem keys_laid (m : Chs) (k : Key) (v : Ver) : (laid m k v).map (·.1) = if k ∈ m.map (·.1) then m.map (·.1) else m.map (·.1) ++ [k] := by
  induction m with
  | nil => rw [laid_nil]; rfl
  | cons p m ih =>
    rw [laid_cons]
    by_cases h : p.1 = k
    · rw [if_pos h, if_pos (by rw [List.map_cons, h]; exact List.mem_cons_self)]; rfl
    · rw [if_neg h, List.map_cons, ih]
      by_cases h2 : k ∈ m.map (·.1)
      · rw [if_pos h2, if_pos (by rw [List.map_cons]; exact List.mem_cons_of_mem _ h2)]; rfl
      · rw [if_neg h2, if_neg (by
          rw [List.map_cons]
          intro hc
          rcases List.mem_cons.1 hc with hc | hc
          · exact h hc.symm
          · exact h2 hc)]
        rfl
theorem nodM_laid {m : Chs} (h : nodM m = true) (k : Key) (v : Ver) : nodM (laid m k v) = true := by
  rw [nodM_iff] at h ⊢
  rw [keys_laid]
  split
  · exact h
  · rename_i hk
    exact List.nodup_append.2 ⟨h, by simp, fun a ha b hb e => hk (by rw [List.mem_singleton.1 hb] at e; rw [← e]; exact ha)⟩
theorem nodM_laidAll (q : Int) : ∀ (l : List Cel) {m : Chs}, nodM m = true → nodM (laidAll q m l) = true
  | [], m, h => h
  | c :: l, m, h => by rw [laidAll_cons]; exact nodM_laidAll q l (nodM_laid h _ _)
theorem nodM_inst {s : Sto} (h : nodM s.2.2.2.1 = true) (l : List Cel) : nodM (instS s l).2.2.2.2.1 = true := by
  unfold instS
  split
  · exact h
  · split
    · exact h
    · split
      · exact h
      · exact nodM_laidAll _ l h
theorem nodM_nil : nodM [] = true := by decide
end Go.BB
