/- A symbolic machine for the model's code, and what it shows of this seat's functions. No conditions. -/
import Derived.Test.YtnofmeckcimodaaCVstore
import Derived.Test.YtnofmeckcimodaaCSFile
import Derived.Test.YtnofmeckcimodaaCLem
set_option linter.unusedSimpArgs false
set_option linter.unusedVariables false
/-! plain lemmas on stores: what is installed keeps a store right -/
namespace Go.BB
open Go
theorem chnOf_mem (m : Chs) (k : Key) : chnOf m k = [] ∨ (k, chnOf m k) ∈ m := by
  induction m with
  | nil => exact .inl rfl
  | cons p m ih =>
    rw [chnOf_cons]
    by_cases h : p.1 = k
    · rw [if_pos h]; subst h; exact .inr List.mem_cons_self
    · rw [if_neg h]
      rcases ih with h | h
      · exact .inl h
      · exact .inr (List.mem_cons_of_mem _ h)
theorem mem_laid {m : Chs} {k : Key} {v : Ver} {p : Key × List Ver} (h : p ∈ laid m k v) : p ∈ m ∨ p = (k, chnOf m k ++ [v]) := by
  induction m with
  | nil => rw [laid_nil] at h; exact .inr (List.mem_singleton.1 h)
  | cons q m ih =>
    rw [laid_cons] at h
    rw [chnOf_cons]
    by_cases e : q.1 = k
    · rw [if_pos e] at h ⊢
      rcases List.mem_cons.1 h with h | h
      · exact .inr (h.trans (by rw [e]))
      · exact .inl (List.mem_cons_of_mem _ h)
    · rw [if_neg e] at h ⊢
      rcases List.mem_cons.1 h with h | h
      · exact .inl (h ▸ List.mem_cons_self)
      · rcases ih h with h | h
        · exact .inl (List.mem_cons_of_mem _ h)
        · exact .inr h
theorem rows_laidAll (q : Int) (hq : 0 < q) : ∀ (l : List Cel) (m : Chs), nodupK l → (∀ p ∈ m, rightFrom 0 p.2 = true ∧ newS p.2 ≤ q ∧ (newS p.2 = q → ∀ c ∈ l, c.1 ≠ p.1)) → ∀ p ∈ laidAll q m l, rightFrom 0 p.2 = true ∧ newS p.2 ≤ q
  | [], m, _, h, p, hp => ⟨(h p hp).1, (h p hp).2.1⟩
  | c :: l, m, hn, h, p, hp => by
    have hn' : c.1 ∉ l.map (·.1) ∧ nodupK l := List.nodup_cons.1 hn
    rw [laidAll_cons] at hp
    refine rows_laidAll q hq l _ hn'.2 (fun r hr => ?_) p hp
    rcases mem_laid hr with hr | hr
    · exact ⟨(h r hr).1, (h r hr).2.1, fun e d hd => (h r hr).2.2 e d (List.mem_cons_of_mem _ hd)⟩
    · subst hr
      refine ⟨?_, Int.le_of_eq (newS_snoc _ _), fun _ d hd e => hn'.1 (List.mem_map.2 ⟨d, hd, e⟩)⟩
      rcases chnOf_mem m c.1 with e | e
      · rw [e]; exact rf_cons.2 ⟨hq, rfl⟩
      · have hc := h _ e
        refine rf_add hc.1 ?_
        rcases Int.lt_or_eq_of_le hc.2.1 with h1 | h1
        · exact h1
        · exact absurd rfl (hc.2.2 h1 c List.mem_cons_self)
theorem instS_new {s : Sto} {l : List Cel} (ho : onceS l = true) (h1 : s.1 ≠ 18446744073709551615) (h2 : (l.length : Int) ≤ s.2.2.1 - s.2.1) :
    instS s l = ((s.1 + 1, 0), (s.1 + 1, s.2.1 + l.length, s.2.2.1, laidAll (s.1 + 1) s.2.2.2.1 l, ())) := by
  unfold instS
  rw [if_neg (by rw [ho]; decide), if_neg h1, if_neg (by omega)]
theorem instS_ok {s : Sto} (h : StoOk s) {l : List Cel} (hl : s.2.1 + l.length ≤ 500000) : StoOk (instS s l).2 := by
  unfold instS
  by_cases ho : onceS l = false
  · rw [if_pos ho]; exact h
  rw [if_neg ho]
  by_cases h1 : s.1 = 18446744073709551615
  · rw [if_pos h1]; exact h
  rw [if_neg h1]
  by_cases h2 : (l.length : Int) > s.2.2.1 - s.2.1
  · rw [if_pos h2]; exact h
  rw [if_neg h2]
  have hu := h.u
  have hn := h.n
  have hlen := h.len
  refine ⟨⟨by show 0 ≤ s.1 + 1; omega, by show s.1 + 1 ≤ _; omega⟩, ⟨by show 0 ≤ s.2.1 + (l.length : Int); omega, by show s.2.1 + (l.length : Int) ≤ s.2.2.1; omega⟩, h.most, hl, ?_, ?_⟩
  · show (chsLen (laidAll (s.1 + 1) s.2.2.2.1 l) : Int) = s.2.1 + l.length
    rw [chsLen_laidAll]
    push_cast
    omega
  · refine rows_laidAll (s.1 + 1) (by omega) l _ ((onceS_iff l).1 (by simpa using ho)).2.1 fun p hp => ?_
    have hr := h.rows p hp
    exact ⟨hr.1, by omega, fun e => absurd e (by omega)⟩
theorem stNewS_ok {f : Int} (m : Int) (h0 : 0 ≤ f) (h1 : f ≤ 18446744073709551615) : StoOk (stNewS f m) :=
  ⟨⟨h0, h1⟩, ⟨Int.le_refl _, by show (0 : Int) ≤ min (max m 0) 1048576; omega⟩, by show min (max m 0) 1048576 ≤ 1048576; omega, by show (0 : Int) ≤ 500000; decide, rfl, fun p hp => nomatch hp⟩
/-! cells made by numbers may be -/
theorem mem_cellsR {x : Cel} : ∀ (ks : List Int) (l : List Cel), x ∈ ks.foldl (fun l k => putR l (cellS k)) l → x ∈ l ∨ ∃ k, x = cellS k
  | [], l, h => .inl h
  | k :: ks, l, h => by
    rcases mem_cellsR ks _ h with h | h
    · rcases mem_putR h with h | h
      · exact .inr ⟨k, h⟩
      · exact .inl h
    · exact .inr h
theorem cellS_right (k : Int) : celR (cellS k) = true := by
  have h := cellS_ok k
  have hk : keyR (cellS k).1 = true := by
    have := keyS_ok k
    simp only [keyR, Bool.and_eq_true, decide_eq_true_eq]
    exact this
  unfold celR
  rw [hk, Bool.true_and, Bool.or_eq_true, decide_eq_true_eq]
  by_cases ht : (cellS k).1.1 < 2
  · exact .inl (by omega)
  · refine .inr ?_
    have : isBits (cellS k).1.1 = false := by
      unfold isBits
      rw [Bool.or_eq_false_iff]
      exact ⟨beq_eq_false_iff_ne.2 (by omega), beq_eq_false_iff_ne.2 (by omega)⟩
    rw [this]; rfl
theorem mem_cellsS {ks : List Int} {x : Cel} (h : x ∈ cellsS ks) : ∃ k, x = cellS k := by
  rw [cellsS_eq] at h
  rcases mem_cellsR _ _ h with h | h
  · cases h
  · exact h
theorem nodupK_buf : ∀ {l : List Cel}, bufS l = true → nodupK l
  | [], _ => List.nodup_nil
  | a :: l, h => by
    rw [bufS_cons] at h
    refine List.nodup_cons.2 ⟨fun hm => ?_, nodupK_buf h.2⟩
    obtain ⟨d, hd, e⟩ := List.mem_map.1 hm
    have := h.1 d hd
    rw [e, keyLt_irrefl] at this; cases this
theorem onceS_cells {ks : List Int} (h : cellsS ks ≠ []) : onceS (cellsS ks) = true :=
  (onceS_iff _).2 ⟨fun c hc => by obtain ⟨k, rfl⟩ := mem_cellsS hc; exact cellS_right k, nodupK_buf (cellsS_buf ks), h⟩
theorem onceS_nil : onceS [] = false := rfl
theorem getR_find {k : Key} : ∀ {l : List Cel}, bufS l = true → getR l k = (l.find? (fun c => decide (c.1 = k))).map (·.2)
  | [], _ => rfl
  | a :: l, h => by
    rw [bufS_cons] at h
    unfold getR
    rw [List.find?_cons]
    rcases key_three a.1 k with ⟨h1, h2, _⟩ | ⟨h1, h2⟩ | ⟨h1, h2, h3⟩
    · rw [if_pos h1, decide_eq_false h2, getR_find h.2]
    · rw [if_neg (by rw [h2]; decide), if_pos h1, decide_eq_true h1]; rfl
    · rw [if_neg (by rw [h1]; decide), if_neg h2, decide_eq_false h2]
      have : l.find? (fun c => decide (c.1 = k)) = none := by
        rw [List.find?_eq_none]
        intro d hd
        simp only [decide_eq_true_eq]
        intro e
        have := keyLt_trans h3 (h.1 d hd)
        rw [e, keyLt_irrefl] at this; cases this
      rw [this]; rfl
theorem find_mem {l : List Cel} (h : nodupK l) {c : Cel} (hc : c ∈ l) : l.find? (fun d => decide (d.1 = c.1)) = some c := by
  induction l with
  | nil => cases hc
  | cons a l ih =>
    have h' : a.1 ∉ l.map (·.1) ∧ nodupK l := List.nodup_cons.1 h
    rw [List.find?_cons]
    rcases List.mem_cons.1 hc with e | e
    · subst e; rw [decide_eq_true rfl]
    · have : a.1 ≠ c.1 := fun x => h'.1 (List.mem_map.2 ⟨c, e, x.symm⟩)
      rw [decide_eq_false this]
      exact ih h'.2 e
theorem getK_find {l : List Cel} (h : bufS l = true) (k : Key) : getK l k = match l.find? (fun c => decide (c.1 = k)) with | some c => (c.2, true) | none => (0, false) := by
  rw [getK_eq, getR_find h]
  cases l.find? (fun c => decide (c.1 = k)) <;> rfl
end Go.BB
set_option linter.unusedSimpArgs false
set_option linter.unusedVariables false
/-! plain lemmas on deeds in order -/
namespace Go.BB
open Go
theorem sortR_snoc (l : List Deed) (x : Deed) : sortR (l ++ [x]) = insD x (sortR l) := by simp [sortR]
theorem insD_len (x : Deed) : ∀ r, (insD x r).length = r.length + 1
  | [] => rfl
  | a :: r => by
    unfold insD
    split
    · simp [insD_len x r]
    · simp
theorem sortR_len (l : List Deed) : (sortR l).length = l.length := by
  have : ∀ (l : List Deed) (r : List Deed), (l.foldl (fun r x => insD x r) r).length = r.length + l.length := by
    intro l
    induction l with
    | nil => intro r; simp
    | cons a l ih => intro r; rw [List.foldl_cons, ih, insD_len]; simp; omega
  have h := this l []
  simpa [sortR] using h
theorem sortD_len (l : List Deed) : (sortD l).length = l.length := by unfold sortD; rw [List.length_reverse, sortR_len]
theorem sortSeg_len (l : List Deed) {a b : Int} (h0 : 0 ≤ a) (h1 : a ≤ b) (h2 : b ≤ l.length) : (sortSeg l a b).length = l.length := by
  unfold sortSeg
  simp only [List.length_append, List.length_take, List.length_drop, sortD_len]
  omega
theorem sortSeg_all (l : List Deed) : sortSeg l 0 l.length = sortD l := by
  unfold sortSeg
  simp
theorem sortSeg_none (l : List Deed) {a : Int} (h : 0 ≤ a) : sortSeg l a a = l := by
  unfold sortSeg
  rw [Int.sub_self]
  show l.take a.toNat ++ (sortD [] ++ _) = l
  show l.take a.toNat ++ ([] ++ l.drop a.toNat) = l
  rw [List.nil_append, List.take_append_drop]
/-- the row, with x among what it passed -/
def insRow (P : List Deed) (r : List Deed) (x : Deed) (M : List Deed) : List Deed := (P ++ r.reverse) ++ x :: M
theorem insRow_swap (P r M : List Deed) (x c : Deed) (z : Deed) :
    (insRow P (c :: r) x M).getD (P.length + (r.length + 1)) z = x ∧ (insRow P (c :: r) x M).getD (P.length + r.length) z = c ∧
    ((insRow P (c :: r) x M).set (P.length + (r.length + 1)) c).set (P.length + r.length) x = insRow P r x (c :: M) := by
  have e : insRow P (c :: r) x M = (P ++ r.reverse) ++ c :: x :: M := by simp [insRow]
  have hl : P.length + r.length = (P ++ r.reverse).length := by simp
  have hl2 : P.length + (r.length + 1) = (P ++ r.reverse).length + 1 := by simp; omega
  have e2 : insRow P r x (c :: M) = (P ++ r.reverse) ++ x :: c :: M := rfl
  rw [e, e2, hl, hl2]
  generalize P ++ r.reverse = L
  refine ⟨?_, ?_, ?_⟩
  · rw [getD_app_ge _ _ _ _ (by omega), show L.length + 1 - L.length = 1 by omega]; rfl
  · rw [getD_app_ge _ _ _ _ (by omega), Nat.sub_self]; rfl
  · rw [List.set_append_right _ _ (by omega), List.set_append_right _ _ (by omega), show L.length + 1 - L.length = 1 by omega, Nat.sub_self]
    rfl
theorem set_same {α : Type} {l : List α} {i : Nat} {z : α} (h : i < l.length) : l.set i (l.getD i z) = l := by
  rw [List.getD_eq_getElem?_getD, List.getElem?_eq_getElem h]
  exact List.set_getElem_self h
theorem deedOk_iff {d : Deed} : deedOk d = true ↔ d.2.2.1.length < 1000000 ∧ d.2.2.2.length < 1000000 ∧ ∀ s ∈ d.2.2.1, stepOk s = true := by
  unfold deedOk lenOk
  simp only [Bool.and_eq_true, decide_eq_true_eq, List.all_eq_true]
theorem stepOk_iff {s : StepT} : stepOk s = true ↔ s.1.2.2.2.2.2.2.1.length < 1000000 ∧ s.1.2.2.2.2.2.2.2.1.length < 1000000 ∧ s.2.2.2.1.length < 1000000 ∧ s.2.2.2.2.1.length < 1000000 ∧ s.2.2.2.2.2.2.2.2.2.2.2.2.2.2.length < 1000000 := by
  unfold stepOk lenOk
  simp only [Bool.and_eq_true, decide_eq_true_eq]
theorem mem_getD {α : Type} {l : List α} {i : Nat} {z : α} (h : i < l.length) : l.getD i z ∈ l := by
  rw [List.getD_eq_getElem?_getD, List.getElem?_eq_getElem h]; exact List.getElem_mem h
end Go.BB
