/- A symbolic machine for the model's code, and what it shows of this seat's functions. No conditions. -/
import Derived.Test.YteaomngbkklfoaaRVbuff2
import Derived.Test.YteaomngbkklfoaaRLawKit
import Derived.Test.YteaomngbkklfoaaRLStore2
import Derived.Test.YteaomngbkklfoaaRSView
import Derived.Test.YteaomngbkklfoaaRLSpan
import Derived.Test.YteaomngbkklfoaaRLRef
set_option linter.unusedSimpArgs false
set_option linter.unusedVariables false
/-! what is left of a span: plain lemmas -/
namespace Go.BB
open Go
theorem lenOk_of' {α : Type} {l : List α} (h : l.length < 1000000) : lenOk l = true := decide_eq_true h
theorem key_beq3 (a b : Cel) : (a.1.1 == b.1.1 && a.1.2 == b.1.2 && a.2 == b.2) = decide (a = b) := by
  rw [← Bool.coe_iff_coe]
  simp only [Bool.and_eq_true, beq_iff_eq, decide_eq_true_eq]
  exact ⟨fun h => Prod.ext (Prod.ext h.1.1 h.1.2) h.2, fun h => by subst h; exact ⟨⟨rfl, rfl⟩, rfl⟩⟩
/-! what is laid -/
theorem putK_len (l : List Cel) (c : Cel) : (putK l c).length ≤ l.length + 1 := by rw [putK_eq]; exact putR_len l c
theorem bufS_putK {l : List Cel} (c : Cel) (h : bufS l = true) : bufS (putK l c) = true := by rw [putK_eq]; exact bufS_put c h
theorem getK_put {l : List Cel} (c : Cel) (h : bufS l = true) : getK (putK l c) c.1 = (c.2, true) := by rw [getK_eq, putK_eq, getR_put c c.1 h, if_pos rfl]
theorem restGo_len (t to : Int) : ∀ (l : List Cel) (f : Int), (restGo t to l f).length ≤ l.length + 1
  | [], f => by rw [restGo_nil]; have := tailS_len t f to; simp only [List.length_nil]; omega
  | c :: l, f => by
    by_cases h : c.1.1 = t ∧ c.1.2 < to
    · rw [restGo_in h, List.length_append]
      have h1 := tailS_len t f c.1.2
      have h2 := restGo_len t to l (c.1.2 + 1)
      simp only [List.length_cons]; omega
    · rw [restGo_out h]
      have := tailS_len t f to
      simp only [List.length_cons]; omega
theorem restS_len (l : List Cel) (s : Spn) : (restS l s).length ≤ l.length + 1 := by
  unfold restS
  have := restGo_len s.1 s.2.2 (l.drop (cntK l (s.1, s.2.1))) s.2.1
  rw [List.length_drop] at this
  omega
/-! what is left of a span -/
theorem hasS_cons (x : Spn) (l : List Spn) (k : Key) : hasS (x :: l) k = true ↔ (x.1 = k.1 ∧ x.2.1 ≤ k.2 ∧ k.2 < x.2.2) ∨ hasS l k = true := by
  simp only [hasS, List.any_cons, Bool.or_eq_true, Bool.and_eq_true, decide_eq_true_eq]
theorem hasS_app (a b : List Spn) (k : Key) : hasS (a ++ b) k = true ↔ hasS a k = true ∨ hasS b k = true := by
  simp only [hasS, List.any_append, Bool.or_eq_true]
theorem hasS_one (x : Spn) (k : Key) : hasS [x] k = true ↔ x.1 = k.1 ∧ x.2.1 ≤ k.2 ∧ k.2 < x.2.2 := by
  rw [hasS_cons]; simp [hasS]
theorem hasS_tail (t f to : Int) (k : Key) : hasS (tailS t f to) k = true ↔ t = k.1 ∧ f ≤ k.2 ∧ k.2 < to := by
  unfold tailS
  split
  · rw [hasS_one]
  · simp only [hasS, List.any_nil]
    constructor
    · intro h; cases h
    · omega
theorem sizeS_app (a b : List Spn) : sizeS (a ++ b) = sizeS a + sizeS b := by simp [sizeS]
theorem sizeS_tail (t f to : Int) (h : f ≤ to) : sizeS (tailS t f to) = to - f := by
  unfold tailS
  split
  · simp [sizeS]
  · simp [sizeS]; omega
theorem mem_tail {t f to : Int} {x : Spn} (h : x ∈ tailS t f to) : x.1 = t ∧ x.2.1 = f ∧ x.2.2 = to ∧ f < to := by
  unfold tailS at h
  split at h
  · rename_i hf; rw [List.mem_singleton.1 h]; exact ⟨rfl, rfl, rfl, hf⟩
  · simp at h
theorem rest_all {t to : Int} (ht : 0 ≤ t ∧ t < 4) (hto : to ≤ 65536) : ∀ (m : List Cel) (f : Int), bufS m = true → (∀ c ∈ m, keyLt c.1 (t, f) = false) → 0 ≤ f → f ≤ to →
    (∀ x ∈ restGo t to m f, x.1 = t ∧ f ≤ x.2.1 ∧ x.2.1 < x.2.2 ∧ x.2.2 ≤ to) ∧ canonS (restGo t to m f) = true ∧ (∀ k, hasS (restGo t to m f) k = true ↔ t = k.1 ∧ f ≤ k.2 ∧ k.2 < to ∧ ∀ c ∈ m, c.1 ≠ k) ∧
    sizeS (restGo t to m f) = to - f - ((m.countP fun c => decide (t = c.1.1) && decide (c.1.2 < to) : Nat) : Int) := by
  have htail : ∀ f, 0 ≤ f → f ≤ to → (∀ x ∈ tailS t f to, x.1 = t ∧ f ≤ x.2.1 ∧ x.2.1 < x.2.2 ∧ x.2.2 ≤ to) ∧ canonS (tailS t f to) = true := by
    intro f h0 h1
    refine ⟨fun x hx => ?_, ?_⟩
    · have := mem_tail hx; omega
    · unfold tailS
      split
      · exact spanR_iff.2 ⟨ht.1, ht.2, h0, hto, by assumption⟩
      · rfl
  intro m
  induction m with
  | nil =>
    intro f _ _ h0 h1
    rw [restGo_nil]
    refine ⟨(htail f h0 h1).1, (htail f h0 h1).2, fun k => ?_, ?_⟩
    · rw [hasS_tail]; simp
    · rw [sizeS_tail _ _ _ h1]; simp
  | cons c m ih =>
    intro f hb hge h0 h1
    have hb' := bufS_cons.1 hb
    have hc := hge c List.mem_cons_self
    rw [keyLt_false] at hc
    simp only at hc
    by_cases hin : c.1.1 = t ∧ c.1.2 < to
    · rw [restGo_in hin]
      obtain ⟨i1, i2, i3, i4⟩ := ih (c.1.2 + 1) hb'.2 (fun x hx => by
        have := hb'.1 x hx
        rw [keyLt_iff] at this
        rw [keyLt_false]; simp only; omega) (by omega) (by omega)
      refine ⟨fun x hx => ?_, ?_, fun k => ?_, ?_⟩
      · rcases List.mem_append.1 hx with hx | hx
        · have := mem_tail hx; omega
        · have := i1 x hx; omega
      · unfold tailS
        split
        · rename_i hf
          show canonS ((t, f, c.1.2) :: restGo t to m (c.1.2 + 1)) = true
          rw [canonS_cons]
          have e : spanR (t, f, c.1.2) = true := spanR_iff.2 ⟨ht.1, ht.2, h0, by simp only; omega, hf⟩
          rw [e, Bool.true_and]
          cases hr : restGo t to m (c.1.2 + 1) with
          | nil => rfl
          | cons y l =>
            rw [hr] at i1 i2
            have := i1 y List.mem_cons_self
            simp only [canonA, Bool.and_eq_true]
            refine ⟨?_, i2⟩
            simp only [aheadS, Bool.or_eq_true, Bool.and_eq_true, decide_eq_true_eq]
            omega
        · exact i2
      · rw [hasS_app, hasS_tail, i3]
        constructor
        · rintro (h | h)
          · refine ⟨h.1, h.2.1, by omega, fun x hx e => ?_⟩
            subst e
            rcases List.mem_cons.1 hx with rfl | hx
            · omega
            · have := hb'.1 x hx
              rw [keyLt_iff] at this
              omega
          · refine ⟨h.1, by omega, h.2.2.1, fun x hx e => ?_⟩
            rcases List.mem_cons.1 hx with rfl | hx
            · subst e; omega
            · exact h.2.2.2 x hx e
        · rintro ⟨k1, k2, k3, k4⟩
          have hne : c.1.2 ≠ k.2 := fun e => k4 c List.mem_cons_self (key_eq (by omega) e)
          by_cases hlt : k.2 < c.1.2
          · exact .inl ⟨k1, k2, hlt⟩
          · exact .inr ⟨k1, by omega, k3, fun x hx => k4 x (List.mem_cons_of_mem _ hx)⟩
      · rw [sizeS_app, sizeS_tail _ _ _ (by omega), i4, List.countP_cons_of_pos (by simp [hin.1, hin.2])]
        push_cast; omega
    · rw [restGo_out hin]
      have hno : ∀ x ∈ m, ¬ (t = x.1.1 ∧ x.1.2 < to) := by
        intro x hx
        have := hb'.1 x hx
        rw [keyLt_iff] at this
        omega
      refine ⟨(htail f h0 h1).1, (htail f h0 h1).2, fun k => ?_, ?_⟩
      · rw [hasS_tail]
        refine ⟨fun h => ⟨h.1, h.2.1, h.2.2, fun x hx e => ?_⟩, fun h => ⟨h.1, h.2.1, h.2.2.1⟩⟩
        subst e
        rcases List.mem_cons.1 hx with rfl | hx
        · omega
        · exact hno x hx ⟨h.1, h.2.2⟩
      · rw [sizeS_tail _ _ _ h1]
        have : (c :: m).countP (fun c => decide (t = c.1.1) && decide (c.1.2 < to)) = 0 := by
          rw [List.countP_eq_zero]
          intro x hx
          simp only [Bool.and_eq_true, decide_eq_true_eq]
          rcases List.mem_cons.1 hx with rfl | hx
          · omega
          · exact hno x hx
        rw [this]; simp
theorem getR_mem : ∀ {l : List Cel} {c : Cel}, bufS l = true → c ∈ l → getR l c.1 = some c.2
  | a :: l, c, hb, h => by
    have hb' := bufS_cons.1 hb
    simp only [getR]
    rcases List.mem_cons.1 h with rfl | h
    · rw [keyLt_irrefl]; simp
    · rw [hb'.1 c h, if_pos rfl]
      exact getR_mem hb'.2 h
theorem getR_none : ∀ {l : List Cel} {k : Key}, (∀ c ∈ l, c.1 ≠ k) → getR l k = none
  | [], _, _ => rfl
  | a :: l, k, h => by
    have ih := getR_none (l := l) (k := k) fun c hc => h c (List.mem_cons_of_mem _ hc)
    simp only [getR]
    rw [ih, if_neg (h a List.mem_cons_self)]
    split <;> rfl
theorem own_iff {l : List Cel} (hb : bufS l = true) (k : Key) : (getK l k).2 = true ↔ ∃ c ∈ l, c.1 = k := by
  rw [getK_eq]
  constructor
  · intro h
    apply Classical.byContradiction
    intro hn
    rw [getR_none fun c hc e => hn ⟨c, hc, e⟩] at h
    cases h
  · rintro ⟨c, hc, rfl⟩
    rw [getR_mem hb hc]
theorem restS_all (l : List Cel) (hb : bufS l = true) (s : Spn) (hs : spanR s = true) :
    (∀ x ∈ restS l s, x.1 = s.1 ∧ s.2.1 ≤ x.2.1 ∧ x.2.1 < x.2.2 ∧ x.2.2 ≤ s.2.2) ∧ canonS (restS l s) = true ∧ (∀ k, hasS (restS l s) k = (hasS [s] k && !(getK l k).2)) ∧
    sizeS (restS l s) = s.2.2 - s.2.1 - ((l.countP fun c => hasS [s] c.1 : Nat) : Int) := by
  have hs' := spanR_iff.1 hs
  have hc := cntK_le l (s.1, s.2.1)
  have hge : ∀ c ∈ l.drop (cntK l (s.1, s.2.1)), keyLt c.1 (s.1, s.2.1) = false := by
    intro c hc
    obtain ⟨j, hj⟩ := List.mem_iff_getElem?.1 hc
    rw [List.getElem?_drop] at hj
    have hjl := (List.getElem?_eq_some_iff.1 hj).1
    have := cntK_ge hb (s.1, s.2.1) _ ((0, 0), 0) hjl (by omega)
    rwa [List.getD_eq_getElem?_getD, hj] at this
  have hlt : ∀ c ∈ l.take (cntK l (s.1, s.2.1)), keyLt c.1 (s.1, s.2.1) = true := by
    intro c hc
    obtain ⟨j, hj⟩ := List.mem_iff_getElem?.1 hc
    rw [List.getElem?_take] at hj
    split at hj
    · rename_i hjc
      have := cntK_lt l (s.1, s.2.1) j ((0, 0), 0) hjc
      rwa [List.getD_eq_getElem?_getD, hj] at this
    · cases hj
  obtain ⟨i1, i2, i3, i4⟩ := rest_all (t := s.1) (to := s.2.2) ⟨hs'.1, hs'.2.1⟩ hs'.2.2.2.1 (l.drop (cntK l (s.1, s.2.1))) s.2.1 (bufS_drop _ hb) hge hs'.2.2.1 (by omega)
  refine ⟨i1, i2, fun k => ?_, ?_⟩
  · rw [← Bool.coe_iff_coe, Bool.and_eq_true, hasS_one, Bool.not_eq_true', ← Bool.not_eq_true, own_iff hb]
    refine (i3 k).trans ⟨fun h => ⟨⟨h.1, h.2.1, h.2.2.1⟩, ?_⟩, fun h => ⟨h.1.1, h.1.2.1, h.1.2.2, fun c hc e => h.2 ⟨c, List.mem_of_mem_drop hc, e⟩⟩⟩
    rintro ⟨c, hc, rfl⟩
    rw [← List.take_append_drop (cntK l (s.1, s.2.1)) l] at hc
    rcases List.mem_append.1 hc with hc | hc
    · have := hlt c hc
      rw [keyLt_iff] at this
      simp only at this
      omega
    · exact h.2.2.2 c hc rfl
  · have hcnt : (l.countP fun c => hasS [s] c.1) = (l.drop (cntK l (s.1, s.2.1))).countP fun c => decide (s.1 = c.1.1) && decide (c.1.2 < s.2.2) := by
      rw [show (l.countP fun c => hasS [s] c.1) = (l.take (cntK l (s.1, s.2.1)) ++ l.drop (cntK l (s.1, s.2.1))).countP fun c => hasS [s] c.1 by rw [List.take_append_drop], List.countP_append]
      have e1 : (l.take (cntK l (s.1, s.2.1))).countP (fun c => hasS [s] c.1) = 0 := by
        rw [List.countP_eq_zero]
        intro c hc
        rw [hasS_one]
        have := hlt c hc
        rw [keyLt_iff] at this
        simp only at this
        omega
      rw [e1, Nat.zero_add]
      refine List.countP_congr fun c hc => ?_
      have := hge c hc
      rw [keyLt_false] at this
      simp only at this
      rw [hasS_one]
      simp only [Bool.and_eq_true, decide_eq_true_eq]
      omega
    rw [hcnt]
    exact i4
end Go.BB
set_option linter.unusedSimpArgs false
set_option linter.unusedVariables false
/-! plain lemmas on views, two stores, and what was written since -/
namespace Go.BB
open Go
theorem mem_laidR2 : ∀ {l : List Row} {k : Key} {v : Ver} {r : Row}, srtR l = true → r ∈ laidR l k v → r ∈ l ∨ r = (k, rowOf l k ++ [v])
  | [], k, v, r, _, h => by rw [laidR_nil, List.mem_singleton] at h; exact .inr h
  | a :: l, k, v, r, hs, h => by
    obtain ⟨h1, h2⟩ := srtR_cons.1 hs
    rw [laidR_cons] at h
    rw [rowOf_cons]
    by_cases hk : keyLt a.1 k = true
    · rw [if_pos hk] at h ⊢
      rcases List.mem_cons.1 h with rfl | h
      · exact .inl List.mem_cons_self
      · rcases mem_laidR2 h2 h with h | h
        · exact .inl (List.mem_cons_of_mem _ h)
        · exact .inr h
    · rw [if_neg hk] at h ⊢
      by_cases he : a.1 = k
      · rw [if_pos he] at h ⊢
        rcases List.mem_cons.1 h with rfl | h
        · exact .inr (by rw [he])
        · exact .inl (List.mem_cons_of_mem _ h)
      · rw [if_neg he] at h ⊢
        rcases List.mem_cons.1 h with rfl | h
        · exact .inr rfl
        · exact .inl h
theorem rowOf_nonmem (l : List Row) (k : Key) : rowOf l k = [] ∨ (k, rowOf l k) ∈ l := by
  cases hh : hasR l k with
  | true => exact .inr (rowOf_mem hh)
  | false => exact .inl (by unfold rowOf; rw [hh]; rfl)
theorem rows_laidAllR (q : Int) (hq : 0 < q) : ∀ (l : List Cel) (m : List Row), srtR m = true → nodupK l → (∀ p ∈ m, p.2 ≠ [] ∧ rightFrom 0 p.2 = true ∧ newS p.2 ≤ q ∧ (newS p.2 = q → ∀ c ∈ l, c.1 ≠ p.1)) → ∀ p ∈ laidAllR q m l, p.2 ≠ [] ∧ rightFrom 0 p.2 = true ∧ newS p.2 ≤ q
  | [], m, _, _, h, p, hp => ⟨(h p hp).1, (h p hp).2.1, (h p hp).2.2.1⟩
  | c :: l, m, hs, hn, h, p, hp => by
    have hn' : c.1 ∉ l.map (·.1) ∧ nodupK l := List.nodup_cons.1 hn
    rw [laidAllR_cons] at hp
    refine rows_laidAllR q hq l _ (srtR_laid _ _ hs) hn'.2 (fun r hr => ?_) p hp
    rcases mem_laidR2 hs hr with hr | hr
    · exact ⟨(h r hr).1, (h r hr).2.1, (h r hr).2.2.1, fun e d hd => (h r hr).2.2.2 e d (List.mem_cons_of_mem _ hd)⟩
    · subst hr
      refine ⟨by simp, ?_, Int.le_of_eq (newS_snoc _ _), fun _ d hd e => hn'.1 (List.mem_map.2 ⟨d, hd, e⟩)⟩
      rcases rowOf_nonmem m c.1 with e | e
      · rw [e]; exact rf_cons.2 ⟨hq, rfl⟩
      · have hc := h _ e
        refine rf_add hc.2.1 ?_
        rcases Int.lt_or_eq_of_le hc.2.2.1 with h1 | h1
        · exact h1
        · exact absurd rfl (hc.2.2.2 h1 c List.mem_cons_self)
theorem rinstS_ok {x : Ref} (h : RefOk x) {l : List Cel} (hl : chsLen x.2.2.1 + l.length ≤ 500000) (hk : x.2.2.1.length + l.length ≤ 262144) : RefOk (rinstS x l).2 := by
  unfold rinstS
  by_cases ho : onceS l = false
  · rw [if_pos ho]; exact h
  rw [if_neg ho]
  by_cases h1 : x.1 = 18446744073709551615
  · rw [if_pos h1]; exact h
  rw [if_neg h1]
  by_cases h2 : (chsLen x.2.2.1 : Int) + l.length > x.2.1
  · rw [if_pos h2]; exact h
  rw [if_neg h2]
  have hu := h.u
  have hn := ((onceS_iff l).1 (by simpa using ho)).2.1
  refine ⟨⟨by show 0 ≤ x.1 + 1; omega, by show x.1 + 1 ≤ _; omega⟩, h.most, ?_, ?_, srtR_laidAll _ _ _ h.srt, ?_, ?_⟩
  · show (chsLen (laidAllR (x.1 + 1) x.2.2.1 l) : Int) ≤ x.2.1
    rw [chsLen_laidAllR]; push_cast; omega
  · show chsLen (laidAllR (x.1 + 1) x.2.2.1 l) ≤ 500000
    rw [chsLen_laidAllR]; omega
  · have := len_laidAllR (x.1 + 1) l x.2.2.1
    show (laidAllR (x.1 + 1) x.2.2.1 l).length ≤ 262144
    omega
  · refine rows_laidAllR (x.1 + 1) (by omega) l _ h.srt hn fun p hp => ?_
    have hr := h.rows p hp
    exact ⟨hr.1, hr.2.1, by omega, fun e => absurd e (by omega)⟩
theorem rstNewS_ok {f : Int} (m : Int) (h0 : 0 ≤ f) (h1 : f ≤ 18446744073709551615) : RefOk (rstNewS f m) :=
  ⟨⟨h0, h1⟩, by show min (max m 0) 1048576 ≤ 1048576; omega, by show (0 : Int) ≤ min (max m 0) 1048576; omega, by show (0 : Nat) ≤ 500000; decide, rfl, by show (0 : Nat) ≤ 262144; decide, fun p hp => nomatch hp⟩
/-- a store is what the document's is -/
structure Like (s : Sto) (x : Ref) : Prop where
  last : s.1 = x.1
  most : s.2.2.1 = x.2.1
  len : chsLen s.2.2.2.1 = chsLen x.2.2.1
  row : ∀ k, chnOf s.2.2.2.1 k = rowOf x.2.2.1 k
theorem like_new (f m : Int) : Like (stNewS f m) (rstNewS f m) := ⟨rfl, rfl, rfl, fun _ => rfl⟩
theorem like_inst {s : Sto} {x : Ref} (hs : StoOk s) (hx : RefOk x) (h : Like s x) (l : List Cel) : (instS s l).1 = (rinstS x l).1 ∧ Like (instS s l).2 (rinstS x l).2 := by
  have e1 := h.last
  have e2 := h.most
  have e3 := h.len
  have e4 := hs.len
  unfold instS rinstS
  by_cases ho : onceS l = false
  · rw [if_pos ho, if_pos ho]; exact ⟨rfl, h⟩
  rw [if_neg ho, if_neg ho]
  by_cases h1 : s.1 = 18446744073709551615
  · rw [if_pos h1, if_pos (e1 ▸ h1)]; exact ⟨rfl, h⟩
  rw [if_neg h1, if_neg (fun e => h1 (e1.trans e))]
  by_cases h2 : (l.length : Int) > s.2.2.1 - s.2.1
  · rw [if_pos h2, if_pos (by omega)]; exact ⟨rfl, h⟩
  rw [if_neg h2, if_neg (by omega)]
  refine ⟨by simp only [e1], by simp only [e1], e2, ?_, fun k => ?_⟩
  · show chsLen (laidAll (s.1 + 1) s.2.2.2.1 l) = chsLen (laidAllR (x.1 + 1) x.2.2.1 l)
    rw [chsLen_laidAll, chsLen_laidAllR, e3]
  · have hn := ((onceS_iff l).1 (by simpa using ho)).2.1
    show chnOf (laidAll (s.1 + 1) s.2.2.2.1 l) k = rowOf (laidAllR (x.1 + 1) x.2.2.1 l) k
    rw [chnOf_laidAll _ _ _ _ hn, rowOf_laidAllR _ _ _ _ hx.srt hn, h.row, e1]
    cases l.find? (fun c => decide (c.1 = k)) <;> rfl
/-! what a view sees -/
theorem lookN_snoc (f : Key → Int) (w : List Cel) (t : Int) : ∀ (n : Nat) (a : Int), lookN f w t a (n + 1) = lookN f w t a n ++ [if (getK w (t, a + n)).2 then (getK w (t, a + n)).1 else f (t, a + n)]
  | 0, a => by simp [lookN]
  | n + 1, a => by
    rw [lookN, lookN_snoc f w t n (a + 1), lookN]
    rw [show a + 1 + (n : Int) = a + ((n + 1 : Nat) : Int) by push_cast; omega]
    rfl
theorem lookN_len (f : Key → Int) (w : List Cel) (t : Int) : ∀ (n : Nat) (a : Int), (lookN f w t a n).length = n
  | 0, a => rfl
  | n + 1, a => by simp [lookN, lookN_len f w t n]
theorem lookN_get (f : Key → Int) (w : List Cel) (t : Int) (z : Int) : ∀ (n : Nat) (a : Int) (i : Nat), i < n → (lookN f w t a n).getD i z = if (getK w (t, a + i)).2 then (getK w (t, a + i)).1 else f (t, a + i)
  | 0, _, _, h => by omega
  | n + 1, a, 0, _ => by simp [lookN]
  | n + 1, a, i + 1, h => by
    rw [lookN, List.getD_cons_succ, lookN_get f w t z n (a + 1) i (by omega)]
    rw [show a + 1 + (i : Int) = a + ((i + 1 : Nat) : Int) by push_cast; omega]
theorem look_like {s : Sto} {x : Ref} (h : Like s x) (v : Vw) (sp : Spn) : lookP s.2.2.2.1 v sp = lookD x.2.2.1 v sp := by
  unfold lookP lookD
  congr 1
  funext k
  rw [h.row]
/-! the first key that was written since -/
def First (P : Key → Prop) (r : Key × Bool) : Prop := (r.2 = true ∧ P r.1 ∧ ∀ k, P k → keyLt k r.1 = false) ∨ (r = ((0, 0), false) ∧ ∀ k, ¬ P k)
theorem First.unique {P : Key → Prop} {r r' : Key × Bool} (h : First P r) (h' : First P r') : r = r' := by
  rcases h with ⟨h1, h2, h3⟩ | ⟨h1, h2⟩
  · rcases h' with ⟨g1, g2, g3⟩ | ⟨g1, g2⟩
    · exact Prod.ext (keyLt_total (g3 _ h2) (h3 _ g2)) (h1.trans g1.symm)
    · exact absurd h2 (g2 _)
  · rcases h' with ⟨g1, g2, g3⟩ | ⟨g1, g2⟩
    · exact absurd g2 (h2 _)
    · rw [h1, g1]
theorem First.congr {P Q : Key → Prop} {r : Key × Bool} (h : ∀ k, P k ↔ Q k) (hr : First P r) : First Q r := by
  rcases hr with ⟨h1, h2, h3⟩ | ⟨h1, h2⟩
  · exact .inl ⟨h1, (h _).1 h2, fun k hk => h3 k ((h k).2 hk)⟩
  · exact .inr ⟨h1, fun k hk => h2 k ((h k).2 hk)⟩
theorem clashN_first (f : Key → Int) (since t : Int) : ∀ (n : Nat) (a : Int), First (fun k => k.1 = t ∧ a ≤ k.2 ∧ k.2 < a + n ∧ since < f k) (clashN f since t a n)
  | 0, a => .inr ⟨rfl, fun k hk => by omega⟩
  | n + 1, a => by
    rw [clashN]
    by_cases h : f (t, a) ≤ since
    · rw [if_pos h]
      refine First.congr (fun k => ?_) (clashN_first f since t n (a + 1))
      constructor
      · rintro ⟨h1, h2, h3, h4⟩
        exact ⟨h1, by omega, by push_cast; omega, h4⟩
      · rintro ⟨h1, h2, h3, h4⟩
        refine ⟨h1, ?_, by push_cast at h3; omega, h4⟩
        apply Classical.byContradiction
        intro hne
        have : k = (t, a) := Prod.ext h1 (by simp only; omega)
        rw [this] at h4; omega
    · rw [if_neg h]
      refine .inl ⟨rfl, ⟨rfl, Int.le_refl _, by show a < a + ((n + 1 : Nat) : Int); push_cast; omega, by show since < f (t, a); omega⟩, fun k hk => ?_⟩
      rw [keyLt_false]
      show ¬ (k.1 < t ∨ k.1 = t ∧ k.2 < a)
      omega
theorem clashL_first (f : Key → Int) (since : Int) : ∀ {l : List Spn}, canonS l = true → First (fun k => hasS l k = true ∧ since < f k) (clashL f since l)
  | [], _ => .inr ⟨rfl, fun k hk => by cases hk.1⟩
  | s :: l, hc => by
    have h := canonS_iff.1 hc
    have hs := spanR_iff.1 h.1
    have h1 := clashN_first f since s.1 (s.2.2 - s.2.1).toNat s.2.1
    have h2 := clashL_first f since h.2.2
    rw [clashL]
    generalize clashN f since s.1 s.2.1 (s.2.2 - s.2.1).toNat = r at h1
    rcases h1 with ⟨g1, g2, g3⟩ | ⟨g1, g2⟩
    · rw [if_pos g1]
      refine .inl ⟨g1, ⟨(hasS_cons1 _ _ _).2 (.inl ⟨g2.1.symm, g2.2.1, by omega⟩), g2.2.2.2⟩, fun k hk => ?_⟩
      rcases (hasS_cons1 _ _ _).1 hk.1 with h3 | h3
      · exact g3 k ⟨h3.1.symm, h3.2.1, by omega, hk.2⟩
      · simp only [hasS, List.any_eq_true, Bool.and_eq_true, decide_eq_true_eq] at h3
        obtain ⟨z, hz, e1, e2, e3⟩ := h3
        have := aheadS_iff.1 (h.2.1 z hz)
        rw [keyLt_false]
        omega
    · rw [g1, if_neg (by decide)]
      refine First.congr (fun k => ?_) h2
      constructor
      · rintro ⟨a1, a2⟩
        exact ⟨(hasS_cons1 _ _ _).2 (.inr a1), a2⟩
      · rintro ⟨a1, a2⟩
        rcases (hasS_cons1 _ _ _).1 a1 with h3 | h3
        · exact absurd ⟨h3.1.symm, h3.2.1, by omega, a2⟩ (g2 k)
        · exact ⟨h3, a2⟩
theorem clashD_first (since : Int) (h0 : 0 ≤ since) (l : List Spn) : ∀ {m : List Row}, srtR m = true → First (fun k => hasS l k = true ∧ since < newS (rowOf m k)) (clashD m l since)
  | [], _ => .inr ⟨rfl, fun k hk => by
      have h2 : since < newS (rowOf [] k) := hk.2
      have : newS (rowOf [] k) = 0 := rfl
      rw [this] at h2; omega⟩
  | a :: m, hs => by
    obtain ⟨h1, h2⟩ := srtR_cons.1 hs
    have ih := clashD_first since h0 l h2
    have hrow : ∀ k, since < newS (rowOf (a :: m) k) ↔ (k = a.1 ∧ since < newS a.2) ∨ since < newS (rowOf m k) ∧ keyLt a.1 k = true := by
      intro k
      rw [rowOf_cons]
      rcases key_three a.1 k with ⟨g1, g2, g3⟩ | ⟨g1, g2⟩ | ⟨g1, g2, g3⟩
      · rw [if_pos g1]
        exact ⟨fun h => .inr ⟨h, g1⟩, fun h => h.elim (fun h => absurd h.1.symm g2) (fun h => h.1)⟩
      · rw [if_neg (by rw [g2]; decide), if_pos g1]
        exact ⟨fun h => .inl ⟨g1.symm, h⟩, fun h => h.elim (fun h => h.2) (fun h => by rw [g2] at h; exact absurd h.2 (by decide))⟩
      · rw [if_neg (by rw [g1]; decide), if_neg g2]
        have : newS ([] : List Ver) = 0 := rfl
        rw [this]
        exact ⟨fun h => absurd h (by omega), fun h => h.elim (fun h => absurd h.1.symm g2) (fun h => by rw [g1] at h; exact absurd h.2 (by decide))⟩
    have hbehind : ∀ k, since < newS (rowOf m k) → keyLt a.1 k = true := by
      intro k hk
      rcases rowOf_nonmem m k with e | e
      · rw [e] at hk
        have : newS ([] : List Ver) = 0 := rfl
        omega
      · exact h1 _ e
    rw [clashD]
    cases hc : (decide (newS a.2 > since) && hasS l a.1) with
    | true =>
      rw [if_pos rfl]
      simp only [Bool.and_eq_true, decide_eq_true_eq] at hc
      refine .inl ⟨rfl, ⟨hc.2, (hrow _).2 (.inl ⟨rfl, hc.1⟩)⟩, fun k hk => ?_⟩
      rcases (hrow k).1 hk.2 with h3 | h3
      · rw [h3.1]; exact keyLt_irrefl _
      · exact keyLt_asymm h3.2
    | false =>
      rw [if_neg (by decide)]
      refine First.congr (fun k => ?_) ih
      constructor
      · rintro ⟨a1, a2⟩
        exact ⟨a1, (hrow k).2 (.inr ⟨a2, hbehind k a2⟩)⟩
      · rintro ⟨a1, a2⟩
        rcases (hrow k).1 a2 with h3 | h3
        · exfalso
          have : (decide (newS a.2 > since) && hasS l a.1) = true := by
            rw [Bool.and_eq_true, decide_eq_true_eq]
            exact ⟨h3.2, h3.1 ▸ a1⟩
          rw [hc] at this; cases this
        · exact ⟨a1, h3.1⟩
theorem clash_like {s : Sto} {x : Ref} (hx : RefOk x) (h : Like s x) {l : List Spn} (hl : canonS l = true) (since : Int) (h0 : 0 ≤ since) : clashP s.2.2.2.1 l since = clashD x.2.2.1 l since := by
  have h1 := clashL_first (fun k => newS (chnOf s.2.2.2.1 k)) since hl
  have h2 := clashD_first since h0 l hx.srt
  refine First.unique h1 (First.congr (fun k => ?_) h2)
  rw [h.row]
end Go.BB
