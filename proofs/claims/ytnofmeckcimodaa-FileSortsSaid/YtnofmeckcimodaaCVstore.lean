/- A symbolic machine for the model's code, and what it shows of this seat's functions. No conditions. -/
import Derived.Test.YtnofmeckcimodaaCSFile
import Derived.Test.YtnofmeckcimodaaCLBuff
import Derived.Test.YtnofmeckcimodaaCGstore
import Derived.Test.YtnofmeckcimodaaCVcom
set_option linter.unusedVariables false
set_option linter.unusedSimpArgs false
/-! plain lemmas on stores -/
namespace Go.BB
open Go
theorem eqK_iff {a b : Key} : eqK a b = true ↔ a = b := by
  show (eqI a.1 b.1 && eqI a.2 b.2) = true ↔ _
  simp only [Bool.and_eq_true, eqI, beq_iff_eq]
  exact ⟨fun h => Prod.ext h.1 h.2, fun h => by subst h; exact ⟨rfl, rfl⟩⟩
theorem eqK_false {a b : Key} : eqK a b = false ↔ a ≠ b := by
  rw [← Bool.not_eq_true, eqK_iff]
theorem midx_cons {V : Type} (p : Key × V) (m : List (Key × V)) (k : Key) : midx eqK (p :: m) k = if p.1 = k then some 0 else (midx eqK m k).map (· + 1) := by
  show (match eqK p.1 k with | true => _ | false => _) = _
  by_cases h : p.1 = k
  · rw [eqK_iff.2 h, if_pos h]
  · rw [eqK_false.2 h, if_neg h]
theorem midx_lt {V : Type} : ∀ {m : List (Key × V)} {k : Key} {j : Nat}, midx eqK m k = some j → ∃ p, m[j]? = some p ∧ p.1 = k
  | [], k, j, h => by cases h
  | p :: m, k, j, h => by
    rw [midx_cons] at h
    split at h
    · cases h; rename_i hp; exact ⟨p, rfl, hp⟩
    · simp only [Option.map_eq_some_iff] at h
      obtain ⟨i, h1, rfl⟩ := h
      obtain ⟨q, h2, h3⟩ := midx_lt h1
      exact ⟨q, by simpa using h2, h3⟩
theorem mval_succ {K V : Type} (p : K × List V) (m : List (K × List V)) (n : Option Nat) (h : n.isSome = true) : mval (p :: m) (n.map (· + 1)) = mval m n := by
  cases n with
  | none => cases h
  | some j => simp [mval]
theorem chnOf_nil (k : Key) : chnOf [] k = [] := rfl
theorem chnOf_cons (p : Key × List Ver) (m : Chs) (k : Key) : chnOf (p :: m) k = if p.1 = k then p.2 else chnOf m k := by
  unfold chnOf
  rw [midx_cons]
  split
  · rfl
  · cases hm : midx eqK m k with
    | none => rfl
    | some j => exact mval_succ p m (some j) rfl
theorem ment_cons (p : Key × List Ver) (m : Chs) (k : Key) : ment eqK (p :: m) k = if p.1 = k then p :: m else p :: ment eqK m k := by
  unfold ment
  rw [midx_cons]
  by_cases h : p.1 = k
  · rw [if_pos h, if_pos h]
  · rw [if_neg h, if_neg h]
    cases midx eqK m k <;> rfl
theorem ment_some (m : Chs) (k : Key) : ∃ j, midx eqK (ment eqK m k) k = some j := by
  induction m with
  | nil => exact ⟨0, by show midx eqK ([] ++ [(k, [])]) k = _; rw [List.nil_append, midx_cons, if_pos rfl]⟩
  | cons p m ih =>
    rw [ment_cons]
    split
    · rename_i h; exact ⟨0, by rw [midx_cons, if_pos h]⟩
    · rename_i h
      obtain ⟨j, hj⟩ := ih
      exact ⟨j + 1, by rw [midx_cons, if_neg h, hj]; rfl⟩
theorem isSm_ment (m : Chs) (k : Key) : isSm (midx eqK (ment eqK m k) k) = true := by
  obtain ⟨j, hj⟩ := ment_some m k
  rw [hj]; rfl
theorem mval_ment (m : Chs) (k : Key) : mval (ment eqK m k) (midx eqK (ment eqK m k) k) = chnOf m k := by
  induction m with
  | nil =>
    show mval ([] ++ [(k, [])]) (midx eqK ([] ++ [(k, [])]) k) = []
    rw [List.nil_append, midx_cons, if_pos rfl]; rfl
  | cons p m ih =>
    rw [ment_cons, chnOf_cons]
    split
    · rename_i h; rw [midx_cons, if_pos h]; rfl
    · rename_i h
      rw [midx_cons, if_neg h]
      obtain ⟨j, hj⟩ := ment_some m k
      rw [hj] at ih ⊢
      exact (mval_succ p _ (some j) rfl).trans ih
theorem mput_same (m : Chs) (k : Key) : mput m (midx eqK m k) (chnOf m k) = m := by
  induction m with
  | nil => rfl
  | cons p m ih =>
    rw [chnOf_cons, midx_cons]
    split
    · rename_i h; rfl
    · cases hm : midx eqK m k with
      | none => rfl
      | some j =>
        rw [hm] at ih
        simp only [Option.map_some, mput, List.getElem?_cons_succ] at ih ⊢
        cases hj : m[j]? with
        | none => rfl
        | some q =>
          rw [hj] at ih
          simp only at ih ⊢
          rw [List.set_cons_succ, ih]
theorem laid_nil (k : Key) (v : Ver) : laid [] k v = [(k, [v])] := by
  unfold laid
  rw [mval_ment]
  show mput ([] ++ [(k, [])]) (midx eqK ([] ++ [(k, [])]) k) (cat [] [v]) = _
  rw [List.nil_append, midx_cons, if_pos rfl]; rfl
theorem laid_cons (p : Key × List Ver) (m : Chs) (k : Key) (v : Ver) : laid (p :: m) k v = if p.1 = k then (p.1, p.2 ++ [v]) :: m else p :: laid m k v := by
  unfold laid
  rw [mval_ment, mval_ment, chnOf_cons, ment_cons]
  split
  · rename_i h; rw [midx_cons, if_pos h]; rfl
  · rename_i h
    rw [midx_cons, if_neg h]
    obtain ⟨j, hj⟩ := ment_some m k
    obtain ⟨q, hq, _⟩ := midx_lt hj
    rw [hj]
    simp only [Option.map_some, mput, List.getElem?_cons_succ, hq, List.set_cons_succ]
theorem chnOf_laid (m : Chs) (k : Key) (v : Ver) (k' : Key) : chnOf (laid m k v) k' = if k = k' then chnOf m k ++ [v] else chnOf m k' := by
  induction m with
  | nil => rw [laid_nil, chnOf_cons, chnOf_nil, chnOf_nil]; rfl
  | cons p m ih =>
    rw [laid_cons, chnOf_cons, chnOf_cons]
    by_cases h : p.1 = k
    · rw [if_pos h, if_pos h, chnOf_cons]
      by_cases h' : k = k'
      · rw [if_pos (h.trans h'), if_pos h']
      · rw [if_neg (fun e => h' (h.symm.trans e)), if_neg h', if_neg (fun e => h' (h.symm.trans e))]
    · rw [if_neg h, if_neg h, chnOf_cons, ih]
      by_cases h' : k = k'
      · subst h'; rw [if_neg h, if_pos rfl, if_pos rfl]
      · rw [if_neg h', if_neg h']
theorem chsLen_cons (p : Key × List Ver) (m : Chs) : chsLen (p :: m) = p.2.length + chsLen m := by simp [chsLen]
theorem chsLen_laid (m : Chs) (k : Key) (v : Ver) : chsLen (laid m k v) = chsLen m + 1 := by
  induction m with
  | nil => rw [laid_nil]; rfl
  | cons p m ih =>
    rw [laid_cons]
    split
    · rw [chsLen_cons, chsLen_cons]; simp; omega
    · rw [chsLen_cons, chsLen_cons, ih]; omega
theorem chnOf_len (m : Chs) (k : Key) : (chnOf m k).length ≤ chsLen m := by
  induction m with
  | nil => simp [chnOf_nil]
  | cons p m ih =>
    rw [chnOf_cons, chsLen_cons]
    split <;> omega
theorem laidAll_nil (q : Int) (m : Chs) : laidAll q m [] = m := rfl
theorem laidAll_cons (q : Int) (m : Chs) (c : Cel) (l : List Cel) : laidAll q m (c :: l) = laidAll q (laid m c.1 (q, c.2)) l := rfl
theorem laidAll_snoc (q : Int) (m : Chs) (l : List Cel) (c : Cel) : laidAll q m (l ++ [c]) = laid (laidAll q m l) c.1 (q, c.2) := by simp [laidAll]
theorem chsLen_laidAll (q : Int) : ∀ (l : List Cel) (m : Chs), chsLen (laidAll q m l) = chsLen m + l.length
  | [], m => by simp [laidAll_nil]
  | c :: l, m => by rw [laidAll_cons, chsLen_laidAll q l, chsLen_laid]; simp; omega
/-- cells whose keys differ -/
def nodupK (l : List Cel) : Prop := (l.map (·.1)).Nodup
theorem onceGo_iff : ∀ (l : List Cel) (seen : List Key), onceGo seen l = true ↔ (∀ c ∈ l, celR c = true) ∧ (∀ c ∈ l, c.1 ∉ seen) ∧ nodupK l
  | [], seen => by simp [onceGo, nodupK]
  | c :: l, seen => by
    unfold onceGo
    simp only [Bool.and_eq_true, onceGo_iff l, List.mem_cons, forall_eq_or_imp, Bool.not_eq_true', List.any_eq_false, decide_eq_true_eq, nodupK, List.map_cons, List.nodup_cons, List.mem_map]
    constructor
    · rintro ⟨h1, h2, h3, h4, h5⟩
      refine ⟨⟨h1, h3⟩, ⟨fun h => h2 _ h rfl, fun d hd h => h4 d hd (.inr h)⟩, ?_, h5⟩
      rintro ⟨d, hd, e⟩
      exact h4 d hd (.inl e)
    · rintro ⟨⟨h1, h3⟩, ⟨h4, h6⟩, h7, h5⟩
      refine ⟨h1, fun x hx e => h4 (e ▸ hx), h3, fun d hd h => ?_, h5⟩
      rcases h with h | h
      · exact h7 ⟨d, hd, h⟩
      · exact h6 d hd h
theorem onceS_iff (l : List Cel) : onceS l = true ↔ (∀ c ∈ l, celR c = true) ∧ nodupK l ∧ l ≠ [] := by
  unfold onceS
  simp only [Bool.and_eq_true, onceGo_iff, decide_eq_true_eq, List.not_mem_nil, not_false_eq_true, implies_true, true_and, and_assoc]
/-- what stands at a key behind cells of unlike keys -/
theorem chnOf_laidAll (q : Int) : ∀ (l : List Cel) (m : Chs) (k : Key), nodupK l → chnOf (laidAll q m l) k = match l.find? (fun c => decide (c.1 = k)) with | some c => chnOf m k ++ [(q, c.2)] | none => chnOf m k
  | [], m, k, _ => rfl
  | c :: l, m, k, h => by
    have h' : c.1 ∉ l.map (·.1) ∧ nodupK l := List.nodup_cons.1 h
    rw [laidAll_cons, chnOf_laidAll q l _ k h'.2, List.find?_cons, chnOf_laid]
    by_cases hk : c.1 = k
    · have hno : l.find? (fun d => decide (d.1 = k)) = none := by
        rw [List.find?_eq_none]
        intro d hd
        simp only [decide_eq_true_eq]
        intro e
        exact h'.1 (List.mem_map.2 ⟨d, hd, e.trans hk.symm⟩)
      rw [hno, decide_eq_true hk, if_pos hk, hk]
    · rw [decide_eq_false hk, if_neg hk]
/-! what is so of each store -/
structure StoOk (s : Sto) : Prop where
  u : 0 ≤ s.1 ∧ s.1 ≤ 18446744073709551615
  n : 0 ≤ s.2.1 ∧ s.2.1 ≤ s.2.2.1
  most : s.2.2.1 ≤ 1048576
  few : s.2.1 ≤ 500000
  len : (chsLen s.2.2.2.1 : Int) = s.2.1
  rows : ∀ p ∈ s.2.2.2.1, rightFrom 0 p.2 = true ∧ newS p.2 ≤ s.1
theorem stoOk_iff (s : Sto) : stoOk s = true ↔ StoOk s := by
  unfold stoOk isU
  simp only [Bool.and_eq_true, decide_eq_true_eq, List.all_eq_true]
  constructor
  · rintro ⟨⟨h1, h2⟩, h3, h4, h5, h8, h6, h7⟩
    exact ⟨⟨h1, h2⟩, ⟨h3, h4⟩, h5, h8, h6, h7⟩
  · rintro ⟨⟨h1, h2⟩, ⟨h3, h4⟩, h5, h8, h6, h7⟩
    exact ⟨⟨h1, h2⟩, h3, h4, h5, h8, h6, h7⟩
theorem chnOf_ok {s : Sto} (h : StoOk s) (k : Key) : rightFrom 0 (chnOf s.2.2.2.1 k) = true ∧ newS (chnOf s.2.2.2.1 k) ≤ s.1 ∧ (chnOf s.2.2.2.1 k).length ≤ 500000 := by
  have hl := chnOf_len s.2.2.2.1 k
  refine ⟨?_, ?_, by have := h.len; have := h.few; omega⟩
  all_goals
    have hrow := h.rows
    generalize s.2.2.2.1 = m at hrow
    clear hl
    induction m with
    | nil => first | rfl | exact h.u.1
    | cons p m ih =>
      rw [chnOf_cons]
      split
      · first | exact (hrow p List.mem_cons_self).1 | exact (hrow p List.mem_cons_self).2
      · exact ih fun q hq => hrow q (List.mem_cons_of_mem _ hq)
end Go.BB
set_option linter.unusedSimpArgs false
set_option linter.unusedVariables false
namespace Go.BB
open Go Go.Proofs
set_option maxRecDepth 100000
theorem brF {α : Type} {x y : α} : br (!false) x y = x := rfl
theorem brT {α : Type} {x y : α} : br (!true) x y = y := rfl
theorem v_kbits : Valid Try.prog n_kbits c_kbits := by
  refine valid_fn mixed hf_kbits (by kernel_rfl) rfl (ts := tmpsOf f_kbits.results.toList) (by kernel_rfl) (cfg := cfgW g_kbits) tt_ok Γok_nil kbits_tm c_kbits (by kernel_rfl) (fun _ _ _ _ => ⟨⟩) ?_
  rintro ⟨(t : Int), ⟨⟩⟩ r u h
  refine ⟨0, (kbits_rn _ _).trans (Eq.trans ?_ h)⟩
  show kbits_P 0 t = some ((isBits t, ()), ((), ()))
  unfold kbits_P isBits
  cases h1 : (t == 0) <;> rfl
theorem v_ckey : Valid Try.prog n_ckey c_ckey := by
  refine valid_fn mixed hf_ckey (by kernel_rfl) rfl (ts := tmpsOf f_ckey.results.toList) (by kernel_rfl) (cfg := cfgW g_ckey) tt_ok Γok_nil ckey_tm c_ckey (by kernel_rfl) (fun _ _ _ _ => ⟨⟩) ?_
  rintro ⟨(k : Key), ⟨⟩⟩ r u h
  refine ⟨0, (ckey_rn _ _).trans (Eq.trans ?_ h)⟩
  show ckey_P 0 k = some ((keyR k, ()), ((), ()))
  unfold ckey_P keyR
  simp only [br_ite, ge_iff_le]
  by_cases h1 : 0 ≤ k.1 <;> by_cases h2 : k.1 < 4 <;> by_cases h3 : 0 ≤ k.2 <;> simp [h1, h2, h3]
theorem v_cright : Valid Try.prog n_cright c_cright := by
  refine valid_fn mixed hf_cright (by kernel_rfl) rfl (ts := tmpsOf f_cright.results.toList) (by kernel_rfl) (cfg := cfgW g_cright) tt_ok (Γok_cons v_ckey (Γok_cons v_kbits Γok_nil)) cright_tm c_cright (by kernel_rfl) (fun _ _ _ _ => ⟨⟩) ?_
  rintro ⟨(c : Cel), ⟨⟩⟩ r u h
  refine ⟨0, (cright_rn _ _).trans (Eq.trans ?_ h)⟩
  show cright_P 0 c = some ((celR c, ()), ((), ()))
  unfold cright_P celR
  simp only [br_ite, br_ite', show ((c.1.1, c.1.2) : Key) = c.1 from rfl]
  cases keyR c.1 <;> by_cases h2 : c.2 ≤ 1 <;> simp [h2]
theorem mget_cons {V : Type} (p : Key × V) (m : List (Key × V)) (k : Key) : mget eqK (p :: m) k = if p.1 = k then some p.2 else mget eqK m k := by
  show (match eqK p.1 k with | true => _ | false => _) = _
  by_cases h : p.1 = k
  · rw [eqK_iff.2 h, if_pos h]
  · rw [eqK_false.2 h, if_neg h]
theorem mset_cons {V : Type} (p : Key × V) (m : List (Key × V)) (k : Key) (v : V) : mset eqK (p :: m) k v = if p.1 = k then (p.1, v) :: m else p :: mset eqK m k v := by
  show (match eqK p.1 k with | true => _ | false => _) = _
  by_cases h : p.1 = k
  · rw [eqK_iff.2 h, if_pos h]
  · rw [eqK_false.2 h, if_neg h]
theorem mget_mset {V : Type} (m : List (Key × V)) (k : Key) (v : V) (k' : Key) : mget eqK (mset eqK m k v) k' = if k = k' then some v else mget eqK m k' := by
  induction m with
  | nil =>
    show mget eqK [(k, v)] k' = _
    rw [mget_cons]
  | cons p m ih =>
    rw [mset_cons, mget_cons]
    by_cases h : p.1 = k
    · rw [if_pos h, mget_cons]
      simp only
      by_cases h' : k = k'
      · rw [if_pos (h.trans h'), if_pos h']
      · rw [if_neg (fun e => h' (h.symm.trans e)), if_neg h', if_neg (fun e => h' (h.symm.trans e))]
    · rw [if_neg h, mget_cons, ih]
      by_cases h' : k = k'
      · subst h'; rw [if_neg h, if_pos rfl, if_pos rfl]
      · rw [if_neg h', if_neg h']
/-- the keys that were seen -/
def SeenB (m : List (Key × Bool)) (seen : List Key) : Prop := ∀ k, mgetD eqK m k false = decide (k ∈ seen)
theorem SeenB_set {m : List (Key × Bool)} {seen : List Key} (h : SeenB m seen) (k : Key) : SeenB (mset eqK m k true) (k :: seen) := by
  intro k'
  have := h k'
  unfold mgetD at this ⊢
  rw [mget_mset]
  by_cases e : k = k'
  · subst e; rw [if_pos rfl]; simp
  · rw [if_neg e]
    simp only [List.mem_cons, show ¬ k' = k from fun x => e x.symm, false_or]
    exact this
theorem v_once : Valid Try.prog n_once c_once := by
  refine valid_fn mixed hf_once (by kernel_rfl) rfl (ts := tmpsOf f_once.results.toList) (by kernel_rfl) (cfg := cfgW g_once) tt_ok (Γok_cons v_cright Γok_nil) once_tm c_once (by kernel_rfl) (fun _ _ _ _ => ⟨⟩) ?_
  rintro ⟨(l : List Cel), ⟨⟩⟩ r u h
  obtain ⟨h1, h2⟩ := grd_some h
  have hl : l.length < 1000000 := lenOk_lt h1
  refine ⟨l.length + 1, (once_rn _ _).trans (Eq.trans ?_ (congrArg some h2))⟩
  unfold once_P
  refine loopN_meas (step := once_L1) (fun x => l.length - x.2.2.2.2.1.toNat) (fun x => ∃ (i : Nat) (m : List (Key × Bool)) (seen : List Key), i ≤ l.length ∧ x = (l, m, l, (l.length : Int), (i : Int), ()) ∧ SeenB m seen ∧ (onceGo seen (l.drop i) && decide (l ≠ [])) = onceS l) (fun _ => some ((onceS l, ()), (), ())) ?_ _ _ ⟨0, [], [], by omega, rfl, fun k => by simp [mgetD, mget], rfl⟩ (by simp only; omega)
  rintro x ⟨i, m, seen, hi, rfl, hs, hr⟩ rec hrec
  simp only [once_L1, Int.toNat_natCast]
  by_cases h : i < l.length
  · rw [drop_cons l i ((0, 0), 0) h] at hr
    unfold onceGo at hr
    generalize l.getD i ((0, 0), 0) = c at hr ⊢
    have hc : mgetD (eqD ((Ty.int IntKind.i64).pair (Ty.int IntKind.i64))) m (c.1.1, c.1.2) false = decide (c.1 ∈ seen) := hs c.1
    have hcell : ((c.1.1, c.1.2), c.2) = c := rfl
    rw [br_dt (by omega), br_dt (by omega), br_dt (by omega), wrapI (by omega) (by omega), hc, hcell]
    by_cases hm : c.1 ∈ seen
    · rw [br_dt hm]
      have : (seen.any fun k => decide (k = c.1)) = true := List.any_eq_true.2 ⟨c.1, hm, by simp⟩
      rw [this] at hr
      rw [← hr]; simp
    · rw [br_df hm]
      have hno : (seen.any fun k => decide (k = c.1)) = false := List.any_eq_false.2 fun k hk e => hm (by simp only [decide_eq_true_eq] at e; exact e ▸ hk)
      rw [hno] at hr
      cases hcr : celR c with
      | false =>
        rw [hcr] at hr
        rw [brF, ← hr]; simp
      | true =>
        rw [hcr] at hr
        rw [brT]
        exact hrec _ ⟨i + 1, _, c.1 :: seen, by omega, by simp, SeenB_set hs c.1, by simpa using hr⟩ (by simp only [Int.toNat_natCast]; omega)
  · rw [br_df (by omega), ← hr, List.drop_eq_nil_of_le (by omega)]
    simp only [onceGo, Bool.true_and]
    have : decide ((l.length : Int) > 0) = decide (l ≠ []) := by
      cases l <;> simp
    rw [this]
theorem v_stNew : Valid Try.prog n_stNew c_stNew := by
  refine valid_fn mixed hf_stNew (by kernel_rfl) rfl (ts := tmpsOf f_stNew.results.toList) (by kernel_rfl) (cfg := cfgW g_stNew) tt_ok Γok_nil stNew_tm c_stNew (by kernel_rfl) (fun _ _ _ _ => ⟨⟩) ?_
  rintro ⟨(a : Int), (b : Int), ⟨⟩⟩ r u h
  refine ⟨0, (stNew_rn _ _ _).trans (Eq.trans ?_ h)⟩
  show stNew_P 0 a b = some ((stNewS a b, ()), ((), (), ()))
  unfold stNew_P stNewS
  rw [maxI_eq, minI_eq]
theorem v_stLast : Valid Try.prog n_stLast c_stLast := by
  refine valid_fn mixed hf_stLast (by kernel_rfl) rfl (ts := tmpsOf f_stLast.results.toList) (by kernel_rfl) (cfg := cfgW g_stLast) tt_ok Γok_nil stLast_tm c_stLast (by kernel_rfl) (fun _ _ _ _ => ⟨⟩) ?_
  rintro ⟨(s : Sto), ⟨⟩⟩ r u h
  exact ⟨0, (stLast_rn _ _).trans h⟩
theorem v_stVersions : Valid Try.prog n_stVersions c_stVersions := by
  refine valid_fn mixed hf_stVersions (by kernel_rfl) rfl (ts := tmpsOf f_stVersions.results.toList) (by kernel_rfl) (cfg := cfgW g_stVersions) tt_ok Γok_nil stVersions_tm c_stVersions (by kernel_rfl) (fun _ _ _ _ => ⟨⟩) ?_
  rintro ⟨(s : Sto), ⟨⟩⟩ r u h
  exact ⟨0, (stVersions_rn _ _).trans h⟩
theorem v_stKeys : Valid Try.prog n_stKeys c_stKeys := by
  refine valid_fn mixed hf_stKeys (by kernel_rfl) rfl (ts := tmpsOf f_stKeys.results.toList) (by kernel_rfl) (cfg := cfgW g_stKeys) tt_ok Γok_nil stKeys_tm c_stKeys (by kernel_rfl) (fun _ _ _ _ => ⟨⟩) ?_
  rintro ⟨(s : Sto), ⟨⟩⟩ r u h
  exact ⟨0, (stKeys_rn _ _).trans h⟩
theorem v_stRead : Valid Try.prog n_stRead c_stRead := by
  refine valid_fn mixed hf_stRead (by kernel_rfl) rfl (ts := tmpsOf f_stRead.results.toList) (by kernel_rfl) (cfg := cfgW g_stRead) tt_ok (Γok_cons v_chainAt Γok_nil) stRead_tm c_stRead (by kernel_rfl) (fun _ _ _ _ => ⟨⟩) ?_
  rintro ⟨(s : Sto), (k : Key), (q : Int), ⟨⟩⟩ r u h
  obtain ⟨h1, h2⟩ := grd_some h
  have hs := (stoOk_iff _).1 h1
  obtain ⟨g1, g2, g3⟩ := chnOf_ok hs k
  simp only at g1 g2 g3
  refine ⟨0, (stRead_rn _ _ _ _).trans (Eq.trans ?_ (congrArg some h2))⟩
  show stRead_P 0 s k q = some ((atV (chnOf s.2.2.2.1 k) q, ()), (s, (), (), ()))
  unfold stRead_P
  have e : mval s.2.2.2.1 (midx (eqD ((Ty.int IntKind.i64).pair (Ty.int IntKind.i64))) s.2.2.2.1 (k.1, k.2)) = chnOf s.2.2.2.1 k := rfl
  have e2 : mput s.2.2.2.1 (midx (eqD ((Ty.int IntKind.i64).pair (Ty.int IntKind.i64))) s.2.2.2.1 (k.1, k.2)) (chnOf s.2.2.2.1 k) = s.2.2.2.1 := mput_same s.2.2.2.1 k
  rw [e, bd_grd (by rw [lenOk_of (by omega), g1]; rfl), e2]
theorem v_stNewest : Valid Try.prog n_stNewest c_stNewest := by
  refine valid_fn mixed hf_stNewest (by kernel_rfl) rfl (ts := tmpsOf f_stNewest.results.toList) (by kernel_rfl) (cfg := cfgW g_stNewest) tt_ok (Γok_cons v_newest Γok_nil) stNewest_tm c_stNewest (by kernel_rfl) (fun _ _ _ _ => ⟨⟩) ?_
  rintro ⟨(s : Sto), (k : Key), ⟨⟩⟩ r u h
  obtain ⟨h1, h2⟩ := grd_some h
  have hs := (stoOk_iff _).1 h1
  obtain ⟨g1, g2, g3⟩ := chnOf_ok hs k
  simp only at g1 g2 g3
  refine ⟨0, (stNewest_rn _ _ _).trans (Eq.trans ?_ (congrArg some h2))⟩
  show stNewest_P 0 s k = some ((newS (chnOf s.2.2.2.1 k), ()), (s, (), ()))
  unfold stNewest_P
  have e : mval s.2.2.2.1 (midx (eqD ((Ty.int IntKind.i64).pair (Ty.int IntKind.i64))) s.2.2.2.1 (k.1, k.2)) = chnOf s.2.2.2.1 k := rfl
  have e2 : mput s.2.2.2.1 (midx (eqD ((Ty.int IntKind.i64).pair (Ty.int IntKind.i64))) s.2.2.2.1 (k.1, k.2)) (chnOf s.2.2.2.1 k) = s.2.2.2.1 := mput_same s.2.2.2.1 k
  rw [e, bd_grd (lenOk_of (by omega)), e2]
theorem v_stInstall : Valid Try.prog n_stInstall c_stInstall := by
  refine valid_fnc mixed hf_stInstall (by kernel_rfl) rfl (cfg := cfgW g_stInstall) tt_ok (Γok_cons v_once Γok_nil) stInstall_tm c_stInstall (by kernel_rfl) (fun _ _ _ _ => ⟨⟩) ?_
  rintro ⟨(s : Sto), (l : List Cel), ⟨⟩⟩ r u h
  obtain ⟨h1, h2⟩ := grd_some h
  simp only [Bool.and_eq_true] at h1
  have hs := (stoOk_iff _).1 h1.1
  have hl : l.length < 1000000 := lenOk_lt h1.2
  refine ⟨l.length + 1, (stInstall_rn _ _ _).trans (Eq.trans ?_ (congrArg some h2))⟩
  show stInstall_P (l.length + 1) s l = some (((instS s l).1.1, (instS s l).1.2, ()), ((instS s l).2, (), ()))
  obtain ⟨q, n, most, m, ⟨⟩⟩ := s
  have hu := hs.u
  have hn := hs.n
  have hm := hs.most
  have hf := hs.few
  have hlen := hs.len
  simp only at hu hn hm hf hlen
  unfold stInstall_P instS
  simp only
  rw [bd_grd h1.2]
  cases ho : onceS l with
  | false => rfl
  | true =>
    simp only [ho, Bool.true_eq_false, if_false]
    rw [brT]
    by_cases hq : q = 18446744073709551615
    · rw [br_t (beq_iff_eq.2 hq), if_pos hq]
    · rw [br_f (by simpa using hq), if_neg hq, wrapI (by omega) (by omega)]
      by_cases hfull : (l.length : Int) > most - n
      · rw [br_dt hfull, if_pos hfull]
      · rw [br_df hfull, if_neg hfull, wrapI (by omega) (by omega), wrapU (by omega) (by omega)]
        refine loopN_for (step := stInstall_L1) l.length (fun i => ((q + 1, n + l.length, most, laidAll (q + 1) m (l.take i), ()), l, (l.length : Int), (i : Int), ())) (fun i hi rec => ?_) (fun rec => ?_) (l.length + 1) (by omega)
        · simp only [stInstall_L1, Int.toNat_natCast]
          rw [br_dt (by omega), br_dt (by omega), br_dt (by omega), wrapI (by omega) (by omega), take_snoc l i ((0, 0), 0) hi, laidAll_snoc]
          have hle := chnOf_len (laidAll (q + 1) m (l.take i)) (l.getD i ((0, 0), 0)).1
          rw [chsLen_laidAll, List.length_take] at hle
          have hX : (mval (ment eqK (laidAll (q + 1) m (l.take i)) (l.getD i ((0, 0), 0)).1) (midx eqK (ment eqK (laidAll (q + 1) m (l.take i)) (l.getD i ((0, 0), 0)).1) (l.getD i ((0, 0), 0)).1)).length + [(q + 1, (l.getD i ((0, 0), 0)).2)].length < 2000000 := by
            rw [mval_ment]; simp only [List.length_cons, List.length_nil]; omega
          refine (br_dt (lim_mul hX (by omega))).trans ((br_dt (lim_le hX)).trans ((br_t (isSm_ment _ (l.getD i ((0, 0), 0)).1)).trans ?_))
          exact congrArg rec (Prod.ext (Prod.ext rfl (Prod.ext rfl (Prod.ext rfl (Prod.ext rfl rfl)))) (Prod.ext rfl (Prod.ext rfl (Prod.ext (by simp) rfl))))
        · simp only [stInstall_L1]
          rw [br_df (by omega), List.take_length]
end Go.BB
