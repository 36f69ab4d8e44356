/- A symbolic machine for the model's code, and what it shows of this seat's functions. No conditions. -/
import Derived.Test.YtnofmeckcimodaaEVask
import Derived.Test.YtnofmeckcimodaaEVfea
import Derived.Test.YtnofmeckcimodaaESFdo
import Derived.Test.YtnofmeckcimodaaEVord
import Derived.Test.YtnofmeckcimodaaEVfdo2
import Derived.Test.YtnofmeckcimodaaEGffc
import Derived.Test.YtnofmeckcimodaaEN
set_option linter.unusedSimpArgs false
set_option linter.unusedVariables false
namespace Go.BB
open Go Go.Proofs
set_option maxRecDepth 100000
theorem brfz {α : Type} {x y : α} : br false x y = y := rfl
theorem brtz {α : Type} {x y : α} : br true x y = x := rfl
theorem v_ask : Valid Try.prog n_ask c_ask := by
  refine valid_fnc mixed hf_ask (by kernel_rfl) rfl (cfg := cfgW g_ask) tt_ok (Γok_cons v_digit (Γok_cons v_within (Γok_cons v_words Γok_nil))) ask_tm c_ask (by kernel_rfl) (fun _ _ _ _ => ⟨⟩) ?_
  rintro ⟨(k : Int), (v : Int), ⟨⟩⟩ r u h
  refine ⟨200, (ask_rn _ _ _).trans (Eq.trans ?_ h)⟩
  show ask_P 200 k v = some ((askS k v, ()), ((), (), ()))
  clear h
  have d2 := digitS_range k 640 (n := 6) (by decide)
  have v2 : IntKind.u16.wrap (v % 2) = v % 2 := wrapW (Int.emod_nonneg _ (by decide)) (by have := Int.emod_lt_of_pos v (show (0 : Int) < 2 by decide); omega)
  have v6 : IntKind.u16.wrap (v % 60000) = v % 60000 := wrapW (Int.emod_nonneg _ (by decide)) (by have := Int.emod_lt_of_pos v (show (0 : Int) < 60000 by decide); omega)
  have v7 : IntKind.u16.wrap (v % 65536) = v % 65536 := wrapW (Int.emod_nonneg _ (by decide)) (by have := Int.emod_lt_of_pos v (show (0 : Int) < 65536 by decide); omega)
  have d5 := digitS_range v 65536 (n := 65536) (by decide)
  have v8 : IntKind.u16.wrap (digitS v 65536 65536) = digitS v 65536 65536 := wrapW d5.1 (by omega)
  have d6 := digitS_range v 40 (n := 6) (by decide)
  have v9 : IntKind.i64.wrap (1 + digitS v 40 6) = 1 + digitS v 40 6 := wrapI (by omega) (by omega)
  have v10 : IntKind.i64.wrap (1 + v % 4) = 1 + v % 4 := wrapI (by have := Int.emod_nonneg v (show (4 : Int) ≠ 0 by decide); omega) (by have := Int.emod_lt_of_pos v (show (0 : Int) < 4 by decide); omega)
  have n1 : IntKind.i64.wrap (1 + digitS k 640 6) = 1 + digitS k 640 6 := wrapI (by omega) (by omega)
  have n2 : IntKind.i64.wrap (14 + (1 + digitS k 640 6)) = 14 + (1 + digitS k 640 6) := wrapI (by omega) (by omega)
  have hn : 1 + digitS k 640 6 ≤ 1000 := by omega
  have hb := fun at1 n h0 h1 => ask_bits 200 v at1 n h0 h1 (by decide)
  have s0 := Int.emod_nonneg k (show (16 : Int) ≠ 0 by decide)
  have s1 := Int.emod_lt_of_pos k (show (0 : Int) < 16 by decide)
  unfold ask_P askS
  rw [bd_grd (by decide), bd_grd (by decide), bd_grd (by decide)]
  simp only [n1, n2, ask_L2_eq]
  by_cases h3 : digitS k 3840 12 = 0
  · rw [br_t (by rw [h3]; rfl), bd_grd (by decide), bd_grd (by decide)]
    simp only [if_pos h3]
    generalize digitS k 46080 65536 = at1
    generalize k % 16 = sel at s0 s1
    generalize hng : 1 + digitS k 640 6 = n at hn n1 n2
    have hs : sel = 0 ∨ sel = 1 ∨ sel = 2 ∨ sel = 3 ∨ sel = 4 ∨ sel = 5 ∨ sel = 6 ∨ sel = 7 ∨ sel = 8 ∨ sel = 9 ∨ sel = 10 ∨ sel = 11 ∨ sel = 12 ∨ sel = 13 ∨ sel = 14 ∨ sel = 15 := by omega
    rcases hs with rfl | rfl | rfl | rfl | rfl | rfl | rfl | rfl | rfl | rfl | rfl | rfl | rfl | rfl | rfl | rfl
    · rfl
    · rfl
    · rfl
    · rfl
    · rfl
    · rfl
    · simp only [Int.reduceBEq, brfz, brtz]
      rw [bd_grd (by decide)]; simp only [v2]; rfl
    · simp only [Int.reduceBEq, brfz, brtz]
      rw [bd_grd (by decide)]; simp only [v6]; rfl
    · simp only [Int.reduceBEq, brfz, brtz]
      rw [bd_grd (by decide)]; simp only [v6]; rfl
    · simp only [Int.reduceBEq, brfz, brtz]
      rw [bd_grd (by decide)]; simp only [v6]; rfl
    · simp only [Int.reduceBEq, brfz, brtz]
      rw [bd_grd (by decide)]
      show br (digitS v 64 3 == 0) _ _ = some ((if digitS v 64 3 = 0 then ask0 15 (digitS k 16 20) (14 + n) 0 0 0 (bitsS v (14 + n)) [] 0 0 0 0 else ask0 15 at1 n 0 0 0 (bitsS v n) [] 0 0 0 0, ()), (), (), ())
      by_cases h64 : digitS v 64 3 = 0
      · rw [br_t (by rw [h64]; rfl), bd_grd (by decide), if_pos h64]
        exact hb _ _ (by omega) (by omega)
      · rw [br_f (by simpa using h64), if_neg h64]
        exact hb _ _ (by omega) (by omega)
    · simp only [Int.reduceBEq, brfz, brtz]
      rw [bd_grd (decide_eq_true hn)]; rfl
    · simp only [Int.reduceBEq, brfz, brtz]
      rw [bd_grd (decide_eq_true hn)]; rfl
    · simp only [Int.reduceBEq, brfz, brtz]
      rw [bd_grd (by decide), bd_grd (by decide)]; simp only [v7, v8]; rfl
    · simp only [Int.reduceBEq, brfz, brtz]
      rw [bd_grd (decide_eq_true hn), bd_grd (by decide), bd_grd (by decide)]; simp only [v9]; rfl
    · simp only [Int.reduceBEq, brfz, brtz]
      rw [bd_grd (by decide), bd_grd (by decide)]; simp only [v10]; rfl
  · rw [br_f (by simpa using h3), bd_grd (by decide)]
    simp only [if_neg h3]
    generalize digitS k 16 40 = at1
    generalize k % 16 = sel at s0 s1
    generalize hng : 1 + digitS k 640 6 = n at hn n1 n2
    have hs : sel = 0 ∨ sel = 1 ∨ sel = 2 ∨ sel = 3 ∨ sel = 4 ∨ sel = 5 ∨ sel = 6 ∨ sel = 7 ∨ sel = 8 ∨ sel = 9 ∨ sel = 10 ∨ sel = 11 ∨ sel = 12 ∨ sel = 13 ∨ sel = 14 ∨ sel = 15 := by omega
    rcases hs with rfl | rfl | rfl | rfl | rfl | rfl | rfl | rfl | rfl | rfl | rfl | rfl | rfl | rfl | rfl | rfl
    · rfl
    · rfl
    · rfl
    · rfl
    · rfl
    · rfl
    · simp only [Int.reduceBEq, brfz, brtz]
      rw [bd_grd (by decide)]; simp only [v2]; rfl
    · simp only [Int.reduceBEq, brfz, brtz]
      rw [bd_grd (by decide)]; simp only [v6]; rfl
    · simp only [Int.reduceBEq, brfz, brtz]
      rw [bd_grd (by decide)]; simp only [v6]; rfl
    · simp only [Int.reduceBEq, brfz, brtz]
      rw [bd_grd (by decide)]; simp only [v6]; rfl
    · simp only [Int.reduceBEq, brfz, brtz]
      rw [bd_grd (by decide)]
      show br (digitS v 64 3 == 0) _ _ = some ((if digitS v 64 3 = 0 then ask0 15 (digitS k 16 20) (14 + n) 0 0 0 (bitsS v (14 + n)) [] 0 0 0 0 else ask0 15 at1 n 0 0 0 (bitsS v n) [] 0 0 0 0, ()), (), (), ())
      by_cases h64 : digitS v 64 3 = 0
      · rw [br_t (by rw [h64]; rfl), bd_grd (by decide), if_pos h64]
        exact hb _ _ (by omega) (by omega)
      · rw [br_f (by simpa using h64), if_neg h64]
        exact hb _ _ (by omega) (by omega)
    · simp only [Int.reduceBEq, brfz, brtz]
      rw [bd_grd (decide_eq_true hn)]; rfl
    · simp only [Int.reduceBEq, brfz, brtz]
      rw [bd_grd (decide_eq_true hn)]; rfl
    · simp only [Int.reduceBEq, brfz, brtz]
      rw [bd_grd (by decide), bd_grd (by decide)]; simp only [v7, v8]; rfl
    · simp only [Int.reduceBEq, brfz, brtz]
      rw [bd_grd (decide_eq_true hn), bd_grd (by decide), bd_grd (by decide)]; simp only [v9]; rfl
    · simp only [Int.reduceBEq, brfz, brtz]
      rw [bd_grd (by decide), bd_grd (by decide)]; simp only [v10]; rfl
end Go.BB
set_option linter.unusedSimpArgs false
set_option linter.unusedVariables false
/-! plain lemmas on requests and deeds by numbers -/
namespace Go.BB
open Go
theorem bitsS_len (v n : Int) : (bitsS v n).length = n.toNat := by simp [bitsS]
theorem wordsS_len (k n : Int) : (wordsS k n).length = n.toNat := by simp [wordsS]
theorem askS_len (k v : Int) : (aBits (askS k v)).length ≤ 24 ∧ (aWords (askS k v)).length ≤ 24 := by
  have d2 := digitS_range k 640 (n := 6) (by decide)
  unfold askS
  generalize (if digitS k 3840 12 = 0 then digitS k 46080 65536 else digitS k 16 40) = at1
  simp only
  repeat' split
  all_goals simp only [ask0, aBits, aWords, bitsS_len, wordsS_len, List.length_nil]
  all_goals omega
theorem askS_ok (k v : Int) : askLen (askS k v) = true := by
  have := askS_len k v
  exact and_t (lenOk_of (by omega)) (lenOk_of (by omega))
theorem valsR_len (m : List Cel) (s : Spn) : (valsR m s).length = (s.2.2 - s.2.1).toNat := by simp [valsR]
theorem doR_reg {m : List Cel} (hm : bufS m = true) (a : AskT) : bufS (doR m a).2 = true ∧ (doR m a).2.length ≤ m.length + max (max (aBits a).length (aWords a).length) 1 := by
  unfold doR
  split
  · exact ⟨hm, by show m.length ≤ _; omega⟩
  · have hc := cellsA_len a (getK m ((tabS (aFn a)).1, aAt a)).1
    obtain ⟨k1, k2⟩ := setR_ok (cellsA a (getK m ((tabS (aFn a)).1, aAt a)).1) m hm
    split
    · exact ⟨k1, by show (setR _ _).length ≤ _; omega⟩
    · exact ⟨k1, by show (setR _ _).length ≤ _; omega⟩
theorem echoA_len (a : AskT) : tellLen (echoA a) = true := by
  unfold echoA
  repeat' split
  all_goals rfl
theorem shownA_len (a : AskT) (l : List Int) (h : l.length < 1000000) : tellLen (shownA a l) = true := by
  unfold shownA
  split
  · exact and_t (lenOk_of (by simpa using h)) rfl
  · exact and_t rfl (and_t (lenOk_of h) rfl)
theorem doR_tell (m : List Cel) (a : AskT) : tellLen (doR m a).1.1 = true := by
  unfold doR
  split
  · rfl
  · rename_i hc
    have hk : askOk a = true := by
      cases h : askOk a with
      | true => rfl
      | false => exact absurd (.inl h) hc
    split
    · exact echoA_len a
    · rename_i s l hs
      refine shownA_len a _ ?_
      rw [valsR_len]
      rcases spansA_ok hk with e | ⟨s', t, e, z1, z2, z3, z4, z5⟩ | ⟨t, e⟩ | ⟨s', e, z1, z2, z3, z4, z5⟩
      · rw [e] at hs; cases hs
      · rw [e] at hs; cases hs; omega
      · rw [e] at hs; cases hs
      · rw [e] at hs; cases hs; omega
end Go.BB
set_option linter.unusedSimpArgs false
set_option linter.unusedVariables false
namespace Go.BB
open Go Go.Proofs
set_option maxRecDepth 100000
end Go.BB
set_option linter.unusedSimpArgs false
set_option linter.unusedVariables false
/-! plain lemmas: the program's plain registers stand as the document's -/
namespace Go.BB
open Go
theorem getF_mset (v : Int) (k k' : Key) : ∀ m : Regs, getF (mset eqK m k v) k' = if k' = k then v else getF m k'
  | [] => by
    unfold getF mgetD mset
    by_cases h : k' = k
    · subst h
      rw [if_pos rfl]
      have : eqK k' k' = true := eqK_iff.2 rfl
      simp [mget, this]
    · rw [if_neg h]
      have : eqK k k' = false := eqK_false.2 (fun e => h e.symm)
      simp [mget, this]
  | p :: m => by
    have ih := getF_mset v k k' m
    unfold getF mgetD at ih ⊢
    unfold mset
    cases h1 : eqK p.1 k with
    | true =>
      have e := eqK_iff.1 h1
      simp only [mget]
      by_cases h : k' = k
      · subst h
        rw [if_pos rfl, h1]
      · rw [if_neg h]
        have : eqK p.1 k' = false := eqK_false.2 (fun e' => h (by rw [← e', e]))
        simp only [this]
    | false =>
      simp only [mget]
      cases h2 : eqK p.1 k' with
      | true =>
        have e := eqK_iff.1 h2
        have hne := eqK_false.1 h1
        rw [if_neg (fun h => hne (by rw [e, h]))]
      | false => exact ih
theorem getK_put {l : List Cel} (hb : bufS l = true) (c : Cel) (k : Key) : (getK (putK l c) k).1 = if k = c.1 then c.2 else (getK l k).1 := by
  rw [putK_eq, getK_eq, getR_put c k hb, getK_eq]
  by_cases h : k = c.1
  · rw [if_pos h, if_pos h]
  · rw [if_neg h, if_neg h]
/-- the map and the row tell the same -/
structure SameR (m : Regs) (l : List Cel) : Prop where
  buf : bufS l = true
  get : ∀ k, getF m k = (getK l k).1
  out : ∀ k, keyR k = false → getF m k = 0
theorem sameR_nil : SameR [] [] := ⟨rfl, fun _ => rfl, fun _ _ => rfl⟩
theorem sameR_set : ∀ (cs : List Cel) {m : Regs} {l : List Cel}, SameR m l → SameR (setF m cs) (setR l cs)
  | [], _, _, h => h
  | c :: cs, m, l, h => by
    have e1 : setF m (c :: cs) = setF (if keyR c.1 then mset eqK m c.1 c.2 else m) cs := rfl
    have e2 : setR l (c :: cs) = setR (if keyR c.1 then putK l c else l) cs := rfl
    rw [e1, e2]
    cases hk : keyR c.1 with
    | false => exact sameR_set cs h
    | true =>
      rw [if_pos rfl, if_pos rfl]
      refine sameR_set cs ⟨by rw [putK_eq]; exact bufS_put c h.buf, fun k => ?_, fun k hk' => ?_⟩
      · rw [getF_mset, getK_put h.buf, h.get]
      · rw [getF_mset, if_neg (fun e => by rw [e, hk] at hk'; cases hk')]
        exact h.out k hk'
theorem cellsA_was {a : AskT} (h : aFn a ≠ 22) (x y : Int) : cellsA a x = cellsA a y := by
  unfold cellsA
  rw [if_neg h, if_neg h]
theorem spansA_none {a : AskT} (h : ((spansA a).1 ++ (spansA a).2).length = 0) : askOk a = false ∨ aFn a = 43 := by
  cases hk : askOk a with
  | false => exact .inl rfl
  | true =>
    right
    obtain ⟨q1, _⟩ := askOk_at hk
    obtain ⟨f, at1, n, v, an, o, bs, ws, ra, rn, c, ob⟩ := a
    unfold spansA at h
    rw [if_neg (by rw [hk]; decide)] at h
    dsimp only [aFn] at h q1 ⊢
    rcases (known_iff f).1 q1 with rfl | rfl | rfl | rfl | rfl | rfl | rfl | rfl | rfl | rfl | rfl
    all_goals first
      | rfl
      | (simp at h)
theorem spansA_some {a : AskT} (h : askOk a = false ∨ aFn a = 43) : spansA a = ([], []) := by
  unfold spansA
  rcases h with h | h
  · rw [if_pos h]
  · rw [h]
    split
    · rfl
    · simp
theorem beyond_app (x y : List Spn) : beyond (x ++ y) = (beyond x || beyond y) := by unfold beyond; rw [List.any_append]
theorem doF_doR {m : Regs} {l : List Cel} (h : SameR m l) (a : AskT) : (doF m a).1 = (doR l a).1 ∧ SameR (doF m a).2 (doR l a).2 := by
  unfold doF doR
  by_cases hn : ((spansA a).1 ++ (spansA a).2).length = 0
  · rw [if_pos (.inl hn), if_pos ((spansA_none hn).elim .inl (fun h => .inr (.inl h)))]
    exact ⟨rfl, h⟩
  · have hno : ¬ (askOk a = false ∨ aFn a = 43) := fun hc => hn (by rw [spansA_some hc]; rfl)
    cases hb : beyond ((spansA a).1 ++ (spansA a).2) with
    | true =>
      rw [beyond_app, Bool.or_eq_true] at hb
      rw [if_pos (.inr rfl), if_pos (hb.elim (fun x => .inr (.inr (.inl x))) fun x => .inr (.inr (.inr x)))]
      exact ⟨rfl, h⟩
    | false =>
      rw [beyond_app, Bool.or_eq_false_iff] at hb
      rw [if_neg (by rintro (x | x); exact hn x; cases x), if_neg (by
        rintro (x | x | x | x)
        · exact hno (.inl x)
        · exact hno (.inr x)
        · exact absurd x (by rw [show ((spansA a).1.any fun s => !spanR s) = beyond (spansA a).1 from rfl, hb.1]; decide)
        · exact absurd x (by rw [show ((spansA a).2.any fun s => !spanR s) = beyond (spansA a).2 from rfl, hb.2]; decide))]
      have hc : cellsA a (getF m (2, aAt a)) = cellsA a (getK l ((tabS (aFn a)).1, aAt a)).1 := by
        by_cases h22 : aFn a = 22
        · rw [h22, h.get]; rfl
        · exact cellsA_was h22 _ _
      rw [hc]
      have hs := sameR_set (cellsA a (getK l ((tabS (aFn a)).1, aAt a)).1) h
      generalize setF m (cellsA a (getK l ((tabS (aFn a)).1, aAt a)).1) = m' at hs ⊢
      generalize setR l (cellsA a (getK l ((tabS (aFn a)).1, aAt a)).1) = l' at hs ⊢
      have hv : ∀ s, valsF m' s = valsR l' s := fun s => List.map_congr_left fun i _ => hs.get _
      cases (spansA a).1 with
      | nil => exact ⟨rfl, hs⟩
      | cons s t =>
        refine ⟨?_, hs⟩
        show (shownT (aFn a) (valsF m' s), true) = (shownA a (valsR l' s), true)
        rw [hv]
        rfl
theorem isW_iff' (n : Int) : isW n = true ↔ 0 ≤ n ∧ n ≤ 65535 := by simp [isW]
theorem askS_W (k v : Int) : askW (askS k v) = true := by
  have d5 := digitS_range v 65536 (n := 65536) (by decide)
  have e2 := Int.emod_nonneg v (show (2 : Int) ≠ 0 by decide)
  have e3 := Int.emod_lt_of_pos v (show (0 : Int) < 2 by decide)
  have e4 := Int.emod_nonneg v (show (60000 : Int) ≠ 0 by decide)
  have e5 := Int.emod_lt_of_pos v (show (0 : Int) < 60000 by decide)
  have e6 := Int.emod_nonneg v (show (65536 : Int) ≠ 0 by decide)
  have e7 := Int.emod_lt_of_pos v (show (0 : Int) < 65536 by decide)
  have w0 : isW 0 = true := rfl
  have wv2 : isW (v % 2) = true := (isW_iff' _).2 ⟨by omega, by omega⟩
  have wv6 : isW (v % 60000) = true := (isW_iff' _).2 ⟨by omega, by omega⟩
  have wv7 : isW (v % 65536) = true := (isW_iff' _).2 ⟨by omega, by omega⟩
  have wd : isW (digitS v 65536 65536) = true := (isW_iff' _).2 ⟨by omega, by omega⟩
  unfold askS
  generalize (if digitS k 3840 12 = 0 then digitS k 46080 65536 else digitS k 16 40) = at1
  simp only
  repeat' split
  all_goals simp only [ask0, askW, aVal, aAnd, aOr, w0, wv2, wv6, wv7, wd, Bool.and_self]
end Go.BB
set_option linter.unusedSimpArgs false
set_option linter.unusedVariables false
namespace Go.BB
open Go Go.Proofs
set_option maxRecDepth 100000
abbrev LawRes4 := Option ((Bool × Unit) × Unit × Unit × Unit × Unit × Unit)
abbrev AskU := Int × Int × Int × Int × Int × Int × List Bool × List Int × Int × Int × Int × Int × Unit
abbrev askU (a : AskT) : AskU := (a.1, a.2.1, a.2.2.1, a.2.2.2.1, a.2.2.2.2.1, a.2.2.2.2.2.1, a.2.2.2.2.2.2.1, a.2.2.2.2.2.2.2.1, a.2.2.2.2.2.2.2.2.1, a.2.2.2.2.2.2.2.2.2.1, a.2.2.2.2.2.2.2.2.2.2.1, a.2.2.2.2.2.2.2.2.2.2.2, ())
abbrev PlayS := List Cel × List Int × List Int × AskU × (Regs × Unit) × (List Cel × Unit) × Int × Unit
theorem brNTp {α : Type} {x y : α} : br (!true) x y = y := rfl
/-- a request is done at both -/
def playT (rec1 : PlayS → LawRes4) (raw : List Cel) (as1 bs : List Int) (q : AskT) (m : Regs) (x : List Cel) (i : Int) (a : AskT) : LawRes4 :=
  bd (grd (askLen a && askW a) (((doF m a).1.1, (doF m a).1.2, ()), ((doF m a).2, ()), (), ())) fun (x16 : (TellT × Bool × Unit) × (Regs × Unit) × Unit × Unit) =>
  bd (grd (decide (x.length ≤ 400000) && (bufS x && (askLen a && (decide ((aBits a).length ≤ 100000) && decide ((aWords a).length ≤ 100000))))) (((doR x a).1.1, (doR x a).1.2, ()), ((doR x a).2, ()), (), ())) fun (x17 : (TellT × Bool × Unit) × (List Cel × Unit) × Unit × Unit) =>
  br (decide (0 ≤ i)) (br (decide (i < (↑bs.length : Int))) (br (!x16.1.2.1 == x17.1.2.1) (some ((false, ()), (), (), (), (), ()))
    (bd (grd (tellLen x16.1.1) ((sameTellB x16.1.1 x17.1.1, ()), (), (), ())) fun (x18 : (Bool × Unit) × Unit × Unit × Unit) => br (!x18.1.1) (some ((false, ()), (), (), (), (), ()))
      (bd (grd (lenOk x17.2.1.1 && bufS x17.2.1.1) (((getK x17.2.1.1 (keyS (bs.getD i.toNat 0))).1, ()), (x17.2.1.1, ()), (), ())) fun (x19 : (Int × Unit) × (List Cel × Unit) × Unit × Unit) =>
        br (getF x16.2.1.1 (keyS (bs.getD i.toNat 0)) != x19.1.1) (some ((false, ()), (), (), (), (), ())) (br (getF x16.2.1.1 (9, (-1 : Int)) != 0) (some ((false, ()), (), (), (), (), ()))
          (rec1 (raw, as1, bs, askU q, (x16.2.1.1, ()), (x19.2.1.1, ()), IntKind.i64.wrap (i + 1), ())))))) none) none
def cellsI (bs : List Int) (i : Int) : List Cel := cellsS (List.take ((minI (IntKind.i64.wrap (i + 4)) (↑bs.length : Int)).toNat - i.toNat) (List.drop i.toNat bs))
theorem plays_L1 (rec1 : PlayS → LawRes4) (raw : List Cel) (as1 bs : List Int) (q : AskT) (m : Regs) (x : List Cel) (i : Int) : lFilePlays_L1 rec1 (raw, as1, bs, askU q, (m, ()), (x, ()), i, ()) =
    br (decide (i < (↑as1.length : Int))) (br (decide (i < (↑bs.length : Int))) (br (decide (0 ≤ i)) (br (decide (i < (↑as1.length : Int)))
      (bd (grd (decide ((0 : Int) < 9) && (decide ((0 : Int) < 1099511627776) && decide ((1099511627776 : Int) < 4611686018427387904))) ((digitS (as1.getD i.toNat 0) 9 1099511627776, ()), (), (), (), ())) fun (x10 : (Int × Unit) × Unit × Unit × Unit × Unit) =>
      br (decide (0 ≤ i)) (br (decide (i < (↑bs.length : Int))) (br (decide (0 ≤ i)) (br (decide (i < (↑as1.length : Int)))
        (bd (grd (true && decide ((9 : Int) < 4611686018427387904)) ((as1.getD i.toNat 0 % 9, ()), (), (), ())) fun (x11 : (Int × Unit) × Unit × Unit × Unit) =>
        br (x11.1.1 == 0) (br (decide (0 ≤ i)) (br (decide (i ≤ minI (IntKind.i64.wrap (i + 4)) (↑bs.length : Int))) (br (decide (minI (IntKind.i64.wrap (i + 4)) (↑bs.length : Int) ≤ (↑bs.length : Int)))
          (bd (grd (decide ((cellsI bs i).length < 1000000)) (((lentS ((0, 0), 7) (cellsI bs i), (cellsI bs i).length), ()), (), ())) fun (x12 : ((List Cel × Nat) × Unit) × Unit × Unit) =>
          bd (grd (lenOk (List.take x12.1.1.2 (List.drop 0 x12.1.1.1))) ((), (setF m (List.take x12.1.1.2 (List.drop 0 x12.1.1.1)), ()), (), ())) fun (x13 : Unit × (Regs × Unit) × Unit × Unit) =>
          bd (grd (decide (x.length ≤ 500000) && (bufS x && decide ((cellsI bs i).length ≤ 100000))) ((), (setR x (cellsI bs i), ()), (), ())) fun (x14 : Unit × (List Cel × Unit) × Unit × Unit) =>
          bd (grd (staysS ((0, 0), 7) x12.1.1.1 x12.1.1.2 (cellsI bs i) && decide ((cellsI bs i).length < 1000000)) ((true, ()), x12.1.1.1, (), ())) fun (x15 : (Bool × Unit) × List Cel × Unit × Unit) =>
          br (!x15.1.1) (some ((false, ()), (), (), (), (), ())) (playT rec1 raw as1 bs q x13.2.1.1 x14.2.1.1 i (askS x10.1.1 (bs.getD i.toNat 0)))) none) none) none)
        (br (x11.1.1 == 1)
          (bd (grd (lenOk raw) ((), (setF m raw, ()), (), ())) fun (x20 : Unit × (Regs × Unit) × Unit × Unit) =>
          bd (grd (decide (x.length ≤ 500000) && (bufS x && decide (raw.length ≤ 100000))) ((), (setR x raw, ()), (), ())) fun (x21 : Unit × (List Cel × Unit) × Unit × Unit) =>
          playT rec1 raw as1 bs q x20.2.1.1 x21.2.1.1 i (askS x10.1.1 (bs.getD i.toNat 0)))
          (br (x11.1.1 == 2) (playT rec1 raw as1 bs q m x i q) (playT rec1 raw as1 bs q m x i (askS x10.1.1 (bs.getD i.toNat 0)))))) none) none) none) none) none) none) (some ((true, ()), (), (), (), (), ()))) (some ((true, ()), (), (), (), (), ())) := by kernel_rfl
theorem playT_eq (rec1 : PlayS → LawRes4) (raw : List Cel) (as1 bs : List Int) (q : AskT) {m : Regs} {x : List Cel} (h : SameR m x) (hx : x.length ≤ 300000) (i : Nat) (hi : i < bs.length) (hi2 : i ≤ 1000) (a : AskT) (hw : askW a = true) (hb : (aBits a).length ≤ 2100) (hws : (aWords a).length ≤ 200) :
    playT rec1 raw as1 bs q m x (i : Int) a = rec1 (raw, as1, bs, askU q, ((doF m a).2, ()), ((doR x a).2, ()), ((i + 1 : Nat) : Int), ()) := by
  obtain ⟨e1, h2⟩ := doF_doR h a
  obtain ⟨k1, k2⟩ := doR_reg h.buf a
  have ha : askLen a = true := and_t (lenOk_of (by omega)) (lenOk_of (by omega))
  unfold playT
  rw [bd_grd (and_t ha hw)]
  simp only
  rw [bd_grd (and_t (decide_eq_true (by omega)) (and_t h.buf (and_t ha (and_t (decide_eq_true (by omega)) (decide_eq_true (by omega))))))]
  simp only
  rw [br_dt (by omega), br_dt (by omega), e1]
  have eb : (!(doR x a).1.2 == (doR x a).1.2) = false := by cases (doR x a).1.2 <;> rfl
  rw [br_f eb, bd_grd (doR_tell x a)]
  simp only
  rw [show sameTellB (doR x a).1.1 (doR x a).1.1 = true from decide_eq_true rfl, brNTp, bd_grd (and_t (lenOk_of (by omega)) k1)]
  simp only
  rw [br_f (by rw [h2.get]; simp), br_f (by rw [h2.out _ rfl]; rfl), wrapI (by omega) (by omega)]
  rfl
theorem isW_in {n : Int} (h : InR2 (.int .u16) n) : isW n = true := by
  simp only [InR2, Lit.wf] at h
  simp only [IntKind.min, IntKind.max, IntKind.signed, IntKind.bits] at h
  simp [isW] at h ⊢
  omega
theorem askW_in {a : AskT} (h : InR2 tAsk a) : askW a = true := by
  obtain ⟨_, _, _, h1, h2, h3, _⟩ := h
  exact and_t (isW_in h1) (and_t (isW_in h2) (isW_in h3))
theorem lv_FilePlays : Valid Try.prog n_lFilePlays ⟨valsOf [.slice tCell, tAsk, .slice tI, .slice tI], [.val .bool], Fok (tys := [.slice tCell, tAsk, .slice tI, .slice tI]) (fun x => askW x.2.1) ((), (), (), (), ())⟩ := by
  refine valid_law mixed hf_lFilePlays (by kernel_rfl) rfl (ts := tmpsOf f_lFilePlays.results.toList) (by kernel_rfl) (cfg := cfgW g_lFilePlays) tt_ok
    (Γok_cons v_awake27 (Γok_cons v_fnew (Γok_cons v_digit (Γok_cons v_ask (Γok_cons v_within (Γok_cons v_cells (Γok_cons v_lentCells (Γok_cons v_fset (Γok_cons v_rfset (Γok_cons v_staysCells (Γok_cons v_fdo (Γok_cons v_rfdo (Γok_cons v_key (Γok_cons v_sameTell (Γok_cons v_fget (Γok_cons v_rfget Γok_nil)))))))))))))))) lFilePlays_tm (by kernel_rfl) ?_
  rintro ⟨(raw : List Cel), (q : AskT), (as1 : List Int), (bs : List Int), ⟨⟩⟩ hw
  have hw : askW q = true := hw
  refine ⟨70, (lFilePlays_rn _ _ _ _ _).trans ?_⟩
  unfold lFilePlays_P
  by_cases h1 : (raw.length : Int) > 20
  · rw [br_dt h1]; rfl
  rw [br_df h1]
  by_cases h2 : ((aWords q).length : Int) > 200
  · rw [br_dt h2]; rfl
  rw [br_df h2]
  by_cases h3 : ((aBits q).length : Int) > 2100
  · rw [br_dt h3]; rfl
  rw [br_df h3]
  by_cases h4 : (as1.length : Int) > 60
  · rw [br_dt h4]; rfl
  rw [br_df h4]
  by_cases h5 : (bs.length : Int) > 60
  · rw [br_dt h5]; rfl
  rw [br_df h5, brNTp]
  show loopN lFilePlays_L1 70 (raw, as1, bs, askU q, ([], ()), ([], ()), 0, ()) = some ((true, ()), (), (), (), (), ())
  refine loopN_meas (fun x => 60 - x.2.2.2.2.2.2.1.toNat) (fun y => ∃ (i : Nat) (m : Regs) (x : List Cel), i ≤ 60 ∧ SameR m x ∧ x.length ≤ 3000 * i ∧ y = (raw, as1, bs, askU q, (m, ()), (x, ()), (i : Int), ())) (fun _ => some ((true, ()), (), (), (), (), ())) ?_ 70 _ ⟨0, [], [], by omega, sameR_nil, by simp, rfl⟩ (by simp)
  rintro y ⟨i, m, x, hi, hs, hx, rfl⟩ rec hrec
  rw [plays_L1]
  by_cases ha : (i : Int) < as1.length
  · rw [br_dt ha]
    by_cases hb : (i : Int) < bs.length
    · have e1 : ((i : Nat) : Int).toNat = i := by omega
      have hl2 := askS_len (digitS (as1.getD i 0) 9 1099511627776) (bs.getD i 0)
      have ho := askS_W (digitS (as1.getD i 0) 9 1099511627776) (bs.getD i 0)
      have go : ∀ {m' : Regs} {x' : List Cel} (a : AskT), SameR m' x' → x'.length ≤ 3000 * i + 20 → askW a = true → (aBits a).length ≤ 2100 → (aWords a).length ≤ 200 → playT rec raw as1 bs q m' x' (i : Int) a = some ((true, ()), (), (), (), (), ()) := by
        intro m' x' a hs' hx' hw' hb' hws'
        rw [playT_eq rec raw as1 bs q hs' (by omega) i (by omega) (by omega) a hw' hb' hws']
        obtain ⟨_, h2⟩ := doF_doR hs' a
        obtain ⟨k1, k2⟩ := doR_reg hs'.buf a
        exact hrec _ ⟨i + 1, _, _, by omega, h2, by omega, rfl⟩ (by simp only; omega)
      rw [br_dt hb, br_dt (by omega), br_dt ha, bd_grd (by decide), br_dt (by omega), br_dt hb, br_dt (by omega), br_dt ha, bd_grd (by decide), e1]
      simp only
      by_cases c0 : as1.getD i 0 % 9 = 0
      · have hc := cellsS_len (List.take ((minI (IntKind.i64.wrap ((i : Int) + 4)) (↑bs.length : Int)).toNat - ((i : Nat) : Int).toNat) (List.drop ((i : Nat) : Int).toNat bs))
        have hc : (cellsI bs (i : Int)).length ≤ 20 := hc
        rw [br_t (by rw [c0]; rfl), br_dt (by omega), br_dt (by rw [wrapI (by omega) (by omega), minI_eq]; omega), br_dt (by rw [minI_eq]; omega), bd_grd (decide_eq_true (by omega))]
        simp only [take_drop0]
        rw [bd_grd (lenOk_of (by omega))]
        simp only
        rw [bd_grd (and_t (decide_eq_true (by omega)) (and_t hs.buf (decide_eq_true (by omega))))]
        simp only
        rw [bd_grd (and_t (staysS_lent _ _) (decide_eq_true (by omega))), brNTp]
        obtain ⟨k1, k2⟩ := setR_ok (cellsI bs (i : Int)) x hs.buf
        exact go _ (sameR_set _ hs) (by omega) ho (by omega) (by omega)
      · rw [br_f (by simpa using c0)]
        by_cases c1 : as1.getD i 0 % 9 = 1
        · rw [br_t (by rw [c1]; rfl), bd_grd (lenOk_of (by omega))]
          simp only
          rw [bd_grd (and_t (decide_eq_true (by omega)) (and_t hs.buf (decide_eq_true (by omega))))]
          obtain ⟨k1, k2⟩ := setR_ok raw x hs.buf
          simp only
          exact go _ (sameR_set _ hs) (by omega) ho (by omega) (by omega)
        · rw [br_f (by simpa using c1)]
          by_cases c2 : as1.getD i 0 % 9 = 2
          · rw [br_t (by rw [c2]; rfl)]
            exact go _ hs (by omega) hw (by omega) (by omega)
          · rw [br_f (by simpa using c2)]
            exact go _ hs (by omega) ho (by omega) (by omega)
    · rw [br_df hb]
  · rw [br_df ha]
end Go.BB
set_option linter.unusedVariables false
namespace Go.BB
open Go Go.Proofs
set_option maxRecDepth 100000
set_option exponentiation.threshold 100000
noncomputable section
abbrev g_lFileMasks : List (Nat × Ctr O0) := [(n_awake27, c_awake27), (n_within, c_within), (n_fnew, c_fnew), (n_fset, c_fset), (n_fdo, c_fdo), (n_fget, c_fget)]
def lFileMasks_tm : List Tm := []
def lFileMasks_P (K : Nat) (a0 : Int) (a1 : Int) (a2 : Int) (a3 : Int) : Option ((Bool × Unit) × Unit × Unit × Unit × Unit × Unit) := br (!true) (some ((false, ()), (), (), (), (), ())) (bd (grd (decide ((0 : Int) < (65000 : Int)) && decide ((65000 : Int) < (4611686018427387904 : Int))) ((a3 % (65000 : Int), ()), (), (), ())) fun (x1 : (Int × Unit) × Unit × Unit × Unit) => bd (grd (lenOk [(((2 : Int), x1.1.1), a0)]) ((), (setF [] [(((2 : Int), x1.1.1), a0)], ()), (), ())) fun (x2 : Unit × (List ((Int × Int) × Int) × Unit) × Unit × Unit) => bd (grd (askLen ((22 : Int), x1.1.1, (0 : Int), (0 : Int), a1, a2, [], [], (0 : Int), (0 : Int), (0 : Int), (0 : Int)) && askW ((22 : Int), x1.1.1, (0 : Int), (0 : Int), a1, a2, [], [], (0 : Int), (0 : Int), (0 : Int), (0 : Int))) (((doF x2.2.1.1 ((22 : Int), x1.1.1, (0 : Int), (0 : Int), a1, a2, [], [], (0 : Int), (0 : Int), (0 : Int), (0 : Int))).1.1, (doF x2.2.1.1 ((22 : Int), x1.1.1, (0 : Int), (0 : Int), a1, a2, [], [], (0 : Int), (0 : Int), (0 : Int), (0 : Int))).1.2, ()), ((doF x2.2.1.1 ((22 : Int), x1.1.1, (0 : Int), (0 : Int), a1, a2, [], [], (0 : Int), (0 : Int), (0 : Int), (0 : Int))).2, ()), (), ())) fun (x3 : (TellT × Bool × Unit) × (List ((Int × Int) × Int) × Unit) × Unit × Unit) => bd (grd (askLen ((23 : Int), IntKind.i64.wrap (x1.1.1 + (1 : Int)), (1 : Int), (0 : Int), (0 : Int), (0 : Int), [], [a2], x1.1.1, (3 : Int), (0 : Int), (0 : Int)) && askW ((23 : Int), IntKind.i64.wrap (x1.1.1 + (1 : Int)), (1 : Int), (0 : Int), (0 : Int), (0 : Int), [], [a2], x1.1.1, (3 : Int), (0 : Int), (0 : Int))) (((doF x3.2.1.1 ((23 : Int), IntKind.i64.wrap (x1.1.1 + (1 : Int)), (1 : Int), (0 : Int), (0 : Int), (0 : Int), [], [a2], x1.1.1, (3 : Int), (0 : Int), (0 : Int))).1.1, (doF x3.2.1.1 ((23 : Int), IntKind.i64.wrap (x1.1.1 + (1 : Int)), (1 : Int), (0 : Int), (0 : Int), (0 : Int), [], [a2], x1.1.1, (3 : Int), (0 : Int), (0 : Int))).1.2, ()), ((doF x3.2.1.1 ((23 : Int), IntKind.i64.wrap (x1.1.1 + (1 : Int)), (1 : Int), (0 : Int), (0 : Int), (0 : Int), [], [a2], x1.1.1, (3 : Int), (0 : Int), (0 : Int))).2, ()), (), ())) fun (x4 : (TellT × Bool × Unit) × (List ((Int × Int) × Int) × Unit) × Unit × Unit) => br x3.1.2.1 (br x4.1.2.1 (br (x3.1.1.1 == (22 : Int)) (br (x3.1.1.2.2.2.2.1 == x1.1.1) (br (getF x3.2.1.1 ((2 : Int), x1.1.1) == IntKind.u16.wrap (↑(BitVec.ofInt (16 : Nat) (IntKind.u16.wrap (↑(BitVec.ofInt (16 : Nat) a0 &&& BitVec.ofInt (16 : Nat) a1).toNat : Int)) ||| BitVec.ofInt (16 : Nat) (IntKind.u16.wrap (↑(BitVec.ofInt (16 : Nat) a2 &&& ~~~BitVec.ofInt (16 : Nat) a1).toNat : Int))).toNat : Int)) (br ((↑x4.1.1.2.2.2.1.length : Int) == (3 : Int)) (br (decide ((0 : Int) < (↑x4.1.1.2.2.2.1.length : Int))) (br (x4.1.1.2.2.2.1.getD (Int.toNat (0 : Int)) (0 : Int) == getF x3.2.1.1 ((2 : Int), x1.1.1)) (br (decide ((1 : Int) < (↑x4.1.1.2.2.2.1.length : Int))) (br (x4.1.1.2.2.2.1.getD (Int.toNat (1 : Int)) (0 : Int) == a2) (br (decide ((2 : Int) < (↑x4.1.1.2.2.2.1.length : Int))) (some ((x4.1.1.2.2.2.1.getD
 (Int.toNat (2 : Int)) (0 : Int) == (0 : Int), ()), (), (), (), (), ())) none) (some ((false, ()), (), (), (), (), ()))) none) (some ((false, ()), (), (), (), (), ()))) none) (some ((false, ()), (), (), (), (), ()))) (some ((false, ()), (), (), (), (), ()))) (some ((false, ()), (), (), (), (), ()))) (some ((false, ()), (), (), (), (), ()))) (some ((false, ()), (), (), (), (), ()))) (some ((false, ()), (), (), (), (), ())))
theorem lFileMasks_rn (K : Nat) (a0 : Int) (a1 : Int) (a2 : Int) (a3 : Int) : runF (cfgW g_lFileMasks) K f_lFileMasks lFileMasks_tm [.val tW, .val tW, .val tW, .val tI] [.val .bool] (a0, a1, a2, a3, ()) = lFileMasks_P K a0 a1 a2 a3 := by kernel_rfl
end
end Go.BB
