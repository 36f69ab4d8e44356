/- A symbolic machine for the model's code, and what it shows of this seat's functions. No conditions. -/
import Derived.Test.YtnofmeckcimodaaFN
import Derived.Test.YtnofmeckcimodaaFGfgb
set_option linter.unusedSimpArgs false
set_option linter.unusedVariables false
namespace Go.BB
open Go Go.Proofs
set_option maxRecDepth 100000
set_option exponentiation.threshold 100000
noncomputable section
abbrev g_within : List (Nat × Ctr O0) := []
def within_tm : List Tm := []
def within_P (K : Nat) (a0 : Int) (a1 : Int) : Option ((Int × Unit) × Unit × Unit × Unit) := br (!decide (a1 = (0 : Int))) (br (decide (a0.tmod a1 < (0 : Int))) (some ((IntKind.i64.wrap (a0.tmod a1 + a1), ()), (), (), ())) (some ((a0.tmod a1, ()), (), (), ()))) none
theorem within_rn (K : Nat) (a0 : Int) (a1 : Int) : runF (cfgW g_within) K f_within within_tm [.val tI, .val tI] [.val tI] (a0, a1, ()) = within_P K a0 a1 := by kernel_rfl
abbrev g_digit : List (Nat × Ctr O0) := [(n_within, c_within)]
def digit_tm : List Tm := []
def digit_P (K : Nat) (a0 : Int) (a1 : Int) (a2 : Int) : Option ((Int × Unit) × Unit × Unit × Unit × Unit) := br (!decide (a1 = (0 : Int))) (bd (grd (decide ((0 : Int) < a2) && decide (a2 < (4611686018427387904 : Int))) ((IntKind.i64.wrap (a0.tdiv a1) % a2, ()), (), (), ())) fun (x1 : (Int × Unit) × Unit × Unit × Unit) => some ((x1.1.1, ()), (), (), (), ())) none
theorem digit_rn (K : Nat) (a0 : Int) (a1 : Int) (a2 : Int) : runF (cfgW g_digit) K f_digit digit_tm [.val tI, .val tI, .val tI] [.val tI] (a0, a1, a2, ()) = digit_P K a0 a1 a2 := by kernel_rfl
abbrev g_ati : List (Nat × Ctr O0) := []
def ati_tm : List Tm := []
def ati_P (K : Nat) (a0 : List Int) (a1 : Int) : Option ((Int × Unit) × Unit × Unit × Unit) := br (decide (a1 < (0 : Int))) (some (((0 : Int), ()), (), (), ())) (br (decide (a1 ≥ (↑a0.length : Int))) (some (((0 : Int), ()), (), (), ())) (br (decide ((0 : Int) ≤ a1)) (br (decide (a1 < (↑a0.length : Int))) (some ((a0.getD a1.toNat (0 : Int), ()), (), (), ())) none) none))
theorem ati_rn (K : Nat) (a0 : List Int) (a1 : Int) : runF (cfgW g_ati) K f_ati ati_tm [.val (.slice tI), .val tI] [.val tI] (a0, a1, ()) = ati_P K a0 a1 := by kernel_rfl
abbrev g_cloneBits : List (Nat × Ctr O0) := []
def cloneBits_tm : List Tm := []
def cloneBits_P (K : Nat) (a0 : List Bool) : Option ((List Bool × Unit) × Unit × Unit) := mayB a0.isEmpty (some (([], ()), (), ())) (br (decide (((0 : Nat) + a0.length) * (1 : Nat) ≤ LIM)) (br (decide ((0 : Nat) + a0.length ≤ LIM)) (some ((cat [] a0, ()), (), ())) none) none)
theorem cloneBits_rn (K : Nat) (a0 : List Bool) : runF (cfgW g_cloneBits) K f_cloneBits cloneBits_tm [.val (.slice .bool)] [.own .bool] (a0, ()) = cloneBits_P K a0 := by kernel_rfl
abbrev g_cloneWords : List (Nat × Ctr O0) := []
def cloneWords_tm : List Tm := []
def cloneWords_P (K : Nat) (a0 : List Int) : Option ((List Int × Unit) × Unit × Unit) := mayB a0.isEmpty (some (([], ()), (), ())) (br (decide (((0 : Nat) + a0.length) * (2 : Nat) ≤ LIM)) (br (decide ((0 : Nat) + a0.length ≤ LIM)) (some ((cat [] a0, ()), (), ())) none) none)
theorem cloneWords_rn (K : Nat) (a0 : List Int) : runF (cfgW g_cloneWords) K f_cloneWords cloneWords_tm [.val (.slice tW)] [.own tW] (a0, ()) = cloneWords_P K a0 := by kernel_rfl
abbrev g_cloneCells : List (Nat × Ctr O0) := []
def cloneCells_tm : List Tm := []
def cloneCells_P (K : Nat) (a0 : List ((Int × Int) × Int)) : Option ((List ((Int × Int) × Int) × Unit) × Unit × Unit) := mayB a0.isEmpty (some (([], ()), (), ())) (br (decide (((0 : Nat) + a0.length) * (24 : Nat) ≤ LIM)) (br (decide ((0 : Nat) + a0.length ≤ LIM)) (some ((cat [] a0, ()), (), ())) none) none)
theorem cloneCells_rn (K : Nat) (a0 : List ((Int × Int) × Int)) : runF (cfgW g_cloneCells) K f_cloneCells cloneCells_tm [.val (.slice tCell)] [.own tCell] (a0, ()) = cloneCells_P K a0 := by kernel_rfl
end
end Go.BB
namespace Go.BB
open Go
theorem wrapI {n : Int} (h1 : -9223372036854775808 ≤ n) (h2 : n ≤ 9223372036854775807) : IntKind.i64.wrap n = n := by
 simp [IntKind.wrap, IntKind.signed, IntKind.bits]; omega
theorem wrapU {n : Int} (h1 : 0 ≤ n) (h2 : n ≤ 18446744073709551615) : IntKind.u64.wrap n = n := by
 simp [IntKind.wrap, IntKind.signed, IntKind.bits]; omega
theorem wrapW {n : Int} (h1 : 0 ≤ n) (h2 : n ≤ 65535) : IntKind.u16.wrap n = n := by
 simp [IntKind.wrap, IntKind.signed, IntKind.bits]; omega
theorem getD_app_ge {α : Type} (l r : List α) (i : Nat) (z : α) (h : l.length ≤ i) : (l ++ r).getD i z = r.getD (i - l.length) z := by
 simp [List.getD_eq_getElem?_getD, List.getElem?_append_right h]
theorem same_loop {α : Type} [DecidableEq α] (z : α) (e : α → α → Bool) (he : ∀ a b, e a b = decide (a = b)) (a b : List α) (hab : a.length = b.length)
  {step : (List α × List α × Int × Unit → Option ((Bool × Unit) × Unit × Unit × Unit)) → List α × List α × Int × Unit → Option ((Bool × Unit) × Unit × Unit × Unit)}
  (hstep : ∀ rec (y3 y4 : List α) (y5 : Int), step rec (y3, y4, y5, ()) =
   br (decide (y5 < (↑y3.length : Int)))
    (br (decide ((0 : Int) ≤ y5))
     (br (decide (y5 < (↑y3.length : Int)))
      (br (decide ((0 : Int) ≤ y5))
       (br (decide (y5 < (↑y4.length : Int)))
        (br (!(e (y3.getD y5.toNat z) (y4.getD y5.toNat z)))
         (some ((false, ()), (), (), ())) (rec (y3, y4, IntKind.i64.wrap (y5 + (1 : Int)), ())))
        none)
       none)
      none)
     none)
    (some ((true, ()), (), (), ()))) (hl : a.length < 4611686018427387904) :
  ∀ K, a.length < K → loopN step K (a, b, 0, ()) = some ((sameS a b, ()), (), (), ()) := by
 intro K hK
 refine loopN_meas (fun x => a.length - x.2.2.1.toNat) (fun x => ∃ i : Nat, i ≤ a.length ∧ x = (a, b, (i : Int), ()) ∧ a.take i = b.take i) (fun _ => some ((sameS a b, ()), (), (), ())) ?_ K (a, b, 0, ()) ⟨0, by omega, rfl, by simp⟩ (by simpa using hK)
 rintro x ⟨i, hi, rfl, ht⟩ rec hrec
 rw [hstep]
 have ei : ((i : Nat) : Int).toNat = i := by omega
 by_cases h : i < a.length
 ·rw [br_dt (by omega), br_dt (by omega), br_dt (by omega), br_dt (by omega), br_dt (by omega), wrapI (by omega) (by omega), ei, he]
  by_cases hx : a.getD i z = b.getD i z
  ·rw [br_f (by rw [decide_eq_true hx]; rfl)]
   refine hrec _ ⟨i + 1, by omega, by simp, ?_⟩ (by simp only; omega)
   rw [List.take_add_one, List.take_add_one, ht]
   congr 1
   rw [List.getD_eq_getElem?_getD, List.getD_eq_getElem?_getD, List.getElem?_eq_getElem h, List.getElem?_eq_getElem (by omega : i < b.length)] at hx
   rw [List.getElem?_eq_getElem h, List.getElem?_eq_getElem (by omega : i < b.length)]
   simpa using hx
  ·rw [br_t (by simp only [decide_eq_false hx]; rfl)]
   have : sameS a b = false := by
    unfold sameS
    apply decide_eq_false
    rintro rfl
    exact hx rfl
   rw [this]
 ·rw [br_df (by omega)]
  have : sameS a b = true := by
   unfold sameS
   apply decide_eq_true
   rwa [List.take_of_length_le (by omega), List.take_of_length_le (by omega)] at ht
  rw [this]
theorem mayB_of {α : Type} {e : Bool} {x y : Option α} (h : e = true → x = y) : mayB e x y = y := by
 unfold mayB
 cases e with
 | false => rfl
 | true =>
  unfold agree
  simp only [h rfl, if_true]
end Go.BB
set_option linter.unusedSimpArgs false
set_option linter.unusedVariables false
namespace Go.BB
open Go Go.Proofs
set_option maxRecDepth 100000
theorem lim_mul {n b : Nat} (h : n < 2000000) (hb : b ≤ 1000) : n * b ≤ LIM := Nat.le_trans (Nat.mul_le_mul (Nat.le_of_lt h) hb) (by decide)
theorem lim_le {n : Nat} (h : n < 2000000) : n ≤ LIM := Nat.le_trans (Nat.le_of_lt h) (by decide)
theorem emod_tmod (k n : Int) (h1 : 0 < n) : (k.tmod n < 0 ∧ k.tmod n + n = k % n) ∨ (¬ k.tmod n < 0 ∧ k.tmod n = k % n) := by
 have hm := Int.emod_nonneg k (show n ≠ 0 by omega)
 have hm2 := Int.emod_lt_of_pos k h1
 have hl : -n < k.tmod n ∧ k.tmod n < n := ⟨Int.lt_tmod_of_pos k h1, Int.tmod_lt_of_pos k h1⟩
 have he : k.tmod n = k % n ∨ k.tmod n = k % n - n := by
  rw [Int.tmod_eq_emod]
  split
  ·left; omega
  ·right
   have : (n.natAbs : Int) = n := by omega
   omega
 omega
theorem v_within : Valid Try.prog n_within c_within := by
 refine valid_fn mixed hf_within (by kernel_rfl) rfl (ts := tmpsOf f_within.results.toList) (by kernel_rfl) (cfg := cfgW g_within) tt_ok Γok_nil within_tm c_within (by kernel_rfl) (fun _ _ _ _ => ⟨⟩) ?_
 rintro ⟨(k : Int), (n : Int), ⟨⟩⟩ r u h
 obtain ⟨h1, h2⟩ := grd_some h
 simp only at h1 h2
 refine ⟨0, (within_rn _ _ _).trans (Eq.trans ?_ (congrArg some h2))⟩
 simp only [Bool.and_eq_true, decide_eq_true_eq] at h1
 have hm := Int.emod_nonneg k (show n ≠ 0 by omega)
 have hm2 := Int.emod_lt_of_pos k h1.1
 unfold within_P
 rw [br_t (by simp [show ¬ n = 0 by omega])]
 rcases emod_tmod k n h1.1 with ⟨h3, h4⟩ | ⟨h3, h4⟩
 ·rw [br_dt h3, h4, wrapI (by omega) (by omega)]
  rfl
 ·rw [br_df h3, h4]
  rfl
theorem v_digit : Valid Try.prog n_digit c_digit := by
 refine valid_fn mixed hf_digit (by kernel_rfl) rfl (ts := tmpsOf f_digit.results.toList) (by kernel_rfl) (cfg := cfgW g_digit) tt_ok (Γok_cons v_within Γok_nil) digit_tm c_digit (by kernel_rfl) (fun _ _ _ _ => ⟨⟩) ?_
 rintro ⟨(k : Int), (d : Int), (n : Int), ⟨⟩⟩ r u h
 obtain ⟨h1, h2⟩ := grd_some h
 simp only at h1 h2
 refine ⟨0, (digit_rn _ _ _ _).trans (Eq.trans ?_ (congrArg some h2))⟩
 simp only [Bool.and_eq_true, decide_eq_true_eq] at h1
 unfold digit_P
 rw [br_t (by simp [show ¬ d = 0 by omega]), bd_grd (by simp [h1.2.1, h1.2.2])]
 rfl
theorem v_ati : Valid Try.prog n_ati c_ati := by
 refine valid_fn mixed hf_ati (by kernel_rfl) rfl (ts := tmpsOf f_ati.results.toList) (by kernel_rfl) (cfg := cfgW g_ati) tt_ok Γok_nil ati_tm c_ati (by kernel_rfl) (fun _ _ _ _ => ⟨⟩) ?_
 rintro ⟨(ks : List Int), (i : Int), ⟨⟩⟩ r u h
 refine ⟨0, (ati_rn _ _ _).trans (Eq.trans ?_ h)⟩
 unfold ati_P
 show _ = some ((atS ks i, ()), ((), (), ()))
 unfold atS
 by_cases h1 : i < 0
 ·rw [br_dt h1, if_neg (by omega)]
 ·rw [br_df h1, if_pos (by omega)]
  by_cases h2 : i ≥ (ks.length : Int)
  ·rw [br_dt h2, List.getD_eq_getElem?_getD, List.getElem?_eq_none (by omega)]; rfl
  ·rw [br_df h2, br_dt (by omega), br_dt (by omega)]
theorem v_cloneBits : Valid Try.prog n_cloneBits c_cloneBits := by
 refine valid_fn mixed hf_cloneBits (by kernel_rfl) rfl (ts := tmpsOf f_cloneBits.results.toList) (by kernel_rfl) (cfg := cfgW g_cloneBits) tt_ok Γok_nil cloneBits_tm c_cloneBits (by kernel_rfl) (fun _ _ _ _ => ⟨⟩) ?_
 rintro ⟨(l : List Bool), ⟨⟩⟩ r u h
 obtain ⟨h1, h2⟩ := grd_some h
 simp only at h1 h2
 refine ⟨0, (cloneBits_rn _ l).trans (Eq.trans ?_ (congrArg some h2))⟩
 have hl := of_decide_eq_true h1
 unfold cloneBits_P
 rw [br_dt (lim_mul (by omega) (by decide)), br_dt (lim_le (by omega))]
 refine mayB_of fun he => ?_
 cases l with
 | nil => rfl
 | cons a l => cases he
theorem v_cloneWords : Valid Try.prog n_cloneWords c_cloneWords := by
 refine valid_fn mixed hf_cloneWords (by kernel_rfl) rfl (ts := tmpsOf f_cloneWords.results.toList) (by kernel_rfl) (cfg := cfgW g_cloneWords) tt_ok Γok_nil cloneWords_tm c_cloneWords (by kernel_rfl) (fun _ _ _ _ => ⟨⟩) ?_
 rintro ⟨(l : List Int), ⟨⟩⟩ r u h
 obtain ⟨h1, h2⟩ := grd_some h
 simp only at h1 h2
 refine ⟨0, (cloneWords_rn _ l).trans (Eq.trans ?_ (congrArg some h2))⟩
 have hl := of_decide_eq_true h1
 unfold cloneWords_P
 rw [br_dt (lim_mul (by omega) (by decide)), br_dt (lim_le (by omega))]
 refine mayB_of fun he => ?_
 cases l with
 | nil => rfl
 | cons a l => cases he
theorem v_cloneCells : Valid Try.prog n_cloneCells c_cloneCells := by
 refine valid_fn mixed hf_cloneCells (by kernel_rfl) rfl (ts := tmpsOf f_cloneCells.results.toList) (by kernel_rfl) (cfg := cfgW g_cloneCells) tt_ok Γok_nil cloneCells_tm c_cloneCells (by kernel_rfl) (fun _ _ _ _ => ⟨⟩) ?_
 rintro ⟨(l : List ((Int × Int) × Int)), ⟨⟩⟩ r u h
 obtain ⟨h1, h2⟩ := grd_some h
 simp only at h1 h2
 refine ⟨0, (cloneCells_rn _ l).trans (Eq.trans ?_ (congrArg some h2))⟩
 have hl := of_decide_eq_true h1
 unfold cloneCells_P
 rw [br_dt (lim_mul (by omega) (by decide)), br_dt (lim_le (by omega))]
 refine mayB_of fun he => ?_
 cases l with
 | nil => rfl
 | cons a l => cases he
end Go.BB
set_option linter.unusedVariables false
namespace Go.BB
open Go Go.Proofs
set_option maxRecDepth 100000
set_option exponentiation.threshold 100000
noncomputable section
abbrev g_ckey : List (Nat × Ctr O0) := []
def ckey_tm : List Tm := []
def ckey_P (K : Nat) (a0 : Int × Int) : Option ((Bool × Unit) × Unit × Unit) := br (decide (a0.1 ≥ (0 : Int))) (br (decide (a0.1 < (4 : Int))) (br (decide (a0.2 ≥ (0 : Int))) (some ((decide (a0.2 < (65536 : Int)), ()), (), ())) (some ((false, ()), (), ()))) (some ((false, ()), (), ()))) (some ((false, ()), (), ()))
theorem ckey_rn (K : Nat) (a0 : Int × Int) : runF (cfgW g_ckey) K f_ckey ckey_tm [.val tKey] [.val .bool] (a0, ()) = ckey_P K a0 := by kernel_rfl
end
end Go.BB
set_option linter.unusedVariables false
namespace Go.BB
open Go Go.Proofs
set_option maxRecDepth 100000
set_option exponentiation.threshold 100000
noncomputable section
end
end Go.BB
set_option linter.unusedSimpArgs false
set_option linter.unusedVariables false
namespace Go.BB
open Go
theorem minI_eq (a b : Int) : minI a b = min a b := by unfold minI; omega
theorem drop_cons {α : Type} (l : List α) (i : Nat) (z : α) (h : i < l.length) : l.drop i = l.getD i z :: l.drop (i + 1) := by
 rw [List.drop_eq_getElem_cons h, List.getD_eq_getElem?_getD, List.getElem?_eq_getElem h]; rfl
theorem take_snoc {α : Type} (l : List α) (i : Nat) (z : α) (h : i < l.length) : l.take (i + 1) = l.take i ++ [l.getD i z] := by
 rw [List.take_add_one, List.getD_eq_getElem?_getD, List.getElem?_eq_getElem h]; rfl
theorem lenOk_of {α : Type} {l : List α} (h : l.length < 1000000) : lenOk l = true := by simp [lenOk, h]
theorem lenOk_lt {α : Type} {l : List α} (h : lenOk l = true) : l.length < 1000000 := by simpa [lenOk] using h
theorem digitS_range (k d : Int) {n : Int} (h : 0 < n) : 0 ≤ digitS k d n ∧ digitS k d n < n := ⟨Int.emod_nonneg _ (by omega), Int.emod_lt_of_pos _ h⟩
end Go.BB
set_option linter.unusedSimpArgs false
set_option linter.unusedVariables false
namespace Go.BB
open Go Go.Proofs
set_option maxRecDepth 100000
end Go.BB
set_option linter.unusedSimpArgs false
set_option linter.unusedVariables false
namespace Go.BB
open Go
theorem keyLt_iff {a b : Key} : keyLt a b = true ↔ a.1 < b.1 ∨ (a.1 = b.1 ∧ a.2 < b.2) := by simp [keyLt]
theorem keyLt_false {a b : Key} : keyLt a b = false ↔ ¬ (a.1 < b.1 ∨ (a.1 = b.1 ∧ a.2 < b.2)) := by rw [← keyLt_iff]; simp
theorem key_eq {a b : Key} (h1 : a.1 = b.1) (h2 : a.2 = b.2) : a = b := Prod.ext h1 h2
theorem keyLt_irrefl (a : Key) : keyLt a a = false := by rw [keyLt_false]; omega
theorem keyLt_trans {a b c : Key} (h1 : keyLt a b = true) (h2 : keyLt b c = true) : keyLt a c = true := by rw [keyLt_iff] at *; omega
theorem keyLt_asymm {a b : Key} (h1 : keyLt a b = true) : keyLt b a = false := by rw [keyLt_iff] at h1; rw [keyLt_false]; omega
theorem keyLt_total {a b : Key} (h1 : keyLt a b = false) (h2 : keyLt b a = false) : a = b := by
 rw [keyLt_false] at h1 h2
 exact key_eq (by omega) (by omega)
theorem keyLt_ne {a b : Key} (h : keyLt a b = true) : a ≠ b := by rintro rfl; rw [keyLt_irrefl] at h; cases h
theorem key_three (a b : Key) : (keyLt a b = true ∧ a ≠ b ∧ keyLt b a = false) ∨ (a = b ∧ keyLt a b = false) ∨ (keyLt a b = false ∧ a ≠ b ∧ keyLt b a = true) := by
 cases h : keyLt a b with
 | true => exact .inl ⟨rfl, keyLt_ne h, keyLt_asymm h⟩
 | false =>
  cases h2 : keyLt b a with
  | true => exact .inr (.inr ⟨rfl, fun e => keyLt_ne h2 e.symm, rfl⟩)
  | false => exact .inr (.inl ⟨keyLt_total h h2, rfl⟩)
theorem bufS_cons : ∀ {a : Cel} {l : List Cel}, bufS (a :: l) = true ↔ (∀ c ∈ l, keyLt a.1 c.1 = true) ∧ bufS l = true
 | a, [] => by simp [bufS]
 | a, b :: l => by
  have ih := bufS_cons (a := b) (l := l)
  simp only [bufS, Bool.and_eq_true]
  rw [ih]
  constructor
  ·rintro ⟨h1, h2, h3⟩
   refine ⟨fun c hc => ?_, h2, h3⟩
   rcases List.mem_cons.1 hc with rfl | hc
   ·exact h1
   ·exact keyLt_trans h1 (h2 c hc)
  ·rintro ⟨h1, h2, h3⟩
   exact ⟨h1 b List.mem_cons_self, h2, h3⟩
theorem bufS_lt : ∀ {l : List Cel}, bufS l = true → ∀ (i j : Nat) (z : Cel), i < j → j < l.length → keyLt (l.getD i z).1 (l.getD j z).1 = true
 | [], _, _, j, _, _, h => by simp at h
 | a :: l, hb, i, j, z, hij, hj => by
  rw [bufS_cons] at hb
  match i, j, hij with
  | 0, j + 1, _ =>
   simp only [List.getD_cons_zero, List.getD_cons_succ]
   refine hb.1 _ ?_
   rw [List.getD_eq_getElem?_getD, List.getElem?_eq_getElem (by simpa using hj)]
   exact List.getElem_mem _
  | i + 1, j + 1, hij => simpa using bufS_lt hb.2 i j z (by omega) (by simpa using hj)
theorem cntK_le : ∀ (l : List Cel) (k : Key), cntK l k ≤ l.length
 | [], _ => by simp [cntK]
 | a :: l, k => by
  have := cntK_le l k
  simp only [cntK, List.length_cons]
  split <;> omega
theorem cntK_lt : ∀ (l : List Cel) (k : Key) (i : Nat) (z : Cel), i < cntK l k → keyLt (l.getD i z).1 k = true
 | [], _, _, _, h => by simp [cntK] at h
 | a :: l, k, i, z, h => by
  simp only [cntK] at h
  split at h
  ·rename_i ha
   cases i with
   | zero => simpa using ha
   | succ i => simpa using cntK_lt l k i z (by omega)
  ·omega
theorem cntK_stop : ∀ (l : List Cel) (k : Key) (z : Cel), cntK l k < l.length → keyLt (l.getD (cntK l k) z).1 k = false
 | [], _, _, h => by simp [cntK] at h
 | a :: l, k, z, h => by
  simp only [cntK] at h ⊢
  split
  ·rename_i ha
   rw [if_pos ha] at h
   simpa using cntK_stop l k z (by simpa using h)
  ·rename_i ha
   simpa using ha
theorem cntK_iff {l : List Cel} (hb : bufS l = true) (k : Key) (i : Nat) (z : Cel) (hi : i < l.length) : keyLt (l.getD i z).1 k = true ↔ i < cntK l k := by
 constructor
 ·intro h
  apply Classical.byContradiction
  intro hn
  have hlt : cntK l k < l.length := by omega
  have hs := cntK_stop l k z hlt
  by_cases e : cntK l k = i
  ·rw [e, h] at hs; cases hs
  ·have := keyLt_trans (bufS_lt hb (cntK l k) i z (by omega) hi) h
   rw [this] at hs; cases hs
 ·exact cntK_lt l k i z
def putR : List Cel → Cel → List Cel
 | [], c => [c]
 | a :: l, c => if keyLt a.1 c.1 then a :: putR l c else if a.1 = c.1 then c :: l else c :: a :: l
def getR : List Cel → Key → Option Int
 | [], _ => none
 | a :: l, k => if keyLt a.1 k then getR l k else if a.1 = k then some a.2 else none
theorem hasK_cons_lt {a : Cel} {l : List Cel} {k : Key} (h : keyLt a.1 k = true) : hasK (a :: l) k = hasK l k := by
 simp [hasK, cntK, h]
theorem hasK_cons_ge {a : Cel} {l : List Cel} {k : Key} (h : keyLt a.1 k = false) : hasK (a :: l) k = decide (a.1 = k) := by
 simp [hasK, cntK, h]
theorem putK_eq : ∀ (l : List Cel) (c : Cel), putK l c = putR l c
 | [], c => by simp [putK, putR, cntK, hasK]
 | a :: l, c => by
  have ih := putK_eq l c
  unfold putK at ih ⊢
  cases h : keyLt a.1 c.1 with
  | true =>
   rw [hasK_cons_lt h]
   simp only [cntK, putR, h, if_true, List.take_succ_cons]
   rw [← ih]
   cases hasK l c.1 <;> simp
  | false =>
   rw [hasK_cons_ge h]
   simp only [cntK, putR, h]
   by_cases e : a.1 = c.1
   ·simp [e]
   ·simp [e]
theorem getK_eq : ∀ (l : List Cel) (k : Key), getK l k = match getR l k with | some v => (v, true) | none => (0, false)
 | [], k => by simp [getK, getR, hasK, cntK]
 | a :: l, k => by
  have ih := getK_eq l k
  unfold getK at ih ⊢
  cases h : keyLt a.1 k with
  | true =>
   rw [hasK_cons_lt h]
   simp only [cntK, getR, h, if_true, List.getD_cons_succ]
   exact ih
  | false =>
   rw [hasK_cons_ge h]
   simp only [cntK, getR, h]
   by_cases e : a.1 = k <;> simp [e]
theorem mem_putR {x : Cel} : ∀ {l : List Cel} {c : Cel}, x ∈ putR l c → x = c ∨ x ∈ l
 | [], c, h => by simp [putR] at h; exact .inl h
 | a :: l, c, h => by
  simp only [putR] at h
  split at h
  ·rcases List.mem_cons.1 h with h | h
   ·exact .inr (h ▸ List.mem_cons_self)
   ·rcases mem_putR h with h | h
    ·exact .inl h
    ·exact .inr (List.mem_cons_of_mem _ h)
  ·split at h
   ·rcases List.mem_cons.1 h with h | h
    ·exact .inl h
    ·exact .inr (List.mem_cons_of_mem _ h)
   ·rcases List.mem_cons.1 h with h | h
    ·exact .inl h
    ·exact .inr h
theorem bufS_put : ∀ {l : List Cel} (c : Cel), bufS l = true → bufS (putR l c) = true
 | [], c, _ => rfl
 | a :: l, c, h => by
  have h' := bufS_cons.1 h
  simp only [putR]
  split
  ·rename_i ha
   refine bufS_cons.2 ⟨fun x hx => ?_, bufS_put c h'.2⟩
   rcases mem_putR hx with rfl | hx
   ·exact ha
   ·exact h'.1 x hx
  ·rename_i ha
   split
   ·rename_i e
    refine bufS_cons.2 ⟨fun x hx => ?_, h'.2⟩
    rw [← e]; exact h'.1 x hx
   ·rename_i e
    have hca : keyLt c.1 a.1 = true := by
     rcases key_three a.1 c.1 with h | h | h
     ·exact absurd h.1 ha
     ·exact absurd h.1 e
     ·exact h.2.2
    refine bufS_cons.2 ⟨fun x hx => ?_, h⟩
    rcases List.mem_cons.1 hx with rfl | hx
    ·exact hca
    ·exact keyLt_trans hca (h'.1 x hx)
theorem getR_put : ∀ {l : List Cel} (c : Cel) (k : Key), bufS l = true → getR (putR l c) k = if k = c.1 then some c.2 else getR l k
 | [], c, k, _ => by
  simp only [putR, getR]
  rcases key_three c.1 k with ⟨h1, h2, _⟩ | ⟨rfl, h1⟩ | ⟨h1, h2, _⟩
  ·simp [h1, h2.symm]
  ·simp [h1]
  ·simp [h1, h2, h2.symm]
 | a :: l, c, k, h => by
  have h' := bufS_cons.1 h
  have ih := getR_put (l := l) c k h'.2
  simp only [putR]
  rcases key_three a.1 c.1 with ⟨h1, h2, h3⟩ | ⟨h1, h2⟩ | ⟨h1, h2, h3⟩
  ·rw [if_pos h1]
   simp only [getR, ih]
   rcases key_three a.1 k with ⟨k1, k2, k3⟩ | ⟨k1, k2⟩ | ⟨k1, k2, k3⟩
   ·simp [k1]
   ·subst k1; simp [k2, h2]
   ·have : k ≠ c.1 := by rintro rfl; rw [h1] at k1; cases k1
    simp [k1, k2, this]
  ·rw [if_neg (by rw [h2]; decide), if_pos h1]
   simp only [getR]
   rw [← h1]
   rcases key_three a.1 k with ⟨k1, k2, k3⟩ | ⟨k1, k2⟩ | ⟨k1, k2, k3⟩
   ·simp [k1, k2.symm]
   ·subst k1; simp [k2]
   ·simp [k1, k2, k2.symm]
  ·rw [if_neg (by rw [h1]; decide), if_neg h2]
   simp only [getR]
   rcases key_three c.1 k with ⟨k1, k2, k3⟩ | ⟨k1, k2⟩ | ⟨k1, k2, k3⟩
   ·simp [k1, k2.symm]
   ·subst k1; simp [k2]
   ·have hka : keyLt k a.1 = true := keyLt_trans k3 h3
    simp [k1, k2, k2.symm, keyLt_asymm hka, (keyLt_ne hka).symm]
theorem putR_len : ∀ (l : List Cel) (c : Cel), (putR l c).length ≤ l.length + 1
 | [], _ => by simp [putR]
 | a :: l, c => by
  have := putR_len l c
  simp only [putR]
  split
  ·simp only [List.length_cons]; omega
  ·split <;> simp
def cellsR (ks : List Int) : List Cel := ks.foldl (fun l k => putR l (cellS k)) []
theorem cellsS_eq (ks : List Int) : cellsS ks = cellsR (ks.take 20) := by
 unfold cellsS cellsR
 congr 1
 funext l k
 exact putK_eq l _
theorem foldl_buf (ks : List Int) : ∀ l, bufS l = true → bufS (ks.foldl (fun l k => putR l (cellS k)) l) = true := by
 induction ks with
 | nil => intro l h; exact h
 | cons k ks ih => intro l h; exact ih _ (bufS_put _ h)
theorem foldl_len (ks : List Int) : ∀ l : List Cel, (ks.foldl (fun l k => putR l (cellS k)) l).length ≤ l.length + ks.length := by
 induction ks with
 | nil => intro l; simp
 | cons k ks ih =>
  intro l
  have h1 := ih (putR l (cellS k))
  have h2 := putR_len l (cellS k)
  simp only [List.foldl_cons, List.length_cons]
  omega
theorem cellsS_len (ks : List Int) : (cellsS ks).length ≤ 20 := by
 rw [cellsS_eq]
 have := foldl_len (ks.take 20) []
 unfold cellsR
 simp at this
 omega
theorem keyS_ok (k : Int) : 0 ≤ (keyS k).1 ∧ (keyS k).1 < 4 ∧ 0 ≤ (keyS k).2 ∧ (keyS k).2 < 65536 := by
 have h1 := Int.emod_nonneg k (show (4 : Int) ≠ 0 by decide)
 have h2 := Int.emod_lt_of_pos k (show (0 : Int) < 4 by decide)
 have h3 := digitS_range k 4 (n := 16) (by decide)
 unfold keyS
 simp only
 split <;> omega
theorem spanR_iff {s : Spn} : spanR s = true ↔ 0 ≤ s.1 ∧ s.1 < 4 ∧ 0 ≤ s.2.1 ∧ s.2.2 ≤ 65536 ∧ s.2.1 < s.2.2 := by simp [spanR]
end Go.BB
namespace Go.BB
open Go
theorem eqK_iff {a b : Key} : eqK a b = true ↔ a = b := by
 show (eqI a.1 b.1 && eqI a.2 b.2) = true ↔ _
 simp only [Bool.and_eq_true, eqI, beq_iff_eq]
 exact ⟨fun h => Prod.ext h.1 h.2, fun h => by subst h; exact ⟨rfl, rfl⟩⟩
theorem eqK_false {a b : Key} : eqK a b = false ↔ a ≠ b := by
 rw [← Bool.not_eq_true, eqK_iff]
structure StoOk (s : Sto) : Prop where
 u : 0 ≤ s.1 ∧ s.1 ≤ 18446744073709551615
 n : 0 ≤ s.2.1 ∧ s.2.1 ≤ s.2.2.1
 most : s.2.2.1 ≤ 1048576
 few : s.2.1 ≤ 500000
 len : (chsLen s.2.2.2.1 : Int) = s.2.1
 rows : ∀ p ∈ s.2.2.2.1, rightFrom 0 p.2 = true ∧ newS p.2 ≤ s.1
end Go.BB
set_option linter.unusedSimpArgs false
set_option linter.unusedVariables false
namespace Go.BB
open Go Go.Proofs
set_option maxRecDepth 100000
theorem v_ckey : Valid Try.prog n_ckey c_ckey := by
 refine valid_fn mixed hf_ckey (by kernel_rfl) rfl (ts := tmpsOf f_ckey.results.toList) (by kernel_rfl) (cfg := cfgW g_ckey) tt_ok Γok_nil ckey_tm c_ckey (by kernel_rfl) (fun _ _ _ _ => ⟨⟩) ?_
 rintro ⟨(k : Key), ⟨⟩⟩ r u h
 refine ⟨0, (ckey_rn _ _).trans (Eq.trans ?_ h)⟩
 show ckey_P 0 k = some ((keyR k, ()), ((), ()))
 unfold ckey_P keyR
 simp only [br_ite, ge_iff_le]
 by_cases h1 : 0 ≤ k.1 <;> by_cases h2 : k.1 < 4 <;> by_cases h3 : 0 ≤ k.2 <;> simp [h1, h2, h3]
end Go.BB
set_option linter.unusedSimpArgs false
set_option linter.unusedVariables false
namespace Go.BB
open Go
end Go.BB
set_option linter.unusedSimpArgs false
set_option linter.unusedVariables false
namespace Go.BB
open Go
theorem sortR_snoc (l : List Deed) (x : Deed) : sortR (l ++ [x]) = insD x (sortR l) := by simp [sortR]
theorem insD_len (x : Deed) : ∀ r, (insD x r).length = r.length + 1
 | [] => rfl
 | a :: r => by
  unfold insD
  split
  ·simp [insD_len x r]
  ·simp
theorem sortR_len (l : List Deed) : (sortR l).length = l.length := by
 have : ∀ (l : List Deed) (r : List Deed), (l.foldl (fun r x => insD x r) r).length = r.length + l.length := by
  intro l
  induction l with
  | nil => intro r; simp
  | cons a l ih => intro r; rw [List.foldl_cons, ih, insD_len]; simp; omega
 have h := this l []
 simpa [sortR] using h
theorem sortD_len (l : List Deed) : (sortD l).length = l.length := by unfold sortD; rw [List.length_reverse, sortR_len]
theorem sortSeg_len (l : List Deed) {a b : Int} (h0 : 0 ≤ a) (h1 : a ≤ b) (h2 : b ≤ l.length) : (sortSeg l a b).length = l.length := by
 unfold sortSeg
 simp only [List.length_append, List.length_take, List.length_drop, sortD_len]
 omega
theorem sortSeg_all (l : List Deed) : sortSeg l 0 l.length = sortD l := by
 unfold sortSeg
 simp
theorem sortSeg_none (l : List Deed) {a : Int} (h : 0 ≤ a) : sortSeg l a a = l := by
 unfold sortSeg
 rw [Int.sub_self]
 show l.take a.toNat ++ (sortD [] ++ _) = l
 show l.take a.toNat ++ ([] ++ l.drop a.toNat) = l
 rw [List.nil_append, List.take_append_drop]
def insRow (P : List Deed) (r : List Deed) (x : Deed) (M : List Deed) : List Deed := (P ++ r.reverse) ++ x :: M
theorem insRow_swap (P r M : List Deed) (x c : Deed) (z : Deed) :
  (insRow P (c :: r) x M).getD (P.length + (r.length + 1)) z = x ∧ (insRow P (c :: r) x M).getD (P.length + r.length) z = c ∧
  ((insRow P (c :: r) x M).set (P.length + (r.length + 1)) c).set (P.length + r.length) x = insRow P r x (c :: M) := by
 have e : insRow P (c :: r) x M = (P ++ r.reverse) ++ c :: x :: M := by simp [insRow]
 have hl : P.length + r.length = (P ++ r.reverse).length := by simp
 have hl2 : P.length + (r.length + 1) = (P ++ r.reverse).length + 1 := by simp; omega
 have e2 : insRow P r x (c :: M) = (P ++ r.reverse) ++ x :: c :: M := rfl
 rw [e, e2, hl, hl2]
 generalize P ++ r.reverse = L
 refine ⟨?_, ?_, ?_⟩
 ·rw [getD_app_ge _ _ _ _ (by omega), show L.length + 1 - L.length = 1 by omega]; rfl
 ·rw [getD_app_ge _ _ _ _ (by omega), Nat.sub_self]; rfl
 ·rw [List.set_append_right _ _ (by omega), List.set_append_right _ _ (by omega), show L.length + 1 - L.length = 1 by omega, Nat.sub_self]
  rfl
theorem set_same {α : Type} {l : List α} {i : Nat} {z : α} (h : i < l.length) : l.set i (l.getD i z) = l := by
 rw [List.getD_eq_getElem?_getD, List.getElem?_eq_getElem h]
 exact List.set_getElem_self h
theorem deedOk_iff {d : Deed} : deedOk d = true ↔ d.2.2.1.length < 1000000 ∧ d.2.2.2.length < 1000000 ∧ ∀ s ∈ d.2.2.1, stepOk s = true := by
 unfold deedOk lenOk
 simp only [Bool.and_eq_true, decide_eq_true_eq, List.all_eq_true]
theorem stepOk_iff {s : StepT} : stepOk s = true ↔ s.1.2.2.2.2.2.2.1.length < 1000000 ∧ s.1.2.2.2.2.2.2.2.1.length < 1000000 ∧ s.2.2.2.1.length < 1000000 ∧ s.2.2.2.2.1.length < 1000000 ∧ s.2.2.2.2.2.2.2.2.2.2.2.2.2.2.length < 1000000 := by
 unfold stepOk lenOk
 simp only [Bool.and_eq_true, decide_eq_true_eq]
theorem mem_getD {α : Type} {l : List α} {i : Nat} {z : α} (h : i < l.length) : l.getD i z ∈ l := by
 rw [List.getD_eq_getElem?_getD, List.getElem?_eq_getElem h]; exact List.getElem_mem h
end Go.BB
