/- A symbolic machine for the model's code, and what it shows of this seat's functions. No conditions. -/
import Derived.Test.YtnofmeckcimodaaCN
import Derived.Test.YtnofmeckcimodaaCSStore
import Derived.Test.YtnofmeckcimodaaCLem
set_option linter.unusedSimpArgs false
set_option linter.unusedVariables false
namespace Go.BB
open Go Go.Proofs
set_option maxRecDepth 100000
set_option exponentiation.threshold 100000
noncomputable section
abbrev g_upto : List (Nat × Ctr O0) := []
def upto_tm : List Tm := [[((0 : Nat), none, Sh.val ((Ty.int IntKind.u64).pair (Ty.int IntKind.u16)).slice), ((1 : Nat), none, Sh.val (Ty.int IntKind.u64)),
    ((5 : Nat), none, Sh.val (Ty.int IntKind.i64)), ((6 : Nat), none, Sh.val (Ty.int IntKind.i64))]]
def upto_L1 (rec1 : List (Int × Int) × Int × Int × Int × Unit →
  Option
    ((Int × Unit) ×
      Unit ×
        Unit × Unit)) : List (Int × Int) × Int × Int × Int × Unit → Option ((Int × Unit) × Unit × Unit × Unit) := fun (y3, y4, y5, y6, ()) =>
  br (decide (y5 < y6))
  (br (decide ((0 : Int) ≤ (IntKind.i64.wrap (y5 + y6)).fdiv ((2 : Int) ^ min (Int.toNat (1 : Int)) (64 : Nat))))
    (br (decide ((IntKind.i64.wrap (y5 + y6)).fdiv ((2 : Int) ^ min (Int.toNat (1 : Int)) (64 : Nat)) < (↑y3.length : Int)))
      (br
        (decide
          ((y3.getD ((IntKind.i64.wrap (y5 + y6)).fdiv ((2 : Int) ^ min (Int.toNat (1 : Int)) (64 : Nat))).toNat ((0 : Int), (0 : Int))).1 ≤ y4))
        (rec1
          (y3, y4, IntKind.i64.wrap ((IntKind.i64.wrap (y5 + y6)).fdiv ((2 : Int) ^ min (Int.toNat (1 : Int)) (64 : Nat)) + (1 : Int)), y6,
            ()))
        (rec1 (y3, y4, y5, (IntKind.i64.wrap (y5 + y6)).fdiv ((2 : Int) ^ min (Int.toNat (1 : Int)) (64 : Nat)), ())))
      none)
    none)
  (some ((y5, ()), (), (), ()))
def upto_P (K : Nat) (a0 : List (Int × Int)) (a1 : Int) : Option ((Int × Unit) × Unit × Unit × Unit) :=
  loopN upto_L1 K (a0, a1, (0 : Int), (↑a0.length : Int), ())
theorem upto_rn (K : Nat) (a0 : List
  (Int × Int)) (a1 : Int) : runF (cfgW g_upto) K f_upto upto_tm [.val (.slice tVer), .val tU] [.val tI] (a0, a1, ()) = upto_P K a0 a1 := by kernel_rfl
abbrev g_chainAt : List (Nat × Ctr O0) := [(n_upto, c_upto)]
def chainAt_tm : List Tm := []
def chainAt_P (K : Nat) (a0 : List (Int × Int)) (a1 : Int) : Option ((Int × Unit) × Unit × Unit × Unit) :=
  bd (grd (lenOk a0 && rightFrom (0 : Int) a0) (((↑(cnt a0 a1) : Int), ()), (), (), ()))
  fun (x1 : (Int × Unit) × Unit × Unit × Unit) =>
  br (x1.1.1 == (0 : Int)) (some (((0 : Int), ()), (), (), ()))
    (br (decide ((0 : Int) ≤ IntKind.i64.wrap (x1.1.1 - (1 : Int))))
      (br (decide (IntKind.i64.wrap (x1.1.1 - (1 : Int)) < (↑a0.length : Int)))
        (some (((a0.getD (IntKind.i64.wrap (x1.1.1 - (1 : Int))).toNat ((0 : Int), (0 : Int))).2, ()), (), (), ()))
        none)
      none)
theorem chainAt_rn (K : Nat) (a0 : List
  (Int ×
    Int)) (a1 : Int) : runF (cfgW g_chainAt) K f_chainAt chainAt_tm [.val (.slice tVer), .val tU] [.val tW] (a0, a1, ()) = chainAt_P K a0 a1 := by kernel_rfl
abbrev g_rchainAt : List (Nat × Ctr O0) := []
def rchainAt_tm : List Tm := [[((0 : Nat), none, Sh.val ((Ty.int IntKind.u64).pair (Ty.int IntKind.u16)).slice), ((1 : Nat), none, Sh.val (Ty.int IntKind.u64)),
    ((5 : Nat), none, Sh.val (Ty.int IntKind.u16)), ((6 : Nat), none, Sh.val (Ty.int IntKind.i64))]]
def rchainAt_L1 (rec1 : List (Int × Int) × Int × Int × Int × Unit →
  Option
    ((Int × Unit) ×
      Unit ×
        Unit × Unit)) : List (Int × Int) × Int × Int × Int × Unit → Option ((Int × Unit) × Unit × Unit × Unit) := fun (y3, y4, y5, y6, ()) =>
  br (decide (y6 < (↑y3.length : Int)))
  (br (decide ((0 : Int) ≤ y6))
    (br (decide (y6 < (↑y3.length : Int)))
      (br (decide ((y3.getD y6.toNat ((0 : Int), (0 : Int))).1 ≤ y4))
        (br (decide ((0 : Int) ≤ y6))
          (br (decide (y6 < (↑y3.length : Int)))
            (rec1 (y3, y4, (y3.getD y6.toNat ((0 : Int), (0 : Int))).2, IntKind.i64.wrap (y6 + (1 : Int)), ())) none)
          none)
        (some ((y5, ()), (), (), ())))
      none)
    none)
  (some ((y5, ()), (), (), ()))
def rchainAt_P (K : Nat) (a0 : List (Int × Int)) (a1 : Int) : Option ((Int × Unit) × Unit × Unit × Unit) :=
  loopN rchainAt_L1 K (a0, a1, (0 : Int), (0 : Int), ())
theorem rchainAt_rn (K : Nat) (a0 : List
  (Int ×
    Int)) (a1 : Int) : runF (cfgW g_rchainAt) K f_rchainAt rchainAt_tm [.val (.slice tVer), .val tU] [.val tW] (a0, a1, ()) = rchainAt_P K a0 a1 := by kernel_rfl
abbrev g_newest : List (Nat × Ctr O0) := []
def newest_tm : List Tm := []
def newest_P (K : Nat) (a0 : List (Int × Int)) : Option ((Int × Unit) × Unit × Unit) :=
  br ((↑a0.length : Int) == (0 : Int)) (some (((0 : Int), ()), (), ()))
  (br (decide ((0 : Int) ≤ IntKind.i64.wrap ((↑a0.length : Int) - (1 : Int))))
    (br (decide (IntKind.i64.wrap ((↑a0.length : Int) - (1 : Int)) < (↑a0.length : Int)))
      (some (((a0.getD (IntKind.i64.wrap ((↑a0.length : Int) - (1 : Int))).toNat ((0 : Int), (0 : Int))).1, ()), (), ()))
      none)
    none)
theorem newest_rn (K : Nat) (a0 : List
  (Int × Int)) : runF (cfgW g_newest) K f_newest newest_tm [.val (.slice tVer)] [.val tU] (a0, ()) = newest_P K a0 := by kernel_rfl
abbrev g_rnewest : List (Nat × Ctr O0) := []
def rnewest_tm : List Tm := []
def rnewest_P (K : Nat) (a0 : List (Int × Int)) : Option ((Int × Unit) × Unit × Unit) :=
  br ((↑a0.length : Int) == (0 : Int)) (some (((0 : Int), ()), (), ()))
  (br (decide ((0 : Int) ≤ IntKind.i64.wrap ((↑a0.length : Int) - (1 : Int))))
    (br (decide (IntKind.i64.wrap ((↑a0.length : Int) - (1 : Int)) < (↑a0.length : Int)))
      (some (((a0.getD (IntKind.i64.wrap ((↑a0.length : Int) - (1 : Int))).toNat ((0 : Int), (0 : Int))).1, ()), (), ()))
      none)
    none)
theorem rnewest_rn (K : Nat) (a0 : List
  (Int × Int)) : runF (cfgW g_rnewest) K f_rnewest rnewest_tm [.val (.slice tVer)] [.val tU] (a0, ()) = rnewest_P K a0 := by kernel_rfl
abbrev g_rchainAdd : List (Nat × Ctr O0) := [(n_rnewest, c_rnewest)]
def rchainAdd_tm : List Tm := []
def rchainAdd_P (K : Nat) (a0 : List (Int × Int)) (a1 : Int × Int) : Option ((List (Int × Int) × Int × Unit) × Unit × Unit × Unit) :=
  bd (grd (lenOk a0) ((newS a0, ()), (), ())) fun (x1 : (Int × Unit) × Unit × Unit) =>
  br (decide (a1.1 ≤ x1.1.1)) (some (([], (1 : Int), ()), (), (), ()))
    (br (decide (a0.length * (16 : Nat) ≤ LIM))
      (br (decide (a0.length ≤ LIM))
        (br (decide ((a0.length + [(a1.1, a1.2)].length) * (16 : Nat) ≤ LIM))
          (br (decide (a0.length + [(a1.1, a1.2)].length ≤ LIM))
            (some ((cat a0 [(a1.1, a1.2)], (0 : Int), ()), (), (), ())) none)
          none)
        none)
      none)
theorem rchainAdd_rn (K : Nat) (a0 : List
  (Int ×
    Int)) (a1 : Int ×
  Int) : runF (cfgW g_rchainAdd) K f_rchainAdd rchainAdd_tm [.val (.slice tVer), .val tVer] [.own tVer, .val tI] (a0, a1, ()) = rchainAdd_P K a0 a1 := by kernel_rfl
abbrev g_trim : List (Nat × Ctr O0) := [(n_upto, c_upto), (n_cloneVersions, c_cloneVersions)]
def trim_tm : List Tm := []
def trim_P (K : Nat) (a0 : List (Int × Int)) (a1 : Int) : Option ((List (Int × Int) × Unit) × Unit × Unit × Unit) :=
  bd (grd (lenOk a0 && rightFrom (0 : Int) a0) (((↑(cnt a0 a1) : Int), ()), (), (), ()))
  fun (x1 : (Int × Unit) × Unit × Unit × Unit) =>
  br (decide ((0 : Int) ≤ maxI (IntKind.i64.wrap (x1.1.1 - (1 : Int))) (0 : Int)))
    (br (decide (maxI (IntKind.i64.wrap (x1.1.1 - (1 : Int))) (0 : Int) ≤ (↑a0.length : Int)))
      (bd
        (grd
          (decide
            ((List.take (a0.length - (maxI (IntKind.i64.wrap (x1.1.1 - (1 : Int))) (0 : Int)).toNat)
                  (List.drop (maxI (IntKind.i64.wrap (x1.1.1 - (1 : Int))) (0 : Int)).toNat a0)).length <
              (1000000 : Nat)))
          ((List.take (a0.length - (maxI (IntKind.i64.wrap (x1.1.1 - (1 : Int))) (0 : Int)).toNat)
                (List.drop (maxI (IntKind.i64.wrap (x1.1.1 - (1 : Int))) (0 : Int)).toNat a0),
              ()),
            (), ()))
        fun (x2 : (List (Int × Int) × Unit) × Unit × Unit) => some ((x2.1.1, ()), (), (), ()))
      none)
    none
theorem trim_rn (K : Nat) (a0 : List
  (Int ×
    Int)) (a1 : Int) : runF (cfgW g_trim) K f_trim trim_tm [.val (.slice tVer), .val tU] [.own tVer] (a0, a1, ()) = trim_P K a0 a1 := by kernel_rfl
abbrev g_rtrim : List (Nat × Ctr O0) := []
def rtrim_tm : List Tm := [[((0 : Nat), none, Sh.val ((Ty.int IntKind.u64).pair (Ty.int IntKind.u16)).slice), ((1 : Nat), none, Sh.val (Ty.int IntKind.u64)),
    ((5 : Nat), none, Sh.own ((Ty.int IntKind.u64).pair (Ty.int IntKind.u16))), ((6 : Nat), none, Sh.val (Ty.int IntKind.i64))]]
def rtrim_L1 (rec1 : List (Int × Int) × Int × List (Int × Int) × Int × Unit →
  Option
    ((List (Int × Int) × Unit) ×
      Unit ×
        Unit ×
          Unit)) : List (Int × Int) × Int × List (Int × Int) × Int × Unit →
  Option ((List (Int × Int) × Unit) × Unit × Unit × Unit) := fun (y3, y4, y5, y6, ()) =>
  br (decide (y6 < (↑y3.length : Int)))
  (br (decide (IntKind.i64.wrap (y6 + (1 : Int)) < (↑y3.length : Int)))
    (br (decide ((0 : Int) ≤ IntKind.i64.wrap (y6 + (1 : Int))))
      (br (decide (IntKind.i64.wrap (y6 + (1 : Int)) < (↑y3.length : Int)))
        (br (decide ((y3.getD (IntKind.i64.wrap (y6 + (1 : Int))).toNat ((0 : Int), (0 : Int))).1 ≤ y4))
          (rec1 (y3, y4, y5, IntKind.i64.wrap (y6 + (1 : Int)), ()))
          (br (decide ((0 : Int) ≤ y6))
            (br (decide (y6 < (↑y3.length : Int)))
              (br
                (decide
                  ((y5.length + [((y3.getD y6.toNat ((0 : Int), (0 : Int))).1, (y3.getD y6.toNat ((0 : Int), (0 : Int))).2)].length) * (16 : Nat) ≤
                    LIM))
                (br (decide (y5.length + [((y3.getD y6.toNat ((0 : Int), (0 : Int))).1, (y3.getD y6.toNat ((0 : Int), (0 : Int))).2)].length ≤ LIM))
                  (rec1
                    (y3, y4, cat y5 [((y3.getD y6.toNat ((0 : Int), (0 : Int))).1, (y3.getD y6.toNat ((0 : Int), (0 : Int))).2)],
                      IntKind.i64.wrap (y6 + (1 : Int)), ()))
                  none)
                none)
              none)
            none))
        none)
      none)
    (br (decide ((0 : Int) ≤ y6))
      (br (decide (y6 < (↑y3.length : Int)))
        (br
          (decide
            ((y5.length + [((y3.getD y6.toNat ((0 : Int), (0 : Int))).1, (y3.getD y6.toNat ((0 : Int), (0 : Int))).2)].length) * (16 : Nat) ≤ LIM))
          (br (decide (y5.length + [((y3.getD y6.toNat ((0 : Int), (0 : Int))).1, (y3.getD y6.toNat ((0 : Int), (0 : Int))).2)].length ≤ LIM))
            (rec1
              (y3, y4, cat y5 [((y3.getD y6.toNat ((0 : Int), (0 : Int))).1, (y3.getD y6.toNat ((0 : Int), (0 : Int))).2)],
                IntKind.i64.wrap (y6 + (1 : Int)), ()))
            none)
          none)
        none)
      none))
  (some ((y5, ()), (), (), ()))
def rtrim_P (K : Nat) (a0 : List (Int × Int)) (a1 : Int) : Option ((List (Int × Int) × Unit) × Unit × Unit × Unit) :=
  loopN rtrim_L1 K (a0, a1, [], (0 : Int), ())
theorem rtrim_rn (K : Nat) (a0 : List
  (Int ×
    Int)) (a1 : Int) : runF (cfgW g_rtrim) K f_rtrim rtrim_tm [.val (.slice tVer), .val tU] [.own tVer] (a0, a1, ()) = rtrim_P K a0 a1 := by kernel_rfl
end
end Go.BB
set_option linter.unusedSimpArgs false
set_option linter.unusedVariables false
namespace Go.BB
open Go
theorem sh1 (x : Int) : x.fdiv ((2 : Int) ^ min (Int.toNat (1 : Int)) (64 : Nat)) = x / 2 := by
  rw [show ((2 : Int) ^ min (Int.toNat (1 : Int)) (64 : Nat)) = 2 by decide]
  exact Int.fdiv_eq_ediv_of_nonneg _ (by decide)
theorem maxI_eq (a b : Int) : maxI a b = max a b := by unfold maxI; omega
theorem minI_eq (a b : Int) : minI a b = min a b := by unfold minI; omega
theorem drop_cons {α : Type} (l : List α) (i : Nat) (z : α) (h : i < l.length) : l.drop i = l.getD i z :: l.drop (i + 1) := by
  rw [List.drop_eq_getElem_cons h, List.getD_eq_getElem?_getD, List.getElem?_eq_getElem h]; rfl
theorem take_snoc {α : Type} (l : List α) (i : Nat) (z : α) (h : i < l.length) : l.take (i + 1) = l.take i ++ [l.getD i z] := by
  rw [List.take_add_one, List.getD_eq_getElem?_getD, List.getElem?_eq_getElem h]; rfl
theorem rf_cons {a : Int} {v : Int × Int} {l : List (Int × Int)} : rightFrom a (v :: l) = true ↔ a < v.1 ∧ rightFrom v.1 l = true := by simp [rightFrom]
theorem rf_weaken : ∀ {l : List (Int × Int)} {a b : Int}, b ≤ a → rightFrom a l = true → rightFrom b l = true
  | [], _, _, _, _ => rfl
  | v :: l, a, b, h, hr => by rw [rf_cons] at hr ⊢; exact ⟨by omega, hr.2⟩
theorem rf_drop : ∀ {l : List (Int × Int)} {a : Int} (k : Nat), rightFrom a l = true → rightFrom a (l.drop k) = true
  | [], _, k, _ => by simp [rightFrom]
  | v :: l, a, 0, h => h
  | v :: l, a, k + 1, h => by
    rw [rf_cons] at h
    rw [List.drop_succ_cons]
    exact rf_weaken (by omega) (rf_drop k h.2)
theorem cnt_le : ∀ (l : List (Int × Int)) (q : Int), cnt l q ≤ l.length
  | [], _ => by simp [cnt]
  | v :: l, q => by
    have := cnt_le l q
    simp only [cnt, List.length_cons]
    split <;> omega
theorem cnt_lt : ∀ (l : List (Int × Int)) (q : Int) (i : Nat), i < cnt l q → (l.getD i (0, 0)).1 ≤ q
  | [], _, _, h => by simp [cnt] at h
  | v :: l, q, i, h => by
    simp only [cnt] at h
    split at h
    · cases i with
      | zero => simpa
      | succ i => simpa using cnt_lt l q i (by omega)
    · omega
theorem cnt_stop : ∀ (l : List (Int × Int)) (q : Int), cnt l q < l.length → ¬ (l.getD (cnt l q) (0, 0)).1 ≤ q
  | [], _, h => by simp [cnt] at h
  | v :: l, q, h => by
    simp only [cnt] at h ⊢
    split
    · rename_i hv
      rw [if_pos hv] at h
      simpa using cnt_stop l q (by simpa using h)
    · rename_i hv
      simpa using hv
theorem rf_ge : ∀ {l : List (Int × Int)} {a : Int}, rightFrom a l = true → ∀ i, i < l.length → a < (l.getD i (0, 0)).1
  | [], _, _, i, h => by simp at h
  | v :: l, a, hr, i, h => by
    rw [rf_cons] at hr
    cases i with
    | zero => simpa using hr.1
    | succ i =>
      have := rf_ge hr.2 i (by simpa using h)
      simp only [List.getD_cons_succ]
      omega
theorem cnt_iff : ∀ {l : List (Int × Int)} {a : Int}, rightFrom a l = true → ∀ (q : Int) (i : Nat), i < l.length → ((l.getD i (0, 0)).1 ≤ q ↔ i < cnt l q)
  | [], _, _, _, i, h => by simp at h
  | v :: l, a, hr, q, i, h => by
    rw [rf_cons] at hr
    simp only [cnt]
    cases i with
    | zero => split <;> simp <;> omega
    | succ i =>
      have ih := cnt_iff hr.2 q i (by simpa using h)
      have hg := rf_ge hr.2 i (by simpa using h)
      simp only [List.getD_cons_succ]
      split
      · rw [ih]; omega
      · omega
theorem cnt_mono : ∀ (l : List (Int × Int)) {p q : Int}, p ≤ q → cnt l p ≤ cnt l q
  | [], _, _, _ => by simp [cnt]
  | v :: l, p, q, h => by
    have := cnt_mono l h
    simp only [cnt]
    split <;> split <;> omega
theorem cnt_drop : ∀ (l : List (Int × Int)) (q : Int) (k : Nat), k ≤ cnt l q → cnt (l.drop k) q = cnt l q - k
  | l, q, 0, _ => by simp
  | [], q, k + 1, h => by simp [cnt] at h
  | v :: l, q, k + 1, h => by
    simp only [cnt] at h ⊢
    split at h
    · rename_i hv
      rw [if_pos hv, List.drop_succ_cons, cnt_drop l q k (by omega)]
      omega
    · omega
theorem atV_drop (l : List (Int × Int)) (q : Int) (k : Nat) (h : k < cnt l q ∨ k = 0) : atV (l.drop k) q = atV l q := by
  rcases h with h | rfl
  · unfold atV
    rw [cnt_drop l q k (by omega), if_neg (by omega), if_neg (by omega)]
    simp only [List.getD_eq_getElem?_getD, List.getElem?_drop]
    rw [show k + (cnt l q - k - 1) = cnt l q - 1 by omega]
  · simp
theorem cnt_snoc : ∀ (l : List (Int × Int)) (v : Int × Int) (q : Int), cnt (l ++ [v]) q = if cnt l q = l.length then (if v.1 ≤ q then l.length + 1 else l.length) else cnt l q
  | [], v, q => by simp [cnt]
  | u :: l, v, q => by
    have ih := cnt_snoc l v q
    have hle := cnt_le l q
    simp only [List.cons_append, cnt, List.length_cons, ih]
    by_cases hu : u.1 ≤ q
    · simp only [if_pos hu]
      by_cases hc : cnt l q = l.length
      · have hc' : cnt l q + 1 = l.length + 1 := by omega
        by_cases hv : v.1 ≤ q
        · simp only [if_pos hc, if_pos hc', if_pos hv]
        · simp only [if_pos hc, if_pos hc', if_neg hv]
      · have hc' : ¬ cnt l q + 1 = l.length + 1 := by omega
        simp only [if_neg hc, if_neg hc']
    · simp only [if_neg hu]
      rw [if_neg (by omega)]
theorem rf_snoc : ∀ {l : List (Int × Int)} {a : Int} {v : Int × Int}, rightFrom a l = true → a < v.1 → (∀ i, i < l.length → (l.getD i (0, 0)).1 < v.1) → rightFrom a (l ++ [v]) = true
  | [], a, v, _, h, _ => by simp [rightFrom, h]
  | u :: l, a, v, hr, h, hall => by
    rw [rf_cons] at hr
    rw [List.cons_append, rf_cons]
    refine ⟨hr.1, rf_snoc hr.2 (by simpa using hall 0 (by simp)) fun i hi => ?_⟩
    simpa using hall (i + 1) (by simpa using hi)
theorem rf_lt : ∀ {l : List (Int × Int)} {a : Int}, rightFrom a l = true → ∀ i j, i < j → j < l.length → (l.getD i (0, 0)).1 < (l.getD j (0, 0)).1
  | [], _, _, _, j, _, h => by simp at h
  | v :: l, a, hr, i, j, hij, h => by
    rw [rf_cons] at hr
    match i, j, hij with
    | 0, j + 1, _ => simpa using rf_ge hr.2 j (by simpa using h)
    | i + 1, j + 1, hij => simpa using rf_lt hr.2 i j (by omega) (by simpa using h)
theorem newS_last {l : List (Int × Int)} {a : Int} (hr : rightFrom a l = true) (h0 : 0 ≤ a) : ∀ i, i < l.length → (l.getD i (0, 0)).1 ≤ newS l := by
  intro i hi
  unfold newS
  rw [if_neg (by omega)]
  by_cases h : i = l.length - 1
  · subst h; exact Int.le_refl _
  · exact Int.le_of_lt (rf_lt hr i (l.length - 1) (by omega) (by omega))
theorem newS_nonneg {l : List (Int × Int)} (hr : rightFrom 0 l = true) : 0 ≤ newS l := by
  unfold newS
  split
  · exact Int.le_refl _
  · exact Int.le_of_lt (rf_ge hr _ (by omega))
theorem rf_add {l : List (Int × Int)} {v : Int × Int} (hr : rightFrom 0 l = true) (h : newS l < v.1) : rightFrom 0 (l ++ [v]) = true :=
  rf_snoc hr (by have := newS_nonneg hr; omega) fun i hi => by have := newS_last hr (Int.le_refl _) i hi; omega
theorem newS_snoc (l : List (Int × Int)) (v : Int × Int) : newS (l ++ [v]) = v.1 := by
  unfold newS
  simp
theorem newS_drop (l : List (Int × Int)) (k : Nat) (h : k < l.length ∨ k = 0) : newS (l.drop k) = newS l := by
  rcases h with h | rfl
  · unfold newS
    rw [List.length_drop, if_neg (by omega), if_neg (by omega)]
    simp only [List.getD_eq_getElem?_getD, List.getElem?_drop]
    rw [show k + (l.length - k - 1) = l.length - 1 by omega]
  · simp
theorem atV_snoc {l : List (Int × Int)} {v : Int × Int} (hr : rightFrom 0 l = true) (h : newS l < v.1) (q : Int) : atV (l ++ [v]) q = if v.1 ≤ q then v.2 else atV l q := by
  have hall : v.1 ≤ q → cnt l q = l.length := fun hv => by
    have hle := cnt_le l q
    apply Classical.byContradiction
    intro hne
    have := cnt_stop l q (by omega)
    have := newS_last hr (Int.le_refl _) (cnt l q) (by omega)
    omega
  unfold atV
  rw [cnt_snoc]
  by_cases hv : v.1 ≤ q
  · rw [if_pos (hall hv), if_pos hv, if_pos hv, if_neg (by omega)]
    simp
  · rw [if_neg hv, if_neg hv]
    have e : (if cnt l q = l.length then l.length else cnt l q) = cnt l q := by split <;> omega
    rw [e]
    by_cases h0 : cnt l q = 0
    · rw [if_pos h0, if_pos h0]
    · rw [if_neg h0, if_neg h0, getD_app_lt _ _ _ _ (by have := cnt_le l q; omega)]
theorem rf_trim {l : List (Int × Int)} (hr : rightFrom 0 l = true) (m : Int) : rightFrom 0 (trimS l m) = true := rf_drop _ hr
theorem newS_trim (l : List (Int × Int)) (m : Int) : newS (trimS l m) = newS l := newS_drop l _ (by have := cnt_le l m; omega)
theorem atV_trim (l : List (Int × Int)) {m q : Int} (h : m ≤ q) : atV (trimS l m) q = atV l q := atV_drop l q _ (by have := cnt_mono l h; omega)
theorem trim_trim (l : List (Int × Int)) {m q : Int} (h : q ≤ m) : trimS (trimS l m) q = trimS l m := by
  have h1 := cnt_mono (trimS l m) h
  have h2 : cnt (trimS l m) m ≤ 1 := by
    unfold trimS
    rw [cnt_drop l m _ (by omega)]
    omega
  have h3 : trimS (trimS l m) q = (trimS l m).drop (cnt (trimS l m) q - 1) := rfl
  rw [h3, show cnt (trimS l m) q - 1 = 0 by omega, List.drop_zero]
theorem trim_len (l : List (Int × Int)) (m : Int) : (trimS l m).length ≤ l.length := by simp [trimS]
theorem chainFrom_ok : ∀ (ks : List Int) (n : Int), 0 ≤ n → rightFrom n (chainFrom n ks) = true ∧ (∀ i, i < (chainFrom n ks).length → ((chainFrom n ks).getD i (0, 0)).1 ≤ n + 5 * ks.length) ∧ (chainFrom n ks).length = ks.length
  | [], n, _ => by simp [chainFrom, rightFrom]
  | k :: ks, n, hn => by
    have hk := Int.emod_nonneg k (show (5 : Int) ≠ 0 by decide)
    have hk2 := Int.emod_lt_of_pos k (show (0 : Int) < 5 by decide)
    obtain ⟨h1, h2, h3⟩ := chainFrom_ok ks (n + 1 + k % 5) (by omega)
    simp only [chainFrom, List.length_cons]
    refine ⟨rf_cons.2 ⟨by simp only; omega, h1⟩, fun i hi => ?_, by omega⟩
    cases i with
    | zero => simp; omega
    | succ i =>
      have := h2 i (by omega)
      simp only [List.getD_cons_succ]
      omega
theorem chainS_rf (ks : List Int) : rightFrom 0 (chainS ks) = true := (chainFrom_ok _ 0 (by omega)).1
theorem chainS_len (ks : List Int) : (chainS ks).length ≤ 20 := by
  unfold chainS
  rw [(chainFrom_ok _ 0 (by omega)).2.2]
  simp; omega
theorem chainS_le (ks : List Int) : ∀ i, i < (chainS ks).length → ((chainS ks).getD i (0, 0)).1 ≤ 100 := by
  intro i hi
  have := (chainFrom_ok (ks.take 20) 0 (by omega)).2.1 i hi
  have h2 : (ks.take 20).length ≤ 20 := by simp; omega
  show ((chainFrom 0 (ks.take 20)).getD i (0, 0)).1 ≤ 100
  omega
theorem newS_chain (ks : List Int) : 0 ≤ newS (chainS ks) ∧ newS (chainS ks) ≤ 100 := by
  refine ⟨newS_nonneg (chainS_rf ks), ?_⟩
  unfold newS
  split
  · decide
  · exact chainS_le ks _ (by omega)
theorem lenOk_of {α : Type} {l : List α} (h : l.length < 1000000) : lenOk l = true := by simp [lenOk, h]
theorem lenOk_lt {α : Type} {l : List α} (h : lenOk l = true) : l.length < 1000000 := by simpa [lenOk] using h
theorem isU_of {n : Int} (h : isU n = true) : 0 ≤ n ∧ n ≤ 18446744073709551615 := by simpa [isU] using h
theorem isU_mk {n : Int} (h1 : 0 ≤ n) (h2 : n ≤ 18446744073709551615) : isU n = true := by simp [isU, h1, h2]
theorem allU_get {l : List (Int × Int)} (h : allU l = true) (i : Nat) (hi : i < l.length) : 0 ≤ (l.getD i (0, 0)).1 := by
  have := List.all_eq_true.1 h l[i] (List.getElem_mem hi)
  rw [List.getD_eq_getElem?_getD, List.getElem?_eq_getElem hi]
  exact (isU_of this).1
theorem allU_of {l : List (Int × Int)} (h : ∀ i, i < l.length → 0 ≤ (l.getD i (0, 0)).1 ∧ (l.getD i (0, 0)).1 ≤ 18446744073709551615) : allU l = true := by
  refine List.all_eq_true.2 fun v hv => ?_
  obtain ⟨i, hi, rfl⟩ := List.getElem_of_mem hv
  have := h i hi
  rw [List.getD_eq_getElem?_getD, List.getElem?_eq_getElem hi] at this
  exact isU_mk this.1 this.2
theorem digitS_range (k d : Int) {n : Int} (h : 0 < n) : 0 ≤ digitS k d n ∧ digitS k d n < n := ⟨Int.emod_nonneg _ (by omega), Int.emod_lt_of_pos _ h⟩
end Go.BB
