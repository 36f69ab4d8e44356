/- A symbolic machine for the model's code, and what it shows of this seat's functions. No conditions. -/
import Derived.Test.YtiaidfgioecdiabLBits
set_option linter.unusedSimpArgs false
set_option linter.unusedVariables false
namespace Go.BB
open Go
theorem byteN_lt : ∀ (n : Nat) (l : List Bool), 0 ≤ byteN n l ∧ byteN n l < 2 ^ n
  | 0, _ => by simp [byteN]
  | n + 1, [] => by simp [byteN]; exact Int.pow_pos (by decide)
  | n + 1, b :: l => by
    have := byteN_lt n l
    simp only [byteN]
    have e : (2 : Int) ^ (n + 1) = 2 * 2 ^ n := by rw [Int.pow_succ]; omega
    split <;> omega
theorem byteN_short : ∀ (n : Nat) (l : List Bool), byteN n l < 2 ^ l.length
  | 0, l => by simp [byteN]; exact Int.pow_pos (by decide)
  | n + 1, [] => by simp [byteN]
  | n + 1, b :: l => by
    have := byteN_short n l
    simp only [byteN, List.length_cons]
    have e : (2 : Int) ^ (l.length + 1) = 2 * 2 ^ l.length := by rw [Int.pow_succ]; omega
    split <;> omega
theorem byteN_snoc : ∀ (n : Nat) (l : List Bool) (b : Bool), byteN n (l ++ [b]) = byteN n l + (if b = true ∧ l.length < n then 2 ^ l.length else 0)
  | 0, l, b => by simp [byteN]
  | n + 1, [], b => by cases n <;> simp [byteN]
  | n + 1, a :: l, b => by
    have := byteN_snoc n l b
    simp only [List.cons_append, byteN, this, List.length_cons]
    have e : (2 : Int) ^ (l.length + 1) = 2 * 2 ^ l.length := by rw [Int.pow_succ]; omega
    generalize (if a = true then (1 : Int) else 0) = c
    by_cases h : b = true ∧ l.length < n
    · rw [if_pos h, if_pos ⟨h.1, by omega⟩, e]; omega
    · rw [if_neg h, if_neg (fun h' => h ⟨h'.1, by omega⟩)]; omega
theorem byteN_bit : ∀ (n k : Nat) (l : List Bool), k < n → (byteN n l / 2 ^ k) % 2 = if l.getD k false = true then 1 else 0
  | 0, k, l, h => by omega
  | n + 1, k, [], h => by simp [byteN]
  | n + 1, 0, b :: l, h => by
    simp only [byteN, Int.pow_zero, List.getD_cons_zero]
    cases b <;> simp <;> omega
  | n + 1, k + 1, b :: l, h => by
    have := byteN_bit n k l (by omega)
    simp only [byteN, List.getD_cons_succ]
    rw [← this]
    have e : (2 : Int) ^ (k + 1) = 2 * 2 ^ k := by rw [Int.pow_succ]; omega
    rw [e, ← Int.ediv_ediv_of_nonneg (by decide)]
    congr 2
    split <;> omega
def pkN (n : Nat) (l : List Bool) : List Int := (List.range n).map fun j => byteN 8 (l.drop (8 * j))
theorem pkS_eq (l : List Bool) : pkS l = pkN ((l.length + 7) / 8) l := rfl
theorem pkN_len (n : Nat) (l : List Bool) : (pkN n l).length = n := by simp [pkN]
theorem pkN_get (n : Nat) (l : List Bool) (j : Nat) (h : j < n) : (pkN n l).getD j 0 = byteN 8 (l.drop (8 * j)) := by
  simp [pkN, List.getD_eq_getElem?_getD, h]
theorem pkN_nil (n : Nat) : pkN n [] = List.replicate n 0 := by
  apply List.ext_getElem <;> simp [pkN, byteN]
theorem allB_pkN (n : Nat) (l : List Bool) : allB (pkN n l) = true := by
  simp only [allB, pkN, List.all_eq_true, List.mem_map]
  rintro x ⟨j, _, rfl⟩
  have := byteN_lt 8 (l.drop (8 * j))
  simp; omega
theorem pkN_snoc (n : Nat) (l : List Bool) (b : Bool) (h : l.length / 8 < n) :
    pkN n (l ++ [b]) = if b = true then (pkN n l).set (l.length / 8) (byteN 8 (l.drop (8 * (l.length / 8))) + 2 ^ (l.length % 8)) else pkN n l := by
  apply List.ext_getElem
  · cases b <;> simp [pkN]
  intro j h1 h2
  have hj : j < n := by simpa [pkN] using h1
  have key : (pkN n (l ++ [b]))[j] = byteN 8 ((l ++ [b]).drop (8 * j)) := by simp [pkN]
  rw [key]
  have key2 : byteN 8 ((l ++ [b]).drop (8 * j)) = byteN 8 (l.drop (8 * j)) + (if b = true ∧ j = l.length / 8 then 2 ^ (l.length % 8) else 0) := by
    by_cases hd : 8 * j ≤ l.length
    · rw [List.drop_append_of_le_length hd, byteN_snoc, List.length_drop]
      by_cases hq : j = l.length / 8
      · have e : l.length - 8 * j = l.length % 8 := by omega
        rw [e]
        have : l.length % 8 < 8 := by omega
        cases b <;> simp [this, hq]
      · have : ¬ (l.length - 8 * j < 8) := by omega
        simp [this, hq]
    · rw [List.drop_eq_nil_of_le (by simp; omega), List.drop_eq_nil_of_le (by omega)]
      have : j ≠ l.length / 8 := by omega
      simp [this]
  rw [key2]
  cases b with
  | false => simp [pkN]
  | true =>
    simp only [if_true, true_and, List.getElem_set]
    by_cases hq : j = l.length / 8
    · subst hq; simp
    · rw [if_neg hq, if_neg (fun e => hq e.symm)]
      simp [pkN]
/-- what was packed is got -/
theorem bit_pkS (l : List Bool) (i : Nat) (h : i < l.length) : bitS (pkS l) (i : Int) = l.getD i false := by
  have hb : (i : Int) / 8 = ((i / 8 : Nat) : Int) := by omega
  have hm : (i : Int) % 8 = ((i % 8 : Nat) : Int) := by omega
  unfold bitS
  rw [hb, hm, pkS_eq, pkN_len, Int.toNat_natCast, Int.toNat_natCast, pkN_get _ _ _ (by omega), byteN_bit _ _ _ (by omega)]
  have e : (l.drop (8 * (i / 8))).getD (i % 8) false = l.getD i false := by
    simp only [List.getD_eq_getElem?_getD, List.getElem?_drop]
    congr 2; omega
  rw [e]
  have h1 : decide (0 ≤ (i : Int)) = true := by simp
  have h2 : decide (((i / 8 : Nat) : Int) < (((l.length + 7) / 8 : Nat) : Int)) = true := by simp; omega
  rw [h1, h2]
  cases l.getD i false <;> rfl
theorem bytesS_len (l : List Bool) : bytesS (l.length : Int) = (((l.length + 7) / 8 : Nat) : Int) := by
  unfold bytesS
  split <;> omega
theorem pkS_len (l : List Bool) : (pkS l).length = (l.length + 7) / 8 := pkN_len _ _
theorem unpack_pkS (l : List Bool) : unpackB (pkS l) (l.length : Int) = (l, true) := by
  unfold unpackB
  rw [if_neg (by rw [pkS_len, bytesS_len]; omega)]
  congr 1
  apply List.ext_getElem
  · simp
  intro i h1 h2
  simp only [List.getElem_map, List.getElem_range]
  rw [bit_pkS l i h2]
  simp [List.getD_eq_getElem?_getD, h2]
theorem allB_get {b : List Int} (h : allB b = true) (j : Nat) : 0 ≤ b.getD j 0 ∧ b.getD j 0 < 256 := by
  by_cases hj : j < b.length
  · have := List.all_eq_true.1 h b[j] (List.getElem_mem hj)
    simp only [Bool.and_eq_true, decide_eq_true_eq] at this
    rw [List.getD_eq_getElem?_getD, List.getElem?_eq_getElem hj]
    exact this
  · rw [List.getD_eq_getElem?_getD, List.getElem?_eq_none (by omega)]
    simp
/-- bytes as members of Fin 256, for what is decided of all of them -/
theorem byte_fin {x : Int} (h : 0 ≤ x ∧ x < 256) : ∃ y : Fin 256, (y.val : Int) = x := ⟨⟨x.toNat, by omega⟩, by simp; omega⟩
theorem allB_set {b : List Int} (h : allB b = true) (j : Nat) {x : Int} (hx : 0 ≤ x ∧ x < 256) : allB (b.set j x) = true := by
  simp only [allB, List.all_eq_true] at h ⊢
  intro y hy
  rcases List.mem_or_eq_of_mem_set hy with h1 | rfl
  · exact h y h1
  · simp; omega
theorem setByte_range {x : Int} (h : 0 ≤ x ∧ x < 256) {k : Nat} (hk : k < 8) (v : Bool) : 0 ≤ setByte x k v ∧ setByte x k v < 256 := by
  obtain ⟨y, rfl⟩ := byte_fin h
  exact (byte_ops y ⟨k, hk⟩).2.2.2.2.1 v
theorem allB_setS {b : List Int} (h : allB b = true) (i : Int) (v : Bool) : allB (setS b i v) = true := by
  unfold setS
  split
  · exact allB_set h _ (setByte_range (allB_get h _) (by omega) v)
  · exact h
theorem setS_len (b : List Int) (i : Int) (v : Bool) : (setS b i v).length = b.length := by
  unfold setS; split <;> simp
/-- a bit that is set, and all others -/
theorem bit_setS {b : List Int} (h : allB b = true) (i k : Int) (v : Bool) : bitS (setS b i v) k = if k = i ∧ 0 ≤ i ∧ i / 8 < b.length then v else bitS b k := by
  unfold setS
  split
  · rename_i hi
    unfold bitS
    rw [List.length_set]
    by_cases hk : 0 ≤ k ∧ k / 8 < b.length
    · have h1 : decide (0 ≤ k) = true := decide_eq_true hk.1
      have h2 : decide (k / 8 < (b.length : Int)) = true := decide_eq_true hk.2
      rw [h1, h2]
      by_cases hq : k / 8 = i / 8
      · rw [hq]
        have e : (b.set (i / 8).toNat (setByte (b.getD (i / 8).toNat 0) (i % 8).toNat v)).getD (i / 8).toNat 0 = setByte (b.getD (i / 8).toNat 0) (i % 8).toNat v := by
          rw [List.getD_eq_getElem?_getD, List.getElem?_set_self (by omega)]; rfl
        rw [e]
        obtain ⟨y, hy⟩ := byte_fin (allB_get h (i / 8).toNat)
        rw [← hy]
        have := (byte_ops y ⟨(i % 8).toNat, by omega⟩).2.2.2.2.2.2.2.2 ⟨(k % 8).toNat, by omega⟩ v
        rw [this]
        simp only [Fin.mk.injEq]
        by_cases hki : k = i
        · subst hki; simp; cases v <;> simp [hi.1, hi.2]
        · have hne : ¬ (k % 8).toNat = (i % 8).toNat := by omega
          simp [hki, hne]
      · have e : (b.set (i / 8).toNat (setByte (b.getD (i / 8).toNat 0) (i % 8).toNat v)).getD (k / 8).toNat 0 = b.getD (k / 8).toNat 0 := by
          rw [List.getD_eq_getElem?_getD, List.getElem?_set_ne (by omega), ← List.getD_eq_getElem?_getD]
        rw [e]
        have hne : k ≠ i := by rintro rfl; exact hq rfl
        simp [hne]
    · have : (decide (0 ≤ k) && decide (k / 8 < (b.length : Int))) = false := by
        by_cases h0 : 0 ≤ k
        · have : ¬ k / 8 < (b.length : Int) := fun h => hk ⟨h0, h⟩
          simp [this]
        · simp [h0]
      rw [this]
      have hne : ¬ (k = i ∧ 0 ≤ i ∧ i / 8 < (b.length : Int)) := by rintro ⟨rfl, h1, h2⟩; exact hk ⟨h1, h2⟩
      rw [if_neg hne]
      simp
  · rename_i hi
    rw [if_neg (fun h => hi h.2)]
theorem bytesS_append (a b : List Bool) (h : a.length % 8 = 0) : pkS (a ++ b) = pkS a ++ pkS b := by
  apply List.ext_getElem
  · simp [pkS_len]; omega
  intro j h1 h2
  have hj : j < (a.length + b.length + 7) / 8 := by simpa [pkS_len] using h1
  have key : (pkS (a ++ b))[j] = byteN 8 ((a ++ b).drop (8 * j)) := by simp [pkS]
  rw [key]
  by_cases hja : j < (a.length + 7) / 8
  · rw [List.getElem_append_left (by rw [pkS_len]; exact hja)]
    have : (pkS a)[j]'(by rw [pkS_len]; exact hja) = byteN 8 (a.drop (8 * j)) := by simp [pkS]
    rw [this, List.drop_append_of_le_length (by omega)]
    have hl : 8 ≤ (a.drop (8 * j)).length := by simp; omega
    clear key this h1 h2
    have gen : ∀ (n : Nat) (l r : List Bool), n ≤ l.length → byteN n (l ++ r) = byteN n l := by
      intro n
      induction n with
      | zero => intro l r _; rfl
      | succ n ih =>
        intro l r h
        cases l with
        | nil => simp at h
        | cons x l => simp only [List.cons_append, byteN, ih l r (by simpa using h)]
    exact gen 8 _ _ hl
  · rw [List.getElem_append_right (by rw [pkS_len]; omega)]
    have hlt : j - (pkS a).length < (pkS b).length := by rw [pkS_len, pkS_len]; omega
    have : (pkS b)[j - (pkS a).length]'hlt = byteN 8 (b.drop (8 * (j - (pkS a).length))) := by simp [pkS]
    rw [this, pkS_len, List.drop_append, List.drop_eq_nil_of_le (by omega), List.nil_append]
    congr 2
    omega
end Go.BB
