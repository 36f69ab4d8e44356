/- A symbolic machine for the model's code, and what it shows of this seat's functions. No conditions. -/
import Derived.Test.YtiaidfgioecdiabGbits
import Derived.Test.YtiaidfgioecdiabVcom
import Derived.Test.YtiaidfgioecdiabLBits2
set_option linter.unusedSimpArgs false
set_option linter.unusedVariables false
namespace Go.BB
open Go Go.Proofs
set_option maxRecDepth 100000
theorem lim_mul' {n : Nat} (h : n < 20000000) : n * 1 ≤ LIM := Nat.le_trans (Nat.mul_le_mul_right 1 (Nat.le_of_lt h)) (by decide)
theorem lim_le' {n : Nat} (h : n < 20000000) : n ≤ LIM := Nat.le_trans (Nat.le_of_lt h) (by decide)
theorem isN_of {n : Int} (h : isN n = true) : -9223372036854775808 ≤ n ∧ n ≤ 9223372036854775807 := by simpa [isN] using h
theorem isN_mk {n : Int} (h1 : -9223372036854775808 ≤ n) (h2 : n ≤ 9223372036854775807) : isN n = true := by simp [isN, h1, h2]
theorem notf {α : Type} {x y : α} : br (!false) x y = x := rfl
theorem v_bytes : Valid Try.prog n_bytes c_bytes := by
  refine valid_fn mixed hf_bytes (by kernel_rfl) rfl (ts := tmpsOf f_bytes.results.toList) (by kernel_rfl) (cfg := cfgW g_bytes) tt_ok Γok_nil bytes_tm c_bytes (by kernel_rfl) (fun _ _ _ _ => ⟨⟩) ?_
  rintro ⟨(n : Int), ⟨⟩⟩ r u h
  obtain ⟨h1, h2⟩ := grd_some h
  simp only at h1 h2
  have hn := isN_of h1
  refine ⟨0, (bytes_rn _ _).trans (Eq.trans ?_ (congrArg some h2))⟩
  unfold bytes_P bytesS
  by_cases h : n < 1
  · rw [br_dt h, if_pos h]; rfl
  · rw [br_df h, if_neg h, wrapI (n := n - 1) (by omega) (by omega), sh3, wrapI (by omega) (by omega)]; rfl
theorem pk_step (n : Nat) (l : List Bool) (i : Nat) (hi : i < l.length) (hn : l.length / 8 ≤ n) (hn2 : l.length < 8 * n + 1) : pkN n (l.take (i + 1)) = if l.getD i false = true then (pkN n (l.take i)).set (i / 8) (setByte ((pkN n (l.take i)).getD (i / 8) 0) (i % 8) true) else pkN n (l.take i) := by
  have e : l.take (i + 1) = l.take i ++ [l.getD i false] := by
    rw [List.take_add_one, List.getD_eq_getElem?_getD, List.getElem?_eq_getElem hi]; rfl
  have hl : (l.take i).length = i := by simp; omega
  rw [e, pkN_snoc _ _ _ (by rw [hl]; omega), hl, pkN_get _ _ _ (by omega)]
  have hb := byteN_short 8 ((l.take i).drop (8 * (i / 8)))
  have hb0 := (byteN_lt 8 ((l.take i).drop (8 * (i / 8)))).1
  rw [List.length_drop, hl, show i - 8 * (i / 8) = i % 8 by omega] at hb
  have : setByte (byteN 8 ((l.take i).drop (8 * (i / 8)))) (i % 8) true = byteN 8 ((l.take i).drop (8 * (i / 8))) + 2 ^ (i % 8) := by
    unfold setByte
    rw [Int.ediv_eq_zero_of_lt hb0 hb]
    simp
  rw [this]
theorem pk_bit0 (n : Nat) (l : List Bool) (i : Nat) (hi : i < l.length) (hn : l.length < 8 * n + 1) : ((pkN n (l.take i)).getD (i / 8) 0 / 2 ^ (i % 8)) % 2 = 0 := by
  have hl : (l.take i).length = i := by simp; omega
  rw [pkN_get _ _ _ (by omega), byteN_bit _ _ _ (by omega)]
  rw [List.getD_eq_getElem?_getD, List.getElem?_drop, List.getElem?_eq_none (by rw [hl]; omega)]
  rfl
theorem range_set (n : Nat) (b : List Int) (i : Nat) (hi : i < n) : ((List.range i).map (fun (j : Nat) => bitS b (j : Int)) ++ List.replicate (n - i) false).set i (bitS b (i : Int)) = (List.range (i + 1)).map (fun (j : Nat) => bitS b (j : Int)) ++ List.replicate (n - (i + 1)) false := by
  rw [List.set_append_right _ _ (by simp), List.range_succ, List.map_append]
  simp only [List.length_map, List.length_range, Nat.sub_self, List.append_assoc]
  congr 1
  rw [show n - i = (n - (i + 1)) + 1 by omega, List.replicate_succ]
  rfl
end Go.BB
