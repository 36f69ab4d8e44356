/- A symbolic machine for the model's code, and what it shows of this seat's functions. No conditions. -/
import Derived.Test.YtiaidfgioecdiabGkindl
import Derived.Test.YtiaidfgioecdiabVkind
import Derived.Test.YtiaidfgioecdiabVbits
import Derived.Test.YtiaidfgioecdiabLawKit
set_option linter.unusedSimpArgs false
set_option linter.unusedVariables false
namespace Go.BB
open Go Go.Proofs
set_option maxRecDepth 100000
theorem v_awake3 : Valid Try.prog n_awake3 c_awake3 := by
  refine valid_fn mixed hf_awake3 (by kernel_rfl) rfl (ts := tmpsOf f_awake3.results.toList) (by kernel_rfl) (cfg := cfgW g_awake3) tt_ok (Γok_cons v_table (Γok_cons v_most (Γok_cons v_known Γok_nil))) [] c_awake3 (by kernel_rfl) (fun _ _ _ _ => ⟨⟩) ?_
  rintro ⟨⟩ r u h
  exact ⟨0, awake3_rn.trans h⟩
theorem fits_all : ∀ n : Fin 46, lKindFits_P 0 (n.val : Int) = some ((true, ()), (), ()) := by decide +kernel
theorem lv_KindFits : Valid Try.prog n_lKindFits ⟨valsOf [tI], [.val .bool], Fok (tys := [tI]) (fun _ => true) ((), ())⟩ := by
  refine valid_law mixed hf_lKindFits (by kernel_rfl) rfl (ts := tmpsOf f_lKindFits.results.toList) (by kernel_rfl) (cfg := cfgW g_lKindFits) tt_ok
    (Γok_cons v_awake3 (Γok_cons v_within (Γok_cons v_table (Γok_cons v_most (Γok_cons v_kbits (Γok_cons v_bytes (Γok_cons v_writes Γok_nil))))))) lKindFits_tm (by kernel_rfl) ?_
  rintro ⟨(n : Int), ⟨⟩⟩ _
  refine ⟨0, (lKindFits_rn _ _).trans ?_⟩
  have h1 := Int.emod_nonneg n (show (46 : Int) ≠ 0 by decide)
  have h2 := Int.emod_lt_of_pos n (show (0 : Int) < 46 by decide)
  have := fits_all ⟨(n % 46).toNat, by omega⟩
  have e : (((n % 46).toNat : Nat) : Int) = n % 46 := by omega
  simp only [e] at this
  unfold lKindFits_P at this ⊢
  rw [Int.emod_emod] at this
  exact this
end Go.BB
