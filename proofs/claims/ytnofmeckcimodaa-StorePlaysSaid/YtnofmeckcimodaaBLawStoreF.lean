/- A symbolic machine for the model's code, and what it shows of this seat's functions. No conditions. -/
import Derived.Test.YtnofmeckcimodaaBGstore3
import Derived.Test.YtnofmeckcimodaaBVgc
import Derived.Test.YtnofmeckcimodaaBLawStoreO
set_option linter.unusedSimpArgs false
set_option linter.unusedVariables false
namespace Go.BB
open Go Go.Proofs
set_option maxRecDepth 100000
def fullOne (a b : Nat) : Bool := match loopN (lStoreFull_L2 42) 42 ((a : Int), IntKind.i64.wrap (1 + (b : Int)), ((stNewS (0 : Int) (a : Int)).1, (stNewS (0 : Int) (a : Int)).2.1, (stNewS (0 : Int) (a : Int)).2.2.1, (stNewS (0 : Int) (a : Int)).2.2.2.1, ()), [], 0, ()) with | some ((true, ()), (), (), ()) => true | _ => false
/-- thirty rooms, nine sizes: each is worked out -/
theorem full_all : ((List.range 30).all fun a => (List.range 9).all fun b => fullOne a b) = true := by kernel_rfl
theorem full_one {a b : Nat} (ha : a < 30) (hb : b < 9) : loopN (lStoreFull_L2 42) 42 ((a : Int), IntKind.i64.wrap (1 + (b : Int)), ((stNewS (0 : Int) (a : Int)).1, (stNewS (0 : Int) (a : Int)).2.1, (stNewS (0 : Int) (a : Int)).2.2.1, (stNewS (0 : Int) (a : Int)).2.2.2.1, ()), [], 0, ()) = some ((true, ()), (), (), ()) := by
  have h := List.all_eq_true.1 (List.all_eq_true.1 full_all a (List.mem_range.2 ha)) b (List.mem_range.2 hb)
  unfold fullOne at h
  split at h
  · assumption
  · cases h
theorem lv_StoreFull : Valid Try.prog n_lStoreFull ⟨valsOf [tI, tI], [.val .bool], Fok (tys := [tI, tI]) (fun _ => true) ((), (), ())⟩ := by
  refine valid_law mixed hf_lStoreFull (by kernel_rfl) rfl (ts := tmpsOf f_lStoreFull.results.toList) (by kernel_rfl) (cfg := cfgW g_lStoreFull) tt_ok
    (Γok_cons v_awake17 (Γok_cons v_within (Γok_cons v_stNew (Γok_cons v_stInstall (Γok_cons v_stVersions (Γok_cons v_stLast (Γok_cons v_stGc (Γok_cons v_stKeys (Γok_cons v_stRead Γok_nil))))))))) lStoreFull_tm (by kernel_rfl) ?_
  rintro ⟨(a : Int), (b : Int), ⟨⟩⟩ _
  refine ⟨42, (lStoreFull_rn _ _ _).trans ?_⟩
  unfold lStoreFull_P
  rw [brNT, bd_grd (by decide)]
  simp only
  rw [bd_grd (by decide)]
  simp only
  have a0 := Int.emod_nonneg a (show (30 : Int) ≠ 0 by decide)
  have a1 := Int.emod_lt_of_pos a (show (0 : Int) < 30 by decide)
  have b0 := Int.emod_nonneg b (show (9 : Int) ≠ 0 by decide)
  have b1 := Int.emod_lt_of_pos b (show (0 : Int) < 9 by decide)
  obtain ⟨x, hx⟩ : ∃ n : Nat, a % 30 = (n : Int) := ⟨(a % 30).toNat, by omega⟩
  obtain ⟨y, hy⟩ : ∃ n : Nat, b % 9 = (n : Int) := ⟨(b % 9).toNat, by omega⟩
  rw [hx, hy]
  exact full_one (by omega) (by omega)
end Go.BB
