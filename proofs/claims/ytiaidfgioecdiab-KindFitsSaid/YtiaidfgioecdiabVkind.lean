/- A symbolic machine for the model's code, and what it shows of this seat's functions. No conditions. -/
import Derived.Test.YtiaidfgioecdiabGkind
import Derived.Test.YtiaidfgioecdiabVcom
set_option linter.unusedSimpArgs false
set_option linter.unusedVariables false
namespace Go.BB
open Go Go.Proofs
set_option maxRecDepth 100000
theorem v_table : Valid Try.prog n_table c_table := by
  refine valid_fn mixed hf_table (by kernel_rfl) rfl (ts := tmpsOf f_table.results.toList) (by kernel_rfl) (cfg := cfgW g_table) tt_ok Γok_nil table_tm c_table (by kernel_rfl) (fun _ _ _ _ => ⟨⟩) ?_
  rintro ⟨(fn : Int), ⟨⟩⟩ r u h
  exact ⟨0, (table_rn _ _).trans ((show table_P 0 fn = sw fn (fun v => ((v.1, v.2, ()), ((), ()))) tabL (0, false) from rfl).trans ((sw_eq _ _ _ _).trans h))⟩
theorem v_does : Valid Try.prog n_does c_does := by
  refine valid_fn mixed hf_does (by kernel_rfl) rfl (ts := tmpsOf f_does.results.toList) (by kernel_rfl) (cfg := cfgW g_does) tt_ok Γok_nil does_tm c_does (by kernel_rfl) (fun _ _ _ _ => ⟨⟩) ?_
  rintro ⟨(fn : Int), ⟨⟩⟩ r u h
  exact ⟨0, (does_rn _ _).trans ((show does_P 0 fn = sw fn (fun v => ((v.1, v.2, ()), ((), ()))) doesL (false, false) from rfl).trans ((sw_eq _ _ _ _).trans h))⟩
theorem v_most : Valid Try.prog n_most c_most := by
  refine valid_fn mixed hf_most (by kernel_rfl) rfl (ts := tmpsOf f_most.results.toList) (by kernel_rfl) (cfg := cfgW g_most) tt_ok Γok_nil most_tm c_most (by kernel_rfl) (fun _ _ _ _ => ⟨⟩) ?_
  rintro ⟨(fn : Int), ⟨⟩⟩ r u h
  exact ⟨0, (most_rn _ _).trans ((show most_P 0 fn = sw fn (fun v => ((v.1, v.2, ()), ((), ()))) mostL (0, 0) from rfl).trans ((sw_eq _ _ _ _).trans h))⟩
theorem br_or {β : Type} (a b : Bool) (f : Bool → β) : br a (some (f true)) (some (f b)) = some (f (a || b)) := by cases a <;> rfl
theorem v_writes : Valid Try.prog n_writes c_writes := by
  refine valid_fn mixed hf_writes (by kernel_rfl) rfl (ts := tmpsOf f_writes.results.toList) (by kernel_rfl) (cfg := cfgW g_writes) tt_ok (Γok_cons v_does Γok_nil) writes_tm c_writes (by kernel_rfl) (fun _ _ _ _ => ⟨⟩) ?_
  rintro ⟨(fn : Int), ⟨⟩⟩ r u h
  exact ⟨0, (writes_rn _ _).trans h⟩
theorem v_known : Valid Try.prog n_known c_known := by
  refine valid_fn mixed hf_known (by kernel_rfl) rfl (ts := tmpsOf f_known.results.toList) (by kernel_rfl) (cfg := cfgW g_known) tt_ok (Γok_cons v_table Γok_nil) known_tm c_known (by kernel_rfl) (fun _ _ _ _ => ⟨⟩) ?_
  rintro ⟨(fn : Int), ⟨⟩⟩ r u h
  exact ⟨0, (known_rn _ _).trans ((br_or (tabS fn).2 (fn == 43) fun b => ((b, ()), ((), ()))).trans h)⟩
theorem v_kbits : Valid Try.prog n_kbits c_kbits := by
  refine valid_fn mixed hf_kbits (by kernel_rfl) rfl (ts := tmpsOf f_kbits.results.toList) (by kernel_rfl) (cfg := cfgW g_kbits) tt_ok Γok_nil kbits_tm c_kbits (by kernel_rfl) (fun _ _ _ _ => ⟨⟩) ?_
  rintro ⟨(fn : Int), ⟨⟩⟩ r u h
  exact ⟨0, (kbits_rn _ _).trans ((br_or (fn == 0) (fn == 1) fun b => ((b, ()), ((), ()))).trans h)⟩
end Go.BB
