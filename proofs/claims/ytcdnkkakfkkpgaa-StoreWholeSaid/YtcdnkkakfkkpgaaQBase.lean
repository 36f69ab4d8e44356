/- A symbolic machine for the model's code, and what it shows of this seat's functions. No conditions. -/
import Derived.Test.YtcdnkkakfkkpgaaQLaw
set_option linter.unusedSimpArgs false
set_option linter.unusedVariables false
namespace Go.BB
open Go
/-- no objects -/
def O0 : ObjK := {}
theorem Γok_nil {O : ObjK} {P : Program} : Γok (O := O) P [] := fun g c h => by cases h
theorem Γok_cons {O : ObjK} {P : Program} {g : Nat} {c : Ctr O} {Γ : List (Nat × Ctr O)} (h : Valid P g c) (hΓ : Γok P Γ) : Γok P ((g, c) :: Γ) := by
  intro g' c' hl
  rw [look_cons] at hl
  split at hl
  · rename_i e
    simp only at e
    subst e
    cases hl
    exact h
  · exact hΓ g' c' hl
theorem Kept_vals {O : ObjK} : ∀ (tys : List Ty) (x : dens (O := O) (valsOf tys)) (u : upds (valsOf tys)), Kept (valsOf tys) x u
  | [], _, _ => trivial
  | t :: ts, x, u => Kept_vals ts x.2 u.2
/-- a function of values -/
theorem valid_vals {O : ObjK} {P : Program} (hm : P.follows .mixedOrders = true) {g : Nat} {f : Func} {c : Code} {ts : List Tmp} (hf : P.funcs[g]? = some f) (hname : (f.name == "runtime.NumGoroutine") = false) (hb : f.body = some c)
    (hres : f.results.toList = ts.map .tmp) {cfg : Cfg O} (hT : TTok P cfg.tt) (hΓ : Γok P cfg.Γ) (tms : List Tm) {tys : List Ty} {outs : List (RK O)} {F : dens (O := O) (valsOf tys) → Option (rdens outs × upds (valsOf tys))}
    (hps : Nat.ble (clen (valsOf (O := O) tys)) (min 64 f.ntmps) = true) (hrun : ∀ x r u, F x = some (r, u) → ∃ K, runF cfg K f tms (valsOf tys) outs x = some (r, u)) : Valid P g ⟨valsOf tys, outs, F⟩ := by
  have h := Nat.le_of_ble_eq_true hps
  rw [clen_eq] at h
  exact valid_of_run hm hf hname hb hT hΓ (tms := tms) (ct := ⟨valsOf tys, outs, F⟩) (by simp only; omega) (by simp only; omega) (fun x r u _ => Kept_vals tys x u) hrun
end Go.BB
