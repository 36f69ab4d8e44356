/- A symbolic machine for the model's code, and what it shows of this seat's functions. No conditions. -/
import Derived.Test.YtcdnkkakfkkpgaaQLaw2
import Derived.Test.YtcdnkkakfkkpgaaQLChain
set_option linter.unusedSimpArgs false
set_option linter.unusedVariables false
/-! what all laws need -/
namespace Go.BB
open Go
theorem take_drop0 {α : Type} (l : List α) (m : α) : List.take l.length (List.drop (0 : Nat) (lentS m l)) = l := by
  simp [lentS]
theorem staysS_lent {α : Type} [DecidableEq α] (m : α) (l : List α) : staysS m (lentS m l) l.length l = true := by
  simp [staysS, lentS]
theorem sameS_self {α : Type} [DecidableEq α] (l : List α) : sameS l l = true := by simp [sameS]
theorem brNT {α : Type} {x y : α} : br (!true) x y = y := rfl
theorem notf {α : Type} {x y : α} : br (!false) x y = x := rfl
abbrev Fok {tys : List Ty} (g : dens (O := O0) (valsOf tys) → Bool) (u : upds (O := O0) (valsOf tys)) : dens (O := O0) (valsOf tys) → Option (rdens (O := O0) [.val .bool] × upds (O := O0) (valsOf tys)) := fun x => grd (g x) ((true, ()), u)
theorem valid_law {P : Program} (hm : P.follows .mixedOrders = true) {n : Nat} {f : Func} {c : Code} {ts : List Tmp} (hf : P.funcs[n]? = some f) (hname : (f.name == "runtime.NumGoroutine") = false) (hb : f.body = some c)
    (hres : f.results.toList = ts.map .tmp) {cfg : Cfg O0} (hT : TTok P cfg.tt) (hΓ : Γok P cfg.Γ) (tms : List Tm) {tys : List Ty} {g : dens (O := O0) (valsOf tys) → Bool} {u : upds (O := O0) (valsOf tys)}
    (hps : Nat.ble (clen (valsOf (O := O0) tys)) (min 64 f.ntmps) = true) (hrun : ∀ x, g x = true → ∃ K, runF cfg K f tms (valsOf tys) [.val .bool] x = some ((true, ()), u)) :
    Valid (O := O0) P n ⟨valsOf tys, [.val .bool], Fok g u⟩ :=
  valid_fn hm hf hname hb hres hT hΓ tms _ hps (fun x _ u _ => Kept_vals tys x u) fun x r u' h => by
    have h' : grd (g x) (((true, ()), u) : rdens (O := O0) [.val .bool] × upds (O := O0) (valsOf tys)) = some (r, u') := h
    obtain ⟨h1, h2⟩ := grd_some h'
    obtain ⟨K, hK⟩ := hrun x h1
    exact ⟨K, hK.trans (congrArg some h2)⟩
theorem grd_t {α : Type} {b : Bool} {v : α} (h : b = true) : grd b v = some v := by subst h; rfl
theorem and_t {a b : Bool} (h1 : a = true) (h2 : b = true) : (a && b) = true := by rw [h1, h2]; rfl
theorem isU_in {n : Int} (h : InR2 (.int .u64) n) : isU n = true := by
  simp only [InR2, Lit.wf] at h
  simp only [IntKind.min, IntKind.max, IntKind.signed, IntKind.bits] at h
  simp [isU] at h ⊢
  omega
end Go.BB
