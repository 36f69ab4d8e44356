/- A symbolic machine for the model's code, and what it shows of this seat's functions. No conditions. -/
import Derived.Test.YtnofmeckcimodaaFLaw
set_option linter.unusedVariables false
set_option linter.unusedSimpArgs false
namespace Go.BB
open Go
def O0 : ObjK := {}
theorem Γok_nil {O : ObjK} {P : Program} : Γok (O := O) P [] := fun g c h => by cases h
theorem Γok_cons {O : ObjK} {P : Program} {g : Nat} {c : Ctr O} {Γ : List (Nat × Ctr O)} (h : Valid P g c) (hΓ : Γok P Γ) : Γok P ((g, c) :: Γ) := by
 intro g' c' hl
 rw [look_cons] at hl
 split at hl
 ·rename_i e
  simp only at e
  subst e
  cases hl
  exact h
 ·exact hΓ g' c' hl
theorem Kept_vals {O : ObjK} : ∀ (tys : List Ty) (x : dens (O := O) (valsOf tys)) (u : upds (valsOf tys)), Kept (valsOf tys) x u
 | [], _, _ => trivial
 | t :: ts, x, u => Kept_vals ts x.2 u.2
end Go.BB
namespace Go.BB
open Go
abbrev tVer : Ty := .pair (.int .u64) (.int .u16)
abbrev tKey : Ty := .pair (.int .i64) (.int .i64)
abbrev tCell : Ty := .pair (.pair (.int .i64) (.int .i64)) (.int .u16)
abbrev tSpan : Ty := .pair (.int .i64) (.pair (.int .i64) (.int .i64))
abbrev tRow : Ty := .pair tKey (.slice tVer)
abbrev tObj : Ty := .pair (.int .i64) .str
abbrev tI : Ty := .int .i64
abbrev tW : Ty := .int .u16
abbrev tU : Ty := .int .u64
def grd {α : Type} (b : Bool) (v : α) : Option α := cond b (some v) none
theorem grd_some {α : Type} {b : Bool} {v r : α} (h : grd b v = some r) : b = true ∧ v = r := by
 cases b
 ·cases h
 ·exact ⟨rfl, by cases h; rfl⟩
theorem bd_grd {α β : Type} {b : Bool} {v : α} {f : α → Option β} (h : b = true) : bd (grd b v) f = f v := by subst h; rfl
theorem br_t {α : Type} {b : Bool} {x y : α} (h : b = true) : br b x y = x := by subst h; rfl
theorem br_f {α : Type} {b : Bool} {x y : α} (h : b = false) : br b x y = y := by subst h; rfl
theorem br_dt {α : Type} {p : Prop} [Decidable p] {x y : α} (h : p) : br (decide p) x y = x := br_t (decide_eq_true h)
theorem br_df {α : Type} {p : Prop} [Decidable p] {x y : α} (h : ¬ p) : br (decide p) x y = y := br_f (decide_eq_false h)
theorem br_ite {α : Type} {p : Prop} [Decidable p] {x y : α} : br (decide p) x y = if p then x else y := by
 by_cases h : p
 ·rw [br_dt h, if_pos h]
 ·rw [br_df h, if_neg h]
theorem loopN_for {X R : Type} {step : (X → Option R) → X → Option R} (n : Nat) (st : Nat → X) {res : Option R} (h : ∀ i, i < n → ∀ rec, step rec (st i) = rec (st (i + 1)))
  (hend : ∀ rec, step rec (st n) = res) : ∀ K, n < K → loopN step K (st 0) = res := by
 have key : ∀ d K, d ≤ n → d < K → loopN step K (st (n - d)) = res := by
  intro d
  induction d with
  | zero =>
   intro K _ hK
   match K, hK with
   | K + 1, _ => exact hend _
  | succ d ih =>
   intro K hd hK
   match K, hK with
   | K + 1, hK =>
    have := h (n - (d + 1)) (by omega) (loopN step K)
    rw [show n - (d + 1) + 1 = n - d by omega] at this
    exact this.trans (ih K (by omega) (by omega))
 intro K hK
 have := key n K (Nat.le_refl _) hK
 rwa [Nat.sub_self] at this
theorem loopN_meas {X R : Type} {step : (X → Option R) → X → Option R} (m : X → Nat) (inv : X → Prop) (G : X → Option R)
  (h : ∀ x, inv x → ∀ rec, (∀ y, inv y → m y < m x → rec y = G y) → step rec x = G x) : ∀ K x, inv x → m x < K → loopN step K x = G x := by
 intro K
 induction K with
 | zero => intro x _ hx; omega
 | succ K ih => intro x hi hx; exact h x hi _ fun y hy hm => ih y hy (by omega)
theorem valid_fn {O : ObjK} {P : Program} (hm : P.follows .mixedOrders = true) {g : Nat} {f : Func} {c : Code} {ts : List Tmp} (hf : P.funcs[g]? = some f) (hname : (f.name == "runtime.NumGoroutine") = false) (hb : f.body = some c)
  (hres : f.results.toList = ts.map .tmp) {cfg : Cfg O} (hT : TTok P cfg.tt) (hΓ : Γok P cfg.Γ) (tms : List Tm) (ct : Ctr O)
  (hps : Nat.ble (clen ct.ins) (min 61 f.ntmps) = true) (hk : ∀ x r u, ct.F x = some (r, u) → Kept ct.ins x u) (hrun : ∀ x r u, ct.F x = some (r, u) → ∃ K, runF cfg K f tms ct.ins ct.outs x = some (r, u)) : Valid P g ct := by
 have h := Nat.le_of_ble_eq_true hps
 rw [clen_eq] at h
 exact valid_of_run hm hf hname hb hT hΓ (tms := tms) (ct := ct) (by omega) (by omega) hk hrun
theorem valid_fnc {O : ObjK} {P : Program} (hm : P.follows .mixedOrders = true) {g : Nat} {f : Func} {c : Code} (hf : P.funcs[g]? = some f) (hname : (f.name == "runtime.NumGoroutine") = false) (hb : f.body = some c)
  {cfg : Cfg O} (hT : TTok P cfg.tt) (hΓ : Γok P cfg.Γ) (tms : List Tm) (ct : Ctr O)
  (hps : Nat.ble (clen ct.ins) (min 61 f.ntmps) = true) (hk : ∀ x r u, ct.F x = some (r, u) → Kept ct.ins x u) (hrun : ∀ x r u, ct.F x = some (r, u) → ∃ K, runF cfg K f tms ct.ins ct.outs x = some (r, u)) : Valid P g ct := by
 have h := Nat.le_of_ble_eq_true hps
 rw [clen_eq] at h
 exact valid_of_run hm hf hname hb hT hΓ (tms := tms) (ct := ct) (by omega) (by omega) hk hrun
def tmpsOf : List ResultVar → List Tmp
 | [] => []
 | .tmp t :: r => t :: tmpsOf r
 | _ :: r => tmpsOf r
end Go.BB
namespace Go.BB
open Go
abbrev tAsk : Ty := .pair tI (.pair tI (.pair tI (.pair tW (.pair tW (.pair tW (.pair (.slice .bool) (.pair (.slice tW) (.pair tI (.pair tI (.pair tI tI))))))))))
abbrev tTell : Ty := .pair tI (.pair tI (.pair (.slice .bool) (.pair (.slice tW) (.pair tI (.pair tI (.pair tW (.pair tW (.pair tW (.pair tI (.pair tI (.pair .bool (.pair tI (.slice tObj)))))))))))))
abbrev tStep : Ty := .pair tAsk tTell
abbrev tDeed : Ty := .pair .bool (.pair tU (.pair (.slice tStep) (.slice tCell)))
abbrev tPlain : Ty := .pair tI (.pair tI (.pair tI (.pair tI (.pair tW (.pair tW (.pair tW (.pair tI (.pair tI (.pair tI .bool)))))))))
abbrev shFile : Sh := .cons (.map (.map tKey tW)) .unit
end Go.BB
