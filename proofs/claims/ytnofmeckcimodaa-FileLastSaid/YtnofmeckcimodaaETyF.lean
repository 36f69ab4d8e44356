/- A symbolic machine for the model's code, and what it shows of this seat's functions. No conditions. -/
import Derived.Test.YtnofmeckcimodaaETab
import Derived.ProofKit
import Derived.OpenShut
import Derived.ChangeOld
import Derived.Below
import Derived.Carry
import Derived.SizedLaws
import Derived.Deep.Slices
set_option linter.unusedSimpArgs false
set_option linter.unusedVariables false
namespace Go.BB
open Go Go.ChangeShapes Go.WideShapes Go.RowKit Go.Deep
section
variable {O : ObjK} {P : Program} {H : Type} {enc : TypeId × Value → H} {W : World}

/-! ### what a law is handed -/
theorem block_of_cell {a : Addr} {v : Value} (h : W.cell? a = some v) : a.block < W.heap.size := by
  unfold World.cell? at h
  rcases Nat.lt_or_ge a.block W.heap.size with h1 | h1
  · exact h1
  · rw [Array.getElem?_eq_none h1] at h
    simp at h
def valsOf : List Ty → List (PK O)
  | [] => []
  | t :: ts => .val t :: valsOf ts
theorem carry_all (hl : laidOutB P = true) {W' : World} (hb : Below W.heap.size W W') : ∀ (ts : List Nat) (vs : List Value) (ds : List (DataW H)) (ps : List MemPlace), (∀ t ∈ ts, P.readableRec t = true ∧ t < P.types.size) → (∀ x ∈ ps, x.block < W.heap.size) →
    DataW.TrodAll enc P W 0 (fun _ => true) true ts vs ds ps → DataW.TrodAll enc P W' 0 (fun b => decide (b < W.heap.size)) true ts vs ds ps
  | [], vs, ds, ps, _, _, h => by
    obtain ⟨rfl, rfl, rfl⟩ := trodAll_nil h
    exact trodAll_mk0
  | t :: ts, vs, ds, ps, hr, hlt, h => by
    obtain ⟨v, vs', d, ds', p, q, rfl, rfl, rfl, h1, h2⟩ := trodAll_cons h
    obtain ⟨r1, r2⟩ := hr t List.mem_cons_self
    exact trodAll_cons_mk (Below.trod hl r1 r2 h1 hb fun x hx => hlt x (List.mem_append_left _ hx)) (carry_all hl hb ts vs' ds' q (fun t ht => hr t (List.mem_cons_of_mem _ ht)) (fun x hx => hlt x (List.mem_append_right _ hx)) h2)
theorem trodAll_len {base : Nat} {sp : Nat → Bool} {hd : Bool} : ∀ (ts : List Nat) (vs : List Value) (ds : List (DataW H)) (ps : List MemPlace), DataW.TrodAll enc P W base sp hd ts vs ds ps → ds.length = ts.length
  | [], vs, ds, ps, h => by
    obtain ⟨rfl, rfl, rfl⟩ := trodAll_nil h
    rfl
  | t :: ts, vs, ds, ps, h => by
    obtain ⟨v, vs', d, ds', p, q, rfl, rfl, rfl, h1, h2⟩ := trodAll_cons h
    simp [trodAll_len ts vs' ds' q h2]
/-- what a call of a law is -/
theorem law_calls {g : Nat} {tys : List Ty} {F : dens (O := O) (valsOf tys) → Option (rdens (O := O) [.val .bool] × upds (valsOf tys))} (hV : Valid P g ⟨valsOf tys, [.val .bool], F⟩) {args : Array Value} {x : dens (O := O) (valsOf tys)} {u : upds (valsOf tys)}
    (hE : Entry W (fun b => b < W.heap.size) (valsOf tys) x args.toList []) (hF : F x = some ((true, ()), u)) : Calls P g args W fun e W' => e = .returned (.bool true) ∧ Below W.heap.size W W' := by
  refine Calls.mono (hV.calls W (fun b => b < W.heap.size) args [] x (true, ()) u hF ⟨hE, trivial, by simp, fun b h => h⟩) ?_
  rintro e W' ⟨vs, pls', rpl, rfl, hA⟩
  obtain ⟨v, vs', q, pls2, e1, e2, h1, h2⟩ := hA.res
  obtain ⟨e3, e4⟩ := h2
  subst e3
  subst e1
  have hv : [v] = [Value.bool true] := h1.1
  simp only [List.cons.injEq, and_true] at hv
  subst hv
  exact ⟨rfl, hA.ext.os, hA.ext.tape, hA.ext.output, hA.ext.size, fun k hk => hA.ext.keep k hk (by simp)⟩
end
end Go.BB
namespace Go.BB
open Go
/-- no objects -/
def O0 : ObjK := {}
theorem Γok_nil {O : ObjK} {P : Program} : Γok (O := O) P [] := fun g c h => by cases h
theorem Γok_cons {O : ObjK} {P : Program} {g : Nat} {c : Ctr O} {Γ : List (Nat × Ctr O)} (h : Valid P g c) (hΓ : Γok P Γ) : Γok P ((g, c) :: Γ) := by
  intro g' c' hl
  rw [look_cons] at hl
  split at hl
  · rename_i e
    simp only at e
    subst e
    cases hl
    exact h
  · exact hΓ g' c' hl
theorem Kept_vals {O : ObjK} : ∀ (tys : List Ty) (x : dens (O := O) (valsOf tys)) (u : upds (valsOf tys)), Kept (valsOf tys) x u
  | [], _, _ => trivial
  | t :: ts, x, u => Kept_vals ts x.2 u.2
end Go.BB
/-! types, words of contracts, loops -/
namespace Go.BB
open Go
abbrev tVer : Ty := .pair (.int .u64) (.int .u16)
abbrev tKey : Ty := .pair (.int .i64) (.int .i64)
abbrev tCell : Ty := .pair (.pair (.int .i64) (.int .i64)) (.int .u16)
abbrev tSpan : Ty := .pair (.int .i64) (.pair (.int .i64) (.int .i64))
abbrev tRow : Ty := .pair tKey (.slice tVer)
abbrev tObj : Ty := .pair (.int .i64) .str
abbrev tI : Ty := .int .i64
abbrev tW : Ty := .int .u16
abbrev tU : Ty := .int .u64
/-- something, if it is so -/
def grd {α : Type} (b : Bool) (v : α) : Option α := cond b (some v) none
theorem grd_some {α : Type} {b : Bool} {v r : α} (h : grd b v = some r) : b = true ∧ v = r := by
  cases b
  · cases h
  · exact ⟨rfl, by cases h; rfl⟩
theorem bd_grd {α β : Type} {b : Bool} {v : α} {f : α → Option β} (h : b = true) : bd (grd b v) f = f v := by subst h; rfl
theorem bd_some' {α β : Type} {v : α} {f : α → Option β} : bd (some v) f = f v := rfl
theorem br_t {α : Type} {b : Bool} {x y : α} (h : b = true) : br b x y = x := by subst h; rfl
theorem br_f {α : Type} {b : Bool} {x y : α} (h : b = false) : br b x y = y := by subst h; rfl
theorem br_dt {α : Type} {p : Prop} [Decidable p] {x y : α} (h : p) : br (decide p) x y = x := br_t (decide_eq_true h)
theorem br_df {α : Type} {p : Prop} [Decidable p] {x y : α} (h : ¬ p) : br (decide p) x y = y := br_f (decide_eq_false h)
theorem br_ite {α : Type} {p : Prop} [Decidable p] {x y : α} : br (decide p) x y = if p then x else y := by
  by_cases h : p
  · rw [br_dt h, if_pos h]
  · rw [br_df h, if_neg h]
/-- a loop that goes on n times, and ends -/
theorem loopN_for {X R : Type} {step : (X → Option R) → X → Option R} (n : Nat) (st : Nat → X) {res : Option R} (h : ∀ i, i < n → ∀ rec, step rec (st i) = rec (st (i + 1)))
    (hend : ∀ rec, step rec (st n) = res) : ∀ K, n < K → loopN step K (st 0) = res := by
  have key : ∀ d K, d ≤ n → d < K → loopN step K (st (n - d)) = res := by
    intro d
    induction d with
    | zero =>
      intro K _ hK
      match K, hK with
      | K + 1, _ => exact hend _
    | succ d ih =>
      intro K hd hK
      match K, hK with
      | K + 1, hK =>
        have := h (n - (d + 1)) (by omega) (loopN step K)
        rw [show n - (d + 1) + 1 = n - d by omega] at this
        exact this.trans (ih K (by omega) (by omega))
  intro K hK
  have := key n K (Nat.le_refl _) hK
  rwa [Nat.sub_self] at this
/-- a loop by a measure -/
theorem loopN_meas {X R : Type} {step : (X → Option R) → X → Option R} (m : X → Nat) (inv : X → Prop) (G : X → Option R)
    (h : ∀ x, inv x → ∀ rec, (∀ y, inv y → m y < m x → rec y = G y) → step rec x = G x) : ∀ K x, inv x → m x < K → loopN step K x = G x := by
  intro K
  induction K with
  | zero => intro x _ hx; omega
  | succ K ih => intro x hi hx; exact h x hi _ fun y hy hm => ih y hy (by omega)
/-- a function whose contract keeps the rows' lengths -/
theorem valid_fn {O : ObjK} {P : Program} (hm : P.follows .mixedOrders = true) {g : Nat} {f : Func} {c : Code} {ts : List Tmp} (hf : P.funcs[g]? = some f) (hname : (f.name == "runtime.NumGoroutine") = false) (hb : f.body = some c)
    (hres : f.results.toList = ts.map .tmp) {cfg : Cfg O} (hT : TTok P cfg.tt) (hΓ : Γok P cfg.Γ) (tms : List Tm) (ct : Ctr O)
    (hps : Nat.ble (clen ct.ins) (min 61 f.ntmps) = true) (hk : ∀ x r u, ct.F x = some (r, u) → Kept ct.ins x u) (hrun : ∀ x r u, ct.F x = some (r, u) → ∃ K, runF cfg K f tms ct.ins ct.outs x = some (r, u)) : Valid P g ct := by
  have h := Nat.le_of_ble_eq_true hps
  rw [clen_eq] at h
  exact valid_of_run hm hf hname hb hT hΓ (tms := tms) (ct := ct) (by omega) (by omega) hk hrun
/-- the same, whatever the results' variables are -/
theorem valid_fnc {O : ObjK} {P : Program} (hm : P.follows .mixedOrders = true) {g : Nat} {f : Func} {c : Code} (hf : P.funcs[g]? = some f) (hname : (f.name == "runtime.NumGoroutine") = false) (hb : f.body = some c)
    {cfg : Cfg O} (hT : TTok P cfg.tt) (hΓ : Γok P cfg.Γ) (tms : List Tm) (ct : Ctr O)
    (hps : Nat.ble (clen ct.ins) (min 61 f.ntmps) = true) (hk : ∀ x r u, ct.F x = some (r, u) → Kept ct.ins x u) (hrun : ∀ x r u, ct.F x = some (r, u) → ∃ K, runF cfg K f tms ct.ins ct.outs x = some (r, u)) : Valid P g ct := by
  have h := Nat.le_of_ble_eq_true hps
  rw [clen_eq] at h
  exact valid_of_run hm hf hname hb hT hΓ (tms := tms) (ct := ct) (by omega) (by omega) hk hrun
def tmpsOf : List ResultVar → List Tmp
  | [] => []
  | .tmp t :: r => t :: tmpsOf r
  | _ :: r => tmpsOf r
end Go.BB
/-! types of requests, replies, deeds, plain registers -/
namespace Go.BB
open Go
abbrev tAsk : Ty := .pair tI (.pair tI (.pair tI (.pair tW (.pair tW (.pair tW (.pair (.slice .bool) (.pair (.slice tW) (.pair tI (.pair tI (.pair tI tI))))))))))
abbrev tTell : Ty := .pair tI (.pair tI (.pair (.slice .bool) (.pair (.slice tW) (.pair tI (.pair tI (.pair tW (.pair tW (.pair tW (.pair tI (.pair tI (.pair .bool (.pair tI (.slice tObj)))))))))))))
abbrev tStep : Ty := .pair tAsk tTell
abbrev tDeed : Ty := .pair .bool (.pair tU (.pair (.slice tStep) (.slice tCell)))
abbrev tPlain : Ty := .pair tI (.pair tI (.pair tI (.pair tI (.pair tW (.pair tW (.pair tW (.pair tI (.pair tI (.pair tI .bool)))))))))
abbrev shFile : Sh := .cons (.map (.map tKey tW)) .unit
end Go.BB
