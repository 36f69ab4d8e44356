/- A symbolic machine for the model's code, and what it shows of this seat's functions. No conditions. -/
import Derived.Test.YtnofmeckcimodaaCTab
import Derived.ProofKit
import Derived.OpenShut
import Derived.ChangeOld
import Derived.Below
import Derived.Carry
import Derived.SizedLaws
import Derived.Deep.Slices
set_option linter.unusedSimpArgs false
set_option linter.unusedVariables false
namespace Go.BB
open Go Go.ChangeShapes Go.WideShapes Go.RowKit Go.Deep
section
variable {O : ObjK} {P : Program} {H : Type} {enc : TypeId × Value → H} {W : World}

/-! ### what a law is handed -/
def TyIs (P : Program) : Nat → Ty → Prop
  | t, .int k => P.underlying t = some (.int k)
  | t, .bool => P.underlying t = some .bool
  | t, .slice e => ∃ te, P.underlying t = some (.slice te) ∧ P.cellsOf te = 1 ∧ e.sz = 1 ∧ TyIs P te e
  | _, _ => False
/-- numbers are in their kinds' ranges -/
def InR : (t : Ty) → t.den → Prop
  | .int k, n => (Lit.int k n).wf = true
  | .slice t, xs => ∀ x, x ∈ (show List t.den from xs) → InR t x
  | _, _ => True
theorem block_of_cell {a : Addr} {v : Value} (h : W.cell? a = some v) : a.block < W.heap.size := by
  unfold World.cell? at h
  rcases Nat.lt_or_ge a.block W.heap.size with h1 | h1
  · exact h1
  · rw [Array.getElem?_eq_none h1] at h
    simp at h
theorem open_ty : ∀ (ty : Ty) (t : Nat), TyIs P t ty → ∀ (fuel : Nat) (cs : List Value) (d : DataW H) (ps : List MemPlace), DataW.trod enc P W 0 (fun _ => true) true fuel t cs = some (d, ps) →
    ∃ x : ty.den, Rep W (fun b => b < W.heap.size) ty x cs ∧ InR ty x
  | .int k, t, ht, fuel, cs, d, ps, h => by
    obtain ⟨n, h1, h2, h3⟩ := DataW.trod_int ht h
    exact ⟨n, h1, h3⟩
  | .bool, t, ht, fuel, cs, d, ps, h => by
    obtain ⟨b, h1, h2⟩ := DataW.trod_bool ht h
    exact ⟨b, h1, trivial⟩
  | .str, t, ht, _, _, _, _, _ => ht.elim
  | .unit, t, ht, _, _, _, _, _ => ht.elim
  | .pair a b, t, ht, _, _, _, _, _ => ht.elim
  | .slice e, t, ht, fuel, cs, d, ps, h => by
    obtain ⟨te, h1, h2, h3, h4⟩ := ht
    rcases open_slice1 h1 h2 h with ⟨rfl, _⟩ | ⟨a, len, cap, m, n, V, D, Q, rfl, _, hlc, _, hm, _, hall⟩
    · exact ⟨[], ⟨none, 0, rfl, Nat.le_refl _, fun h => by cases h⟩, fun x hx => by cases hx⟩
    · simp only [if_true] at hm
      subst hm
      have : ∀ i, i < m → ∃ x : e.den, Rep W (fun b => b < W.heap.size) e x [V i] ∧ InR e x := fun i hi => open_ty e te h4 n _ _ _ (hall i hi).2
      let X : Nat → e.den := fun i => if h : i < m then Classical.choose (this i h) else e.zero
      have hX : ∀ i, i < m → Rep W (fun b => b < W.heap.size) e (X i) [V i] ∧ InR e (X i) := fun i hi => by
        simp only [X, dif_pos hi]
        exact Classical.choose_spec (this i hi)
      refine ⟨(List.range len).map X, ⟨some a, m, by simp, by simpa using hlc, fun hp => ⟨a, rfl, ?_, fun j x hx => ?_⟩⟩, ?_⟩
      · have hp' : 0 < len := by simpa using hp
        have := block_of_cell (hall 0 (by omega)).1
        rw [add_block] at this
        exact this
      · rw [List.getElem?_map, Option.map_eq_some_iff] at hx
        obtain ⟨j', hj, rfl⟩ := hx
        have hj1 := (List.getElem?_eq_some_iff.1 hj).1
        rw [List.length_range] at hj1
        rw [List.getElem?_range hj1] at hj
        cases hj
        refine ⟨[V j], (hX j (by omega)).1, fun q v hq => ?_⟩
        cases q with
        | zero =>
          simp only [List.getElem?_cons_zero, Option.some.injEq] at hq
          subst hq
          rw [h3, Nat.mul_one, Nat.add_zero]
          exact (hall j (by omega)).1
        | succ q => simp at hq
      · intro x hx
        obtain ⟨j, hj, rfl⟩ := List.mem_map.1 hx
        have := List.mem_range.1 hj
        exact (hX j (by omega)).2
theorem TyIs_noagg {ty : Ty} {t : Nat} (h : TyIs P t ty) : ty.isAgg = false := by
  cases ty <;> first | rfl | exact h.elim
theorem cells_of_ok {ty : Ty} {t : Nat} (h : TyIs P t ty) {v : Value} (hv : Value.okWide P W .any 0 t v ∨ ∃ b, Value.okWide P W .any b t v) : v.cells.toList = [v] := by
  have key : ∀ b, Value.okWide P W .any b t v → v.cells.toList = [v] := by
    intro b hb
    cases v with
    | agg cs =>
      exfalso
      cases ty with
      | int k => have h' : P.underlying t = some (.int k) := h; simp [Value.okWide, h', Cell.okWide, Cell.ok] at hb
      | bool => have h' : P.underlying t = some .bool := h; simp [Value.okWide, h', Cell.okWide, Cell.ok] at hb
      | slice e => obtain ⟨te, h', _⟩ := h; simp [Value.okWide, h', Cell.okWide, Cell.ok] at hb
      | _ => exact h.elim
    | _ => rfl
  rcases hv with hv | ⟨b, hv⟩
  · exact key _ hv
  · exact key _ hv
def valsOf : List Ty → List (PK O)
  | [] => []
  | t :: ts => .val t :: valsOf ts
def InAll : (tys : List Ty) → dens (O := O) (valsOf tys) → Prop
  | [], _ => True
  | t :: ts, x => InR t x.1 ∧ InAll ts x.2
theorem open_all {base : Nat} : ∀ (ts : List Nat) (tys : List Ty) (vs : List Value) (ds : List (DataW H)) (ps : List MemPlace), All2 (TyIs P) ts tys → (∀ (j : Nat) t v, ts[j]? = some t → vs[j]? = some v → Value.okWide P W .any base t v) →
    DataW.TrodAll enc P W 0 (fun _ => true) true ts vs ds ps → ∃ x : dens (O := O) (valsOf tys), Entry W (fun b => b < W.heap.size) (valsOf tys) x vs [] ∧ InAll tys x
  | [], [], vs, ds, ps, _, _, h => by
    obtain ⟨rfl, _, _⟩ := trodAll_nil h
    exact ⟨(), ⟨rfl, rfl⟩, trivial⟩
  | [], _ :: _, _, _, _, h, _, _ => h.elim
  | _ :: _, [], _, _, _, h, _, _ => h.elim
  | t :: ts, ty :: tys, vs, ds, ps, ht, hv, h => by
    obtain ⟨v, vs', d, ds', p, q, rfl, rfl, rfl, h1, h2⟩ := trodAll_cons h
    obtain ⟨fuel, h1⟩ := h1
    rw [cells_of_ok ht.1 (.inr ⟨base, hv 0 t v rfl rfl⟩)] at h1
    obtain ⟨x, g1, g2⟩ := open_ty ty t ht.1 _ _ _ _ h1
    obtain ⟨xs, g3, g4⟩ := open_all ts tys vs' ds' q ht.2 (fun j t' v' ht' hv' => hv (j + 1) t' v' ht' hv') h2
    refine ⟨(x, xs), ⟨v, vs', [], [], rfl, rfl, VRel_val ?_, g3⟩, g2, g4⟩
    unfold TRep
    rw [TyIs_noagg ht.1]
    exact g1
theorem carry_all (hl : laidOutB P = true) {W' : World} (hb : Below W.heap.size W W') : ∀ (ts : List Nat) (vs : List Value) (ds : List (DataW H)) (ps : List MemPlace), (∀ t ∈ ts, P.readableRec t = true ∧ t < P.types.size) → (∀ x ∈ ps, x.block < W.heap.size) →
    DataW.TrodAll enc P W 0 (fun _ => true) true ts vs ds ps → DataW.TrodAll enc P W' 0 (fun b => decide (b < W.heap.size)) true ts vs ds ps
  | [], vs, ds, ps, _, _, h => by
    obtain ⟨rfl, rfl, rfl⟩ := trodAll_nil h
    exact trodAll_mk0
  | t :: ts, vs, ds, ps, hr, hlt, h => by
    obtain ⟨v, vs', d, ds', p, q, rfl, rfl, rfl, h1, h2⟩ := trodAll_cons h
    obtain ⟨r1, r2⟩ := hr t List.mem_cons_self
    exact trodAll_cons_mk (Below.trod hl r1 r2 h1 hb fun x hx => hlt x (List.mem_append_left _ hx)) (carry_all hl hb ts vs' ds' q (fun t ht => hr t (List.mem_cons_of_mem _ ht)) (fun x hx => hlt x (List.mem_append_right _ hx)) h2)
theorem trodAll_len {base : Nat} {sp : Nat → Bool} {hd : Bool} : ∀ (ts : List Nat) (vs : List Value) (ds : List (DataW H)) (ps : List MemPlace), DataW.TrodAll enc P W base sp hd ts vs ds ps → ds.length = ts.length
  | [], vs, ds, ps, h => by
    obtain ⟨rfl, rfl, rfl⟩ := trodAll_nil h
    rfl
  | t :: ts, vs, ds, ps, h => by
    obtain ⟨v, vs', d, ds', p, q, rfl, rfl, rfl, h1, h2⟩ := trodAll_cons h
    simp [trodAll_len ts vs' ds' q h2]
theorem valsOf_disj {w : World} {R : Nat → Prop} : ∀ (tys : List Ty) (x : dens (O := O) (valsOf tys)) (vs : List Value) (pls : List Pl), Entry w R (valsOf tys) x vs pls → pls = []
  | [], _, vs, pls, h => h.2
  | t :: ts, x, _, _, ⟨v, vs, q, pls, e1, e2, h1, h2⟩ => by
    have hq : q = [] := by
      unfold VRel at h1
      change (match t.isAgg with | true => _ | false => _) at h1
      cases ht : t.isAgg with
      | true => rw [ht] at h1; obtain ⟨arr, e, h, hq⟩ := h1; exact hq
      | false => rw [ht] at h1; exact h1.2
    rw [e2, hq, valsOf_disj ts x.2 vs pls h2]; rfl
/-- what a call of a law is -/
theorem law_calls {g : Nat} {tys : List Ty} {F : dens (O := O) (valsOf tys) → Option (rdens (O := O) [.val .bool] × upds (valsOf tys))} (hV : Valid P g ⟨valsOf tys, [.val .bool], F⟩) {args : Array Value} {x : dens (O := O) (valsOf tys)} {u : upds (valsOf tys)}
    (hE : Entry W (fun b => b < W.heap.size) (valsOf tys) x args.toList []) (hF : F x = some ((true, ()), u)) : Calls P g args W fun e W' => e = .returned (.bool true) ∧ Below W.heap.size W W' := by
  refine Calls.mono (hV.calls W (fun b => b < W.heap.size) args [] x (true, ()) u hF ⟨hE, trivial, by simp, fun b h => h⟩) ?_
  rintro e W' ⟨vs, pls', rpl, rfl, hA⟩
  obtain ⟨v, vs', q, pls2, e1, e2, h1, h2⟩ := hA.res
  obtain ⟨e3, e4⟩ := h2
  subst e3
  subst e1
  have hv : [v] = [Value.bool true] := h1.1
  simp only [List.cons.injEq, and_true] at hv
  subst hv
  exact ⟨rfl, hA.ext.os, hA.ext.tape, hA.ext.output, hA.ext.size, fun k hk => hA.ext.keep k hk (by simp)⟩
/-- a law that holds of each input -/
theorem law_lifted {C : Checked} {os : Os} {f : FuncId} {fn : Func} {s : ChangeSpec} {conds : List PathCond} {apart : Bool} {tb : TypeId} {tys : List Ty}
    (own : ownKnob C.prog.godebug = none) (started : os.Started) (noInit : C.prog.inits.idxOf? f = none) (hfn : C.prog.funcs[f]? = some fn)
    (witness : ∃ (w : World) (tape : Tape) (i : Input), w.os = os ∧ (w.forCall tape i).Shaped C.prog ∧ i.vars = [] ∧ Input.okWide C.prog (w.forCall tape i) .any w.heap.size f i ∧
      s.pre6 enc C.prog fn conds apart (w.forCall tape i).memory i.args ∧ ({} : Assume).holds C.prog (lone (Frame.enter C.prog f i.args .normal) [] (w.forCall tape i)))
    (hl : laidOutB C.prog = true) (hty : All2 (TyIs C.prog) fn.params.toList tys) (hread : ∀ t ∈ fn.params.toList, C.prog.readableRec t = true ∧ t < C.prog.types.size)
    (hrt : fn.resultTypes = #[tb]) (htb : C.prog.underlying tb = some .bool) (hvars : s.vars = [])
    (hs : ∀ ds : List (DataW H), ds.length = fn.params.toList.length → s.fn H ds = { results := [.lit (.bool true)], args := ds })
    {F : dens (O := O) (valsOf tys) → Option (rdens (O := O) [.val .bool] × upds (valsOf tys))} (hV : Valid C.prog f ⟨valsOf tys, [.val .bool], F⟩)
    (hF : ∀ x, InAll tys x → ∃ u, F x = some ((true, ()), u)) :
    ReturnsInHanded {} C os f .any (s.pre6 enc C.prog fn conds apart) (s.post enc C.prog fn apart true false false) := by
  refine returnsInHanded_of_change_sized own started noInit hfn witness ?_
  intro W base args ds gs before hval hW _ _ _
  have hlt := hW.lt
  obtain ⟨p, q, hA, hVr, rfl, hfz, hnd⟩ := hW
  obtain ⟨x, hE, hin⟩ := open_all (O := O) fn.params.toList tys args.toList ds p hty (fun j t v h1 h2 => hval j t v (by simpa using h1) (by simpa using h2)) hA
  obtain ⟨u, hFx⟩ := hF x hin
  refine (law_calls hV hE hFx).mono fun e W' ⟨he, bel⟩ => ?_
  subst he
  have hgs : gs = [] ∧ q = [] := by
    rw [hvars] at hVr
    cases gs with
    | nil => exact ⟨rfl, hVr⟩
    | cons g gs => exact hVr.elim
  obtain ⟨rfl, rfl⟩ := hgs
  have hlen := trodAll_len _ _ _ _ hA
  have hs' := hs ds hlen
  refine ⟨_, rfl, ds, [], p ++ [], [], p, [], ⟨p, [], hA, hVr, rfl, hfz, hnd⟩, ?_, ?_, ?_, bel.frame _, fun h => by cases h⟩
  · rw [List.append_nil, hs', hrt]
    exact trodAll_mk1 (shut_bool htb _)
  · rw [List.append_nil, hs']
    exact carry_all hl bel _ _ _ _ hread (fun x hx => hlt x (by simpa using hx)) hA
  · rw [List.append_nil, hs', hvars]
    rfl
end
end Go.BB
namespace Go.BB
open Go
/-- no objects -/
def O0 : ObjK := {}
theorem Γok_nil {O : ObjK} {P : Program} : Γok (O := O) P [] := fun g c h => by cases h
theorem Γok_cons {O : ObjK} {P : Program} {g : Nat} {c : Ctr O} {Γ : List (Nat × Ctr O)} (h : Valid P g c) (hΓ : Γok P Γ) : Γok P ((g, c) :: Γ) := by
  intro g' c' hl
  rw [look_cons] at hl
  split at hl
  · rename_i e
    simp only at e
    subst e
    cases hl
    exact h
  · exact hΓ g' c' hl
theorem Kept_vals {O : ObjK} : ∀ (tys : List Ty) (x : dens (O := O) (valsOf tys)) (u : upds (valsOf tys)), Kept (valsOf tys) x u
  | [], _, _ => trivial
  | t :: ts, x, u => Kept_vals ts x.2 u.2
/-- a function of values -/
theorem valid_vals {O : ObjK} {P : Program} (hm : P.follows .mixedOrders = true) {g : Nat} {f : Func} {c : Code} {ts : List Tmp} (hf : P.funcs[g]? = some f) (hname : (f.name == "runtime.NumGoroutine") = false) (hb : f.body = some c)
    (hres : f.results.toList = ts.map .tmp) {cfg : Cfg O} (hT : TTok P cfg.tt) (hΓ : Γok P cfg.Γ) (tms : List Tm) {tys : List Ty} {outs : List (RK O)} {F : dens (O := O) (valsOf tys) → Option (rdens outs × upds (valsOf tys))}
    (hps : Nat.ble (clen (valsOf (O := O) tys)) (min 61 f.ntmps) = true) (hrun : ∀ x r u, F x = some (r, u) → ∃ K, runF cfg K f tms (valsOf tys) outs x = some (r, u)) : Valid P g ⟨valsOf tys, outs, F⟩ := by
  have h := Nat.le_of_ble_eq_true hps
  rw [clen_eq] at h
  exact valid_of_run hm hf hname hb hT hΓ (tms := tms) (ct := ⟨valsOf tys, outs, F⟩) (by simp only; omega) (by simp only; omega) (fun x r u _ => Kept_vals tys x u) hrun
end Go.BB
/-! types, words of contracts, loops -/
namespace Go.BB
open Go
abbrev tVer : Ty := .pair (.int .u64) (.int .u16)
abbrev tKey : Ty := .pair (.int .i64) (.int .i64)
abbrev tCell : Ty := .pair (.pair (.int .i64) (.int .i64)) (.int .u16)
abbrev tSpan : Ty := .pair (.int .i64) (.pair (.int .i64) (.int .i64))
abbrev tRow : Ty := .pair tKey (.slice tVer)
abbrev tView : Ty := .pair (.int .u64) (.pair (.slice tSpan) (.slice tCell))
/-- a store; the document's -/
abbrev tRef : Ty := .pair (.int .u64) (.pair (.int .i64) (.pair (.slice tRow) .unit))
abbrev shStore : Sh := .cons (.val (.int .u64)) (.cons (.val (.int .i64)) (.cons (.val (.int .i64)) (.cons (.map (.mapS tKey tVer)) .unit)))
abbrev shRef : Sh := .cons (.val (.int .u64)) (.cons (.val (.int .i64)) (.cons (.own tRow) .unit))
abbrev tObj : Ty := .pair (.int .i64) .str
abbrev tI : Ty := .int .i64
abbrev tB : Ty := .int .u8
abbrev tW : Ty := .int .u16
abbrev tU : Ty := .int .u64
/-- something, if it is so -/
def grd {α : Type} (b : Bool) (v : α) : Option α := cond b (some v) none
theorem grd_some {α : Type} {b : Bool} {v r : α} (h : grd b v = some r) : b = true ∧ v = r := by
  cases b
  · cases h
  · exact ⟨rfl, by cases h; rfl⟩
theorem bd_grd {α β : Type} {b : Bool} {v : α} {f : α → Option β} (h : b = true) : bd (grd b v) f = f v := by subst h; rfl
theorem bd_some' {α β : Type} {v : α} {f : α → Option β} : bd (some v) f = f v := rfl
theorem br_t {α : Type} {b : Bool} {x y : α} (h : b = true) : br b x y = x := by subst h; rfl
theorem br_f {α : Type} {b : Bool} {x y : α} (h : b = false) : br b x y = y := by subst h; rfl
theorem br_dt {α : Type} {p : Prop} [Decidable p] {x y : α} (h : p) : br (decide p) x y = x := br_t (decide_eq_true h)
theorem br_df {α : Type} {p : Prop} [Decidable p] {x y : α} (h : ¬ p) : br (decide p) x y = y := br_f (decide_eq_false h)
theorem br_ite {α : Type} {p : Prop} [Decidable p] {x y : α} : br (decide p) x y = if p then x else y := by
  by_cases h : p
  · rw [br_dt h, if_pos h]
  · rw [br_df h, if_neg h]
theorem br_ite' {α : Type} {b : Bool} {x y : α} : br b x y = if b = true then x else y := by cases b <;> rfl
/-- a loop that goes on n times, and ends -/
theorem loopN_for {X R : Type} {step : (X → Option R) → X → Option R} (n : Nat) (st : Nat → X) {res : Option R} (h : ∀ i, i < n → ∀ rec, step rec (st i) = rec (st (i + 1)))
    (hend : ∀ rec, step rec (st n) = res) : ∀ K, n < K → loopN step K (st 0) = res := by
  have key : ∀ d K, d ≤ n → d < K → loopN step K (st (n - d)) = res := by
    intro d
    induction d with
    | zero =>
      intro K _ hK
      match K, hK with
      | K + 1, _ => exact hend _
    | succ d ih =>
      intro K hd hK
      match K, hK with
      | K + 1, hK =>
        have := h (n - (d + 1)) (by omega) (loopN step K)
        rw [show n - (d + 1) + 1 = n - d by omega] at this
        exact this.trans (ih K (by omega) (by omega))
  intro K hK
  have := key n K (Nat.le_refl _) hK
  rwa [Nat.sub_self] at this
/-- a loop by a measure -/
theorem loopN_meas {X R : Type} {step : (X → Option R) → X → Option R} (m : X → Nat) (inv : X → Prop) (G : X → Option R)
    (h : ∀ x, inv x → ∀ rec, (∀ y, inv y → m y < m x → rec y = G y) → step rec x = G x) : ∀ K x, inv x → m x < K → loopN step K x = G x := by
  intro K
  induction K with
  | zero => intro x _ hx; omega
  | succ K ih => intro x hi hx; exact h x hi _ fun y hy hm => ih y hy (by omega)
theorem Kept_vals' {O : ObjK} {tys : List Ty} : ∀ (x : dens (O := O) (valsOf tys)) (u : upds (valsOf tys)), Kept (valsOf tys) x u := Kept_vals tys
/-- a function whose contract keeps the rows' lengths -/
theorem valid_fn {O : ObjK} {P : Program} (hm : P.follows .mixedOrders = true) {g : Nat} {f : Func} {c : Code} {ts : List Tmp} (hf : P.funcs[g]? = some f) (hname : (f.name == "runtime.NumGoroutine") = false) (hb : f.body = some c)
    (hres : f.results.toList = ts.map .tmp) {cfg : Cfg O} (hT : TTok P cfg.tt) (hΓ : Γok P cfg.Γ) (tms : List Tm) (ct : Ctr O)
    (hps : Nat.ble (clen ct.ins) (min 61 f.ntmps) = true) (hk : ∀ x r u, ct.F x = some (r, u) → Kept ct.ins x u) (hrun : ∀ x r u, ct.F x = some (r, u) → ∃ K, runF cfg K f tms ct.ins ct.outs x = some (r, u)) : Valid P g ct := by
  have h := Nat.le_of_ble_eq_true hps
  rw [clen_eq] at h
  exact valid_of_run hm hf hname hb hT hΓ (tms := tms) (ct := ct) (by omega) (by omega) hk hrun
/-- the same, whatever the results' variables are -/
theorem valid_fnc {O : ObjK} {P : Program} (hm : P.follows .mixedOrders = true) {g : Nat} {f : Func} {c : Code} (hf : P.funcs[g]? = some f) (hname : (f.name == "runtime.NumGoroutine") = false) (hb : f.body = some c)
    {cfg : Cfg O} (hT : TTok P cfg.tt) (hΓ : Γok P cfg.Γ) (tms : List Tm) (ct : Ctr O)
    (hps : Nat.ble (clen ct.ins) (min 61 f.ntmps) = true) (hk : ∀ x r u, ct.F x = some (r, u) → Kept ct.ins x u) (hrun : ∀ x r u, ct.F x = some (r, u) → ∃ K, runF cfg K f tms ct.ins ct.outs x = some (r, u)) : Valid P g ct := by
  have h := Nat.le_of_ble_eq_true hps
  rw [clen_eq] at h
  exact valid_of_run hm hf hname hb hT hΓ (tms := tms) (ct := ct) (by omega) (by omega) hk hrun
theorem resTmps {f : Func} {ts : List Tmp} (h : f.results.toList = ts.map .tmp) : f.results.toList = ts.map .tmp := h
def tmpsOf : List ResultVar → List Tmp
  | [] => []
  | .tmp t :: r => t :: tmpsOf r
  | _ :: r => tmpsOf r
end Go.BB
/-! types of requests, replies, deeds, plain registers -/
namespace Go.BB
open Go
abbrev tAsk : Ty := .pair tI (.pair tI (.pair tI (.pair tW (.pair tW (.pair tW (.pair (.slice .bool) (.pair (.slice tW) (.pair tI (.pair tI (.pair tI tI))))))))))
abbrev tTell : Ty := .pair tI (.pair tI (.pair (.slice .bool) (.pair (.slice tW) (.pair tI (.pair tI (.pair tW (.pair tW (.pair tW (.pair tI (.pair tI (.pair .bool (.pair tI (.slice tObj)))))))))))))
abbrev tStep : Ty := .pair tAsk tTell
abbrev tDeed : Ty := .pair .bool (.pair tU (.pair (.slice tStep) (.slice tCell)))
abbrev tPlain : Ty := .pair tI (.pair tI (.pair tI (.pair tI (.pair tW (.pair tW (.pair tW (.pair tI (.pair tI (.pair tI .bool)))))))))
abbrev shFile : Sh := .cons (.map (.map tKey tW)) .unit
end Go.BB
