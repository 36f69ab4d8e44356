/- A symbolic machine for the model's code, and what it shows of this seat's functions. No conditions. -/
import Derived.Test.YtnofmeckcimodaaFLaw
import Derived.Test.YtnofmeckcimodaaFLFile
import Derived.Test.YtnofmeckcimodaaFGfile
set_option linter.unusedSimpArgs false
set_option linter.unusedVariables false
namespace Go.BB
open Go Go.ChangeShapes Go.WideShapes Go.RowKit Go.Deep
mutual
def tyOKF (P : Program) : Nat → List Field → Nat → Ty → Bool
 | 0, _, _, _ => false
 | d + 1, fs, off, ty => match fs with
  | [] => false
  | [f] => match Nat.beq f.offset off with | true => tyOK P d f.type ty | false => false
  | f :: fs => match ty with
   | .pair a b => match Nat.beq f.offset off with
    | true => (match tyOK P d f.type a with | true => tyOKF P d fs (Nat.add off a.sz) b | false => false)
    | false => false
   | _ => false
def tyOK (P : Program) : Nat → Nat → Ty → Bool
 | 0, _, _ => false
 | d + 1, t, ty => match Nat.beq (P.cellsOf t) ty.sz with
  | false => false
  | true => match P.underlying t with
   | some d' => match ty with
    | .int k => match d' with | .int k' => (match decEq k k' with | .isTrue _ => true | .isFalse _ => false) | _ => false
    | .bool => match d' with | .bool => true | _ => false
    | .slice e => match d' with
     | .slice te => match Nat.blt 0 e.sz with | true => tyOK P d te e | false => false
     | _ => false
    | .pair a b => match d' with
     | .struct fs => tyOKF P d fs.toList 0 (.pair a b)
     | _ => false
    | _ => false
   | none => false
end
def InR2 : (t : Ty) → t.den → Prop
 | .int k, n => (Lit.int k n).wf = true
 | .slice t, xs => ∀ x, x ∈ (show List t.den from xs) → InR2 t x
 | .pair a b, x => InR2 a x.1 ∧ InR2 b x.2
 | _, _ => True
section
variable {O : ObjK} {P : Program} {H : Type} {enc : TypeId × Value → H} {W : World}
theorem tyOK_cells {d t : Nat} {ty : Ty} (h : tyOK P d t ty = true) : P.cellsOf t = ty.sz := by
 cases d with
 | zero => simp [tyOK] at h
 | succ d =>
  unfold tyOK at h
  split at h
  ·cases h
  ·rename_i hc; exact Nat.eq_of_beq_eq_true hc
mutual
theorem open_tyF : ∀ (d : Nat) (fs : List Field) (off : Nat) (ty : Ty), tyOKF P d fs off ty = true → ∀ (cs : List Value),
  (∀ f ∈ fs, ∃ n y, DataW.trod enc P W 0 (fun _ => true) true n f.type ((cs.drop f.offset).take (P.cellsOf f.type)) = some y) →
  ∃ x : ty.den, Rep W (fun b => b < W.heap.size) ty x ((cs.drop off).take ty.sz) ∧ InR2 ty x
 | 0, fs, off, ty, h => by simp [tyOKF] at h
 | d + 1, [], off, ty, h => by simp [tyOKF] at h
 | d + 1, [f], off, ty, h => by
  intro cs hall
  unfold tyOKF at h
  simp only at h
  split at h
  ·rename_i ho
   have ho := Nat.eq_of_beq_eq_true ho
   obtain ⟨n, y, hy⟩ := hall f List.mem_cons_self
   rw [ho, tyOK_cells h] at hy
   exact open_ty2 d f.type ty h _ _ _ _ hy
  ·cases h
 | d + 1, f :: g :: fs, off, ty, h => by
  intro cs hall
  unfold tyOKF at h
  simp only at h
  cases ty with
  | pair a b =>
   simp only at h
   split at h
   ·rename_i ho
    split at h
    ·rename_i h1
     have ho := Nat.eq_of_beq_eq_true ho
     obtain ⟨n, y, hy⟩ := hall f List.mem_cons_self
     rw [ho, tyOK_cells h1] at hy
     obtain ⟨x1, r1, i1⟩ := open_ty2 d f.type a h1 _ _ _ _ hy
     obtain ⟨x2, r2, i2⟩ := open_tyF d (g :: fs) (off + a.sz) b h cs fun f hf => hall f (List.mem_cons_of_mem _ hf)
     refine ⟨(x1, x2), ⟨_, _, ?_, r1, r2⟩, i1, i2⟩
     show (cs.drop off).take (a.sz + b.sz) = _
     rw [List.take_add, List.drop_drop]
    ·cases h
   ·cases h
  | _ => cases h
theorem open_ty2 : ∀ (d t : Nat) (ty : Ty), tyOK P d t ty = true → ∀ (fuel : Nat) (cs : List Value) (dd : DataW H) (ps : List MemPlace), DataW.trod enc P W 0 (fun _ => true) true fuel t cs = some (dd, ps) →
  ∃ x : ty.den, Rep W (fun b => b < W.heap.size) ty x cs ∧ InR2 ty x
 | 0, t, ty, h => by simp [tyOK] at h
 | d + 1, t, ty, h => by
  intro fuel cs dd ps hd
  have hcell := tyOK_cells h
  unfold tyOK at h
  split at h
  ·cases h
  ·cases hu : P.underlying t with
   | none => rw [hu] at h; cases h
   | some d' =>
    rw [hu] at h
    simp only at h
    cases ty with
    | int k =>
     cases d' <;> simp only at h <;> (try exact absurd h Bool.false_ne_true)
     rename_i k'
     split at h
     ·rename_i e _
      subst e
      obtain ⟨n, h1, h2, h3⟩ := DataW.trod_int hu hd
      exact ⟨n, h1, h3⟩
     ·cases h
    | bool =>
     cases d' <;> simp only at h <;> (try exact absurd h Bool.false_ne_true)
     obtain ⟨b, h1, h2⟩ := DataW.trod_bool hu hd
     exact ⟨b, h1, trivial⟩
    | str => cases h
    | unit => cases h
    | slice e =>
     cases d' <;> simp only at h <;> (try exact absurd h Bool.false_ne_true)
     rename_i te
     split at h
     ·rename_i hz
      rcases open_slice hu hd with ⟨rfl, _⟩ | ⟨a, len, cap, m, n, D, Q, rfl, _, hlc, _, hm, _, hall⟩
      ·exact ⟨[], ⟨none, 0, rfl, Nat.le_refl _, fun h => by cases h⟩, fun x hx => by cases hx⟩
      ·simp only [if_true] at hm
       subst hm
       have hce := tyOK_cells h
       have : ∀ i, i < m → ∃ x : e.den, (∃ cs', Rep W (fun b => b < W.heap.size) e x cs' ∧ ∀ q v, cs'[q]? = some v → W.cell? (a.add (i * e.sz + q)) = some v) ∧ InR2 e x := fun i hi => by
        obtain ⟨cs', c1, c2⟩ := hall i hi
        obtain ⟨x, r1, r2⟩ := open_ty2 d te e h _ _ _ _ c2
        obtain ⟨_, c3, c4⟩ := World.cells?_some c1
        refine ⟨x, ⟨cs', r1, fun q v hq => ?_⟩, r2⟩
        have hq' := (List.getElem?_eq_some_iff.1 hq).1
        rw [c3] at hq'
        have := c4 q hq'
        rw [add_add, hce] at this
        rw [this, hq]
       let X : Nat → e.den := fun i => if h : i < m then Classical.choose (this i h) else e.zero
       have hX : ∀ i, i < m → (∃ cs', Rep W (fun b => b < W.heap.size) e (X i) cs' ∧ ∀ q v, cs'[q]? = some v → W.cell? (a.add (i * e.sz + q)) = some v) ∧ InR2 e (X i) := fun i hi => by
        simp only [X, dif_pos hi]
        exact Classical.choose_spec (this i hi)
       refine ⟨(List.range len).map X, ⟨some a, m, by simp, by simpa using hlc, fun hp => ⟨a, rfl, ?_, fun j x hx => ?_⟩⟩, ?_⟩
       ·have hp' : 0 < len := by simpa using hp
        obtain ⟨⟨cs', r1, r2⟩, _⟩ := hX 0 (by omega)
        have hl := Rep_len _ _ _ r1
        have hz' : 0 < e.sz := by simpa using hz
        have h0 : cs'[0]? = some (cs'[0]'(by omega)) := List.getElem?_eq_getElem (by omega)
        have := block_of_cell (r2 0 _ h0)
        rw [add_block] at this
        exact this
       ·rw [List.getElem?_map, Option.map_eq_some_iff] at hx
        obtain ⟨j', hj, rfl⟩ := hx
        have hj1 := (List.getElem?_eq_some_iff.1 hj).1
        rw [List.length_range] at hj1
        rw [List.getElem?_range hj1] at hj
        cases hj
        exact (hX j (by omega)).1
       ·intro x hx
        obtain ⟨j, hj, rfl⟩ := List.mem_map.1 hx
        have := List.mem_range.1 hj
        exact (hX j (by omega)).2
     ·cases h
    | pair a b =>
     cases d' <;> simp only at h <;> (try exact absurd h Bool.false_ne_true)
     rename_i fs
     obtain ⟨xs, n, _, _, hlen, hsz, hf⟩ := DataW.trod_struct hu hd
     obtain ⟨x, r1, r2⟩ := open_tyF d fs.toList 0 (.pair a b) h cs fun f hf' => by
      obtain ⟨i, hi⟩ := List.getElem?_of_mem hf'
      have hi' : fs[i]? = some f := by simpa using hi
      have := hf i f hi'
      have hlt : i < xs.length := by
       have := (Array.getElem?_eq_some_iff.1 hi').1
       omega
      rw [List.getElem?_eq_getElem hlt] at this
      exact ⟨n, _, this⟩
     refine ⟨x, ?_, r2⟩
     rw [List.drop_zero, List.take_of_length_le (by rw [hlen, hcell]; exact Nat.le_refl _)] at r1
     exact r1
end
theorem cells_ok2 {d t base : Nat} {ty : Ty} (h : tyOK P d t ty = true) {v : Value} (hv : Value.okWide P W .any base t v) :
  (ty.isAgg = true ∧ ∃ arr, v = .agg arr) ∨ (ty.isAgg = false ∧ v.cells.toList = [v]) := by
 cases d with
 | zero => simp [tyOK] at h
 | succ d =>
  unfold tyOK at h
  split at h
  ·cases h
  ·cases hu : P.underlying t with
   | none => rw [hu] at h; cases h
   | some d' =>
    rw [hu] at h
    simp only at h
    unfold Value.okWide at hv
    rw [hu] at hv
    have plain : ∀ (hc : Cell.okWide P W .any base t v), (∀ cs, v = .agg cs → ¬ Cell.okWide P W .any base t v) → v.cells.toList = [v] := by
     intro hc hn
     cases v with
     | agg cs => exact absurd hc (hn cs rfl)
     | _ => rfl
    cases ty with
    | int k =>
     cases d' <;> simp only at h <;> (try exact absurd h Bool.false_ne_true)
     exact .inr ⟨rfl, plain hv fun cs e => by subst e; simp [Cell.okWide, Cell.ok, hu]⟩
    | bool =>
     cases d' <;> simp only at h <;> (try exact absurd h Bool.false_ne_true)
     exact .inr ⟨rfl, plain hv fun cs e => by subst e; simp [Cell.okWide, Cell.ok, hu]⟩
    | slice e =>
     cases d' <;> simp only at h <;> (try exact absurd h Bool.false_ne_true)
     exact .inr ⟨rfl, plain hv fun cs e => by subst e; simp [Cell.okWide, Cell.ok, hu]⟩
    | pair a b =>
     cases d' <;> simp only at h <;> (try exact absurd h Bool.false_ne_true)
     obtain ⟨cs, e, _⟩ := hv
     exact .inl ⟨rfl, cs, e⟩
    | _ => cases h
def tysOK (P : Program) : List Nat → List Ty → Bool
 | [], [] => true
 | t :: ts, ty :: tys => match tyOK P 20 t ty with | true => tysOK P ts tys | false => false
 | _, _ => false
def InAll2 : (tys : List Ty) → dens (O := O) (valsOf tys) → Prop
 | [], _ => True
 | t :: ts, x => InR2 t x.1 ∧ InAll2 ts x.2
theorem open_all2 {base : Nat} : ∀ (ts : List Nat) (tys : List Ty) (vs : List Value) (ds : List (DataW H)) (ps : List MemPlace), tysOK P ts tys = true → (∀ (j : Nat) t v, ts[j]? = some t → vs[j]? = some v → Value.okWide P W .any base t v) →
  DataW.TrodAll enc P W 0 (fun _ => true) true ts vs ds ps → ∃ x : dens (O := O) (valsOf tys), Entry W (fun b => b < W.heap.size) (valsOf tys) x vs [] ∧ InAll2 tys x
 | [], [], vs, ds, ps, _, _, h => by
  obtain ⟨rfl, _, _⟩ := trodAll_nil h
  exact ⟨(), ⟨rfl, rfl⟩, trivial⟩
 | [], _ :: _, _, _, _, h, _, _ => by cases h
 | _ :: _, [], _, _, _, h, _, _ => by cases h
 | t :: ts, ty :: tys, vs, ds, ps, ht, hv, h => by
  obtain ⟨v, vs', d, ds', p, q, rfl, rfl, rfl, h1, h2⟩ := trodAll_cons h
  obtain ⟨fuel, h1⟩ := h1
  unfold tysOK at ht
  split at ht
  ·rename_i ht1
   obtain ⟨x, g1, g2⟩ := open_ty2 20 t ty ht1 _ _ _ _ h1
   obtain ⟨xs, g3, g4⟩ := open_all2 ts tys vs' ds' q ht (fun j t' v' ht' hv' => hv (j + 1) t' v' ht' hv') h2
   refine ⟨(x, xs), ⟨v, vs', [], [], rfl, rfl, VRel_val ?_, g3⟩, g2, g4⟩
   unfold TRep
   rcases cells_ok2 ht1 (hv 0 t v rfl rfl) with ⟨ha, arr, rfl⟩ | ⟨ha, hc⟩
   ·rw [ha]
    exact ⟨arr, rfl, g1⟩
   ·rw [ha]
    rw [hc] at g1
    exact g1
  ·cases ht
theorem law_lifted2 {C : Checked} {os : Os} {f : FuncId} {fn : Func} {s : ChangeSpec} {conds : List PathCond} {apart : Bool} {tb : TypeId} {tys : List Ty}
  (own : ownKnob C.prog.godebug = none) (started : os.Started) (noInit : C.prog.inits.idxOf? f = none) (hfn : C.prog.funcs[f]? = some fn)
  (witness : ∃ (w : World) (tape : Tape) (i : Input), w.os = os ∧ (w.forCall tape i).Shaped C.prog ∧ i.vars = [] ∧ Input.okWide C.prog (w.forCall tape i) .any w.heap.size f i ∧
   s.pre6 enc C.prog fn conds apart (w.forCall tape i).memory i.args ∧ ({} : Assume).holds C.prog (lone (Frame.enter C.prog f i.args .normal) [] (w.forCall tape i)))
  (hl : laidOutB C.prog = true) (hty : tysOK C.prog fn.params.toList tys = true) (hread : ∀ t ∈ fn.params.toList, C.prog.readableRec t = true ∧ t < C.prog.types.size)
  (hrt : fn.resultTypes = #[tb]) (htb : C.prog.underlying tb = some .bool) (hvars : s.vars = [])
  (hs : ∀ ds : List (DataW H), ds.length = fn.params.toList.length → s.fn H ds = { results := [.lit (.bool true)], args := ds })
  {F : dens (O := O) (valsOf tys) → Option (rdens (O := O) [.val .bool] × upds (valsOf tys))} (hV : Valid C.prog f ⟨valsOf tys, [.val .bool], F⟩)
  (hF : ∀ x, InAll2 tys x → ∃ u, F x = some ((true, ()), u)) :
  ReturnsInHanded {} C os f .any (s.pre6 enc C.prog fn conds apart) (s.post enc C.prog fn apart true false false) := by
 refine returnsInHanded_of_change_sized own started noInit hfn witness ?_
 intro W base args ds gs before hval hW _ _ _
 have hlt := hW.lt
 obtain ⟨p, q, hA, hVr, rfl, hfz, hnd⟩ := hW
 obtain ⟨x, hE, hin⟩ := open_all2 (O := O) fn.params.toList tys args.toList ds p hty (fun j t v h1 h2 => hval j t v (by simpa using h1) (by simpa using h2)) hA
 obtain ⟨u, hFx⟩ := hF x hin
 refine (law_calls hV hE hFx).mono fun e W' ⟨he, bel⟩ => ?_
 subst he
 have hgs : gs = [] ∧ q = [] := by
  rw [hvars] at hVr
  cases gs with
  | nil => exact ⟨rfl, hVr⟩
  | cons g gs => exact hVr.elim
 obtain ⟨rfl, rfl⟩ := hgs
 have hlen := trodAll_len _ _ _ _ hA
 have hs' := hs ds hlen
 refine ⟨_, rfl, ds, [], p ++ [], [], p, [], ⟨p, [], hA, hVr, rfl, hfz, hnd⟩, ?_, ?_, ?_, bel.frame _, fun h => by cases h⟩
 ·rw [List.append_nil, hs', hrt]
  exact trodAll_mk1 (shut_bool htb _)
 ·rw [List.append_nil, hs']
  exact carry_all hl bel _ _ _ _ hread (fun x hx => hlt x (by simpa using hx)) hA
 ·rw [List.append_nil, hs', hvars]
  rfl
end
end Go.BB
set_option linter.unusedSimpArgs false
set_option linter.unusedVariables false
namespace Go.BB
open Go
abbrev Fok {tys : List Ty} (g : dens (O := O0) (valsOf tys) → Bool) (u : upds (O := O0) (valsOf tys)) : dens (O := O0) (valsOf tys) → Option (rdens (O := O0) [.val .bool] × upds (O := O0) (valsOf tys)) := fun x => grd (g x) ((true, ()), u)
theorem valid_law {P : Program} (hm : P.follows .mixedOrders = true) {n : Nat} {f : Func} {c : Code} {ts : List Tmp} (hf : P.funcs[n]? = some f) (hname : (f.name == "runtime.NumGoroutine") = false) (hb : f.body = some c)
  (hres : f.results.toList = ts.map .tmp) {cfg : Cfg O0} (hT : TTok P cfg.tt) (hΓ : Γok P cfg.Γ) (tms : List Tm) {tys : List Ty} {g : dens (O := O0) (valsOf tys) → Bool} {u : upds (O := O0) (valsOf tys)}
  (hps : Nat.ble (clen (valsOf (O := O0) tys)) (min 61 f.ntmps) = true) (hrun : ∀ x, g x = true → ∃ K, runF cfg K f tms (valsOf tys) [.val .bool] x = some ((true, ()), u)) :
  Valid (O := O0) P n ⟨valsOf tys, [.val .bool], Fok g u⟩ :=
 valid_fn hm hf hname hb hres hT hΓ tms _ hps (fun x _ u _ => Kept_vals tys x u) fun x r u' h => by
  have h' : grd (g x) (((true, ()), u) : rdens (O := O0) [.val .bool] × upds (O := O0) (valsOf tys)) = some (r, u') := h
  obtain ⟨h1, h2⟩ := grd_some h'
  obtain ⟨K, hK⟩ := hrun x h1
  exact ⟨K, hK.trans (congrArg some h2)⟩
theorem grd_t {α : Type} {b : Bool} {v : α} (h : b = true) : grd b v = some v := by subst h; rfl
theorem and_t {a b : Bool} (h1 : a = true) (h2 : b = true) : (a && b) = true := by rw [h1, h2]; rfl
end Go.BB
set_option linter.unusedSimpArgs false
set_option linter.unusedVariables false
namespace Go.BB
open Go Go.Proofs
set_option maxRecDepth 100000
theorem v_late : Valid Try.prog n_late c_late := by
 refine valid_fn mixed hf_late (by kernel_rfl) rfl (ts := tmpsOf f_late.results.toList) (by kernel_rfl) (cfg := cfgW g_late) tt_ok Γok_nil late_tm c_late (by kernel_rfl) (fun _ _ _ _ => ⟨⟩) ?_
 rintro ⟨(d : Deed), ⟨⟩⟩ r u h
 refine ⟨0, (late_rn _ _).trans (Eq.trans ?_ h)⟩
 obtain ⟨w, d⟩ := d
 cases w <;> rfl
theorem v_isNaNU : Valid Try.prog n_isNaNU c_isNaNU := by
 refine valid_fn mixed hf_isNaNU (by kernel_rfl) rfl (ts := tmpsOf f_isNaNU.results.toList) (by kernel_rfl) (cfg := cfgW g_isNaNU) tt_ok Γok_nil isNaNU_tm c_isNaNU (by kernel_rfl) (fun _ _ _ _ => ⟨⟩) ?_
 rintro ⟨(d : Int), ⟨⟩⟩ r u h
 refine ⟨0, (isNaNU_rn _ _).trans (Eq.trans ?_ h)⟩
 unfold isNaNU_P
 show _ = some ((false, ()), ((), ()))
 simp
theorem v_isNaNI : Valid Try.prog n_isNaNI c_isNaNI := by
 refine valid_fn mixed hf_isNaNI (by kernel_rfl) rfl (ts := tmpsOf f_isNaNI.results.toList) (by kernel_rfl) (cfg := cfgW g_isNaNI) tt_ok Γok_nil isNaNI_tm c_isNaNI (by kernel_rfl) (fun _ _ _ _ => ⟨⟩) ?_
 rintro ⟨(d : Int), ⟨⟩⟩ r u h
 refine ⟨0, (isNaNI_rn _ _).trans (Eq.trans ?_ h)⟩
 unfold isNaNI_P
 show _ = some ((false, ()), ((), ()))
 simp
theorem v_cmpU : Valid Try.prog n_cmpU c_cmpU := by
 refine valid_fn mixed hf_cmpU (by kernel_rfl) rfl (ts := tmpsOf f_cmpU.results.toList) (by kernel_rfl) (cfg := cfgW g_cmpU) tt_ok (Γok_cons v_isNaNU Γok_nil) cmpU_tm c_cmpU (by kernel_rfl) (fun _ _ _ _ => ⟨⟩) ?_
 rintro ⟨(a : Int), (b : Int), ⟨⟩⟩ r u h
 refine ⟨0, (cmpU_rn _ _ _).trans (Eq.trans ?_ h)⟩
 unfold cmpU_P
 show _ = some ((cmp3 a b, ()), ((), (), ()))
 unfold cmp3
 by_cases h1 : a < b
 ·rw [br_dt h1, if_pos h1]
 ·rw [br_df h1, if_neg h1]
  by_cases h2 : a > b
  ·rw [br_dt h2, if_pos h2]
  ·rw [br_df h2, if_neg h2]
theorem v_cmpI : Valid Try.prog n_cmpI c_cmpI := by
 refine valid_fn mixed hf_cmpI (by kernel_rfl) rfl (ts := tmpsOf f_cmpI.results.toList) (by kernel_rfl) (cfg := cfgW g_cmpI) tt_ok (Γok_cons v_isNaNI Γok_nil) cmpI_tm c_cmpI (by kernel_rfl) (fun _ _ _ _ => ⟨⟩) ?_
 rintro ⟨(a : Int), (b : Int), ⟨⟩⟩ r u h
 refine ⟨0, (cmpI_rn _ _ _).trans (Eq.trans ?_ h)⟩
 unfold cmpI_P
 show _ = some ((cmp3 a b, ()), ((), (), ()))
 unfold cmp3
 by_cases h1 : a < b
 ·rw [br_dt h1, if_pos h1]
 ·rw [br_df h1, if_neg h1]
  by_cases h2 : a > b
  ·rw [br_dt h2, if_pos h2]
  ·rw [br_df h2, if_neg h2]
theorem v_cmpOr : Valid Try.prog n_cmpOr c_cmpOr := by
 refine valid_fn mixed hf_cmpOr (by kernel_rfl) rfl (ts := tmpsOf f_cmpOr.results.toList) (by kernel_rfl) (cfg := cfgW g_cmpOr) tt_ok Γok_nil cmpOr_tm c_cmpOr (by kernel_rfl) (fun _ _ _ _ => ⟨⟩) ?_
 rintro ⟨(l : List Int), ⟨⟩⟩ r u h
 obtain ⟨h1, h2⟩ := grd_some h
 have hl := lenOk_lt h1
 dsimp only at hl h2
 refine ⟨l.length + 1, (cmpOr_rn _ _).trans (Eq.trans ?_ (congrArg some h2))⟩
 show loopN cmpOr_L1 (l.length + 1) (0, l, (l.length : Int), 0, ()) = some ((firstNZ l, ()), ((), ()))
 have key : ∀ (n i : Nat), i + n = l.length → ∀ K, n < K → loopN cmpOr_L1 K (0, l, (l.length : Int), (i : Int), ()) = some ((firstNZ (l.drop i), ()), ((), ())) := by
  intro n
  induction n with
  | zero =>
   intro i hi K hK
   obtain ⟨K, rfl⟩ : ∃ k, K = k + 1 := ⟨K - 1, by omega⟩
   show cmpOr_L1 _ _ = _
   simp only [cmpOr_L1]
   rw [br_df (by omega), List.drop_of_length_le (by omega)]
   rfl
  | succ n ih =>
   intro i hi K hK
   obtain ⟨K, rfl⟩ : ∃ k, K = k + 1 := ⟨K - 1, by omega⟩
   show cmpOr_L1 _ _ = _
   simp only [cmpOr_L1, Int.toNat_natCast]
   rw [br_dt (by omega), br_dt (by omega), br_dt (by omega), drop_cons l i 0 (by omega)]
   generalize l.getD i 0 = a
   unfold firstNZ
   by_cases ha : a ≠ 0
   ·rw [br_t (by simpa using ha), if_pos ha]
   ·rw [br_f (by simpa using ha), if_neg ha, wrapI (by omega) (by omega)]
    exact ih (i + 1) (by omega) K (by omega)
 exact key l.length 0 (by omega) _ (by omega)
theorem v_ordLess : Valid Try.prog n_ordLess c_ordLess := by
 refine valid_fn mixed hf_ordLess (by kernel_rfl) rfl (ts := tmpsOf f_ordLess.results.toList) (by kernel_rfl) (cfg := cfgW g_ordLess) tt_ok (Γok_cons v_cmpU (Γok_cons v_cmpI (Γok_cons v_cmpOr (Γok_cons v_late Γok_nil)))) ordLess_tm c_ordLess (by kernel_rfl) (fun _ _ _ _ => ⟨⟩) ?_
 rintro ⟨(a : Deed), (b : Deed), ⟨⟩⟩ r u h
 refine ⟨0, (ordLess_rn _ _ _).trans (Eq.trans ?_ h)⟩
 unfold ordLess_P
 show _ = some ((deedCmp a b, ()), ((), (), ()))
 rw [bd_grd (by rfl)]
 have e : firstNZ [cmp3 a.2.1 b.2.1, cmp3 (lateS a) (lateS b)] = deedCmp a b := by
  unfold firstNZ deedCmp
  split
  ·rfl
  ·unfold firstNZ firstNZ
   split
   ·rfl
   ·rename_i h2; exact (Decidable.not_not.1 h2).symm
 show some ((firstNZ [cmp3 a.2.1 b.2.1, cmp3 (lateS a) (lateS b)], ()), (), (), ()) = _
 rw [e]
theorem v_cloneSteps : Valid Try.prog n_cloneSteps c_cloneSteps := by
 refine valid_fn mixed hf_cloneSteps (by kernel_rfl) rfl (ts := tmpsOf f_cloneSteps.results.toList) (by kernel_rfl) (cfg := cfgW g_cloneSteps) tt_ok Γok_nil cloneSteps_tm c_cloneSteps (by kernel_rfl) (fun _ _ _ _ => ⟨⟩) ?_
 rintro ⟨(l : List StepT), ⟨⟩⟩ r u h
 obtain ⟨h1, h2⟩ := grd_some h
 have hl : l.length < 1000000 := of_decide_eq_true h1
 refine ⟨0, (cloneSteps_rn _ _).trans (Eq.trans ?_ (congrArg some h2))⟩
 unfold cloneSteps_P
 rw [Nat.zero_add, br_dt (lim_mul (by omega) (by decide)), br_dt (lim_le (by omega))]
 show mayB l.isEmpty (some (([], ()), (), ())) (some ((l, ()), (), ())) = some ((l, ()), (), ())
 cases l with
 | nil => exact if_pos rfl
 | cons a l => rfl
theorem v_cloneObjs : Valid Try.prog n_cloneObjs c_cloneObjs := by
 refine valid_fn mixed hf_cloneObjs (by kernel_rfl) rfl (ts := tmpsOf f_cloneObjs.results.toList) (by kernel_rfl) (cfg := cfgW g_cloneObjs) tt_ok Γok_nil cloneObjs_tm c_cloneObjs (by kernel_rfl) (fun _ _ _ _ => ⟨⟩) ?_
 rintro ⟨(l : List ObjT), ⟨⟩⟩ r u h
 obtain ⟨h1, h2⟩ := grd_some h
 have hl : l.length < 1000000 := of_decide_eq_true h1
 refine ⟨0, (cloneObjs_rn _ _).trans (Eq.trans ?_ (congrArg some h2))⟩
 unfold cloneObjs_P
 rw [Nat.zero_add, br_dt (lim_mul (by omega) (by decide)), br_dt (lim_le (by omega))]
 show mayB l.isEmpty (some (([], ()), (), ())) (some ((l, ()), (), ())) = some ((l, ()), (), ())
 cases l with
 | nil => exact if_pos rfl
 | cons a l => rfl
theorem pd1 (s : StepT) : (putD tStep s 6 (.slice .bool) s.1.2.2.2.2.2.2.1 : StepT) = s := by rfl
theorem pd2 (s : StepT) : (putD tStep s 7 (.slice tW) s.1.2.2.2.2.2.2.2.1 : StepT) = s := by rfl
theorem pd3 (s : StepT) : (putD tStep s 14 (.slice .bool) s.2.2.2.1 : StepT) = s := by rfl
theorem pd4 (s : StepT) : (putD tStep s 15 (.slice tW) s.2.2.2.2.1 : StepT) = s := by rfl
theorem pd5 (s : StepT) : (putD tStep s 25 (.slice tObj) s.2.2.2.2.2.2.2.2.2.2.2.2.2.2 : StepT) = s := by rfl
theorem v_own : Valid Try.prog n_own c_own := by
 refine valid_fnc mixed hf_own (by kernel_rfl) rfl (cfg := cfgW g_own) tt_ok (Γok_cons v_cloneCells (Γok_cons v_cloneSteps (Γok_cons v_cloneBits (Γok_cons v_cloneWords (Γok_cons v_cloneObjs Γok_nil))))) own_tm c_own (by kernel_rfl) (fun _ _ _ _ => ⟨⟩) ?_
 rintro ⟨(d : Deed), ⟨⟩⟩ r u h
 obtain ⟨h1, h2⟩ := grd_some h
 obtain ⟨g1, g2, g3⟩ := deedOk_iff.1 h1
 obtain ⟨w, q, ss, f⟩ := d
 try dsimp only at g1 g2 g3
 refine ⟨ss.length + 1, (own_rn _ _).trans (Eq.trans ?_ (congrArg some h2))⟩
 unfold own_P
 rw [bd_grd (decide_eq_true g2), bd_grd (decide_eq_true g1)]
 refine loopN_for (step := own_L1) ss.length (fun i => ((w, q, ss, f, ()), (false, 0, (), (), ()), (ss.length : Int), (i : Int), ())) (fun i hi rec => ?_) (fun rec => ?_) (ss.length + 1) (by omega)
 ·have hs := stepOk_iff.1 (g3 _ (mem_getD (z := (((0, 0, 0, 0, 0, 0, [], [], 0, 0, 0, 0), 0, 0, [], [], 0, 0, 0, 0, 0, 0, 0, false, 0, []) : StepT)) hi))
  simp only [own_L1, Int.toNat_natCast]
  rw [br_dt (by omega), br_dt (by omega), br_dt (by omega), br_dt (by omega), br_dt (by omega), bd_grd (decide_eq_true hs.1), bd_grd (decide_eq_true hs.2.1)]
  simp only [pd1, pd2, pd3, pd4, pd5, set_same hi]
  rw [bd_grd (decide_eq_true hs.2.2.1), bd_grd (decide_eq_true hs.2.2.2.1), bd_grd (decide_eq_true hs.2.2.2.2)]
  simp only [pd1, pd2, pd3, pd4, pd5, set_same hi]
  rw [wrapI (by omega) (by omega)]
  rfl
 ·simp only [own_L1]
  rw [br_df (by omega)]
  rfl
theorem deedEta (d : Deed) : ((d.1, d.2.1, d.2.2.1, d.2.2.2) : Deed) = d := rfl
theorem ins_inner (rec1 : (List Deed × Nat) × Int × Int × Unit × Int × Unit → Option (Unit × List Deed × Unit × Unit × Unit × Unit)) (P : List Deed) (x : Deed) (Q : List Deed) (n : Nat) (b i : Int) (hn : n ≤ 1000) : ∀ (r M : List Deed) (K : Nat), r.length < K →
  P.length + r.length + 1 + M.length + Q.length = n →
  loopN (insSort_L1 rec1) K ((insRow P r x (M ++ Q), n), (P.length : Int), b, (), i, ((P.length + r.length : Nat) : Int), ()) =
   rec1 ((P ++ ((insD x r).reverse ++ (M ++ Q)), n), (P.length : Int), b, (), IntKind.i64.wrap (i + 1), ()) := by
 intro r
 induction r with
 | nil =>
  intro M K hK hl
  obtain ⟨K, rfl⟩ : ∃ k, K = k + 1 := ⟨K - 1, by omega⟩
  show insSort_L1 rec1 _ _ = _
  simp only [insSort_L1]
  rw [br_df (by simp)]
  have : insRow P [] x (M ++ Q) = P ++ ((insD x []).reverse ++ (M ++ Q)) := by simp [insRow, insD]
  rw [this]
 | cons c r ih =>
  intro M K hK hl
  obtain ⟨K, rfl⟩ : ∃ k, K = k + 1 := ⟨K - 1, by omega⟩
  simp only [List.length_cons] at hK hl
  obtain ⟨s1, s2, s3⟩ := insRow_swap P r (M ++ Q) x c (false, 0, [], [])
  show insSort_L1 rec1 _ _ = _
  have ej : ((P.length + (c :: r).length : Nat) : Int) = ((P.length + (r.length + 1) : Nat) : Int) := by simp
  have ej1 : IntKind.i64.wrap (((P.length + (r.length + 1) : Nat) : Int) - 1) = ((P.length + r.length : Nat) : Int) := by rw [wrapI (by omega) (by omega)]; omega
  rw [ej]
  simp only [insSort_L1, ej1, Int.toNat_natCast, deedEta, s1, s2, s3]
  rw [br_dt (by omega), br_dt (by omega), br_dt (by omega), br_dt (by omega), br_dt (by omega)]
  by_cases hc : deedCmp x c < 0
  ·rw [br_dt hc, br_dt (by omega), br_dt (by omega), br_dt (by omega), br_dt (by omega), br_dt (by omega), br_dt (by omega), br_dt (by omega), br_dt (by omega)]
   have := ih (c :: M) K (by omega) (by simp only [List.length_cons]; omega)
   rw [List.cons_append] at this
   refine this.trans ?_
   have e : insD x (c :: r) = c :: insD x r := by rw [insD, if_pos hc]
   rw [e]
   simp
  ·rw [br_df hc]
   have : insRow P (c :: r) x (M ++ Q) = P ++ ((insD x (c :: r)).reverse ++ (M ++ Q)) := by
    rw [insD, if_neg hc]
    simp [insRow]
   rw [this]
def insAt (l : List Deed) (a i : Nat) : List Deed := l.take a ++ ((sortR ((l.drop a).take (i - a))).reverse ++ l.drop i)
theorem v_insSort : Valid Try.prog n_insSort (c_insSort n_ordLess) := by
 refine valid_fn mixed hf_insSort (by kernel_rfl) rfl (ts := tmpsOf f_insSort.results.toList) (by kernel_rfl) (cfg := cfgW g_insSort) tt_ok (Γok_cons v_ordLess Γok_nil) insSort_tm (c_insSort n_ordLess) (by kernel_rfl) (fun x r u h => by
  obtain ⟨h1, h2⟩ := grd_some h
  simp only [Bool.and_eq_true, decide_eq_true_eq] at h1
  cases h2
  exact ⟨sortSeg_len _ h1.2.1 h1.2.2.1 (by omega), ⟨⟩⟩) ?_
 rintro ⟨⟨(l : List Deed), (n : Nat)⟩, (a : Int), (b : Int), ⟨⟩, ⟨⟩⟩ r u h
 obtain ⟨h1, h2⟩ := grd_some h
 simp only [Bool.and_eq_true, decide_eq_true_eq] at h1
 obtain ⟨g1, g2, g3, g4, g5⟩ := h1
 try dsimp only at g1 g2 g3 g4 g5
 refine ⟨1010, (insSort_rn _ _ _ _ _).trans (Eq.trans ?_ (congrArg some h2))⟩
 show insSort_P 1010 (l, n) a b () = some ((), (sortSeg l a b, (), (), (), ()))
 unfold insSort_P
 subst g1
 rw [wrapI (by omega) (by omega)]
 obtain ⟨A, rfl⟩ : ∃ k : Nat, a = (k : Int) := ⟨a.toNat, by omega⟩
 obtain ⟨B, rfl⟩ : ∃ k : Nat, b = (k : Int) := ⟨b.toNat, by omega⟩
 by_cases hAB : A = B
 ·subst hAB
  rw [sortSeg_none _ (by omega)]
  show insSort_L2 1010 _ _ = _
  simp only [insSort_L2]
  rw [br_df (by omega)]
 have hstep : ∀ i, A < i → i < B → ∀ rec, insSort_L2 1010 rec ((insAt l A i, l.length), (A : Int), (B : Int), (), (i : Int), ()) = rec ((insAt l A (i + 1), l.length), (A : Int), (B : Int), (), ((i + 1 : Nat) : Int), ()) := by
  intro i hi1 hi2 rec
  simp only [insSort_L2]
  rw [br_dt (by omega)]
  have hP : (l.take A).length = A := by rw [List.length_take]; omega
  have hr : (sortR ((l.drop A).take (i - A))).length = i - A := by rw [sortR_len, List.length_take, List.length_drop]; omega
  have hx : l.drop i = l.getD i (false, 0, [], []) :: l.drop (i + 1) := drop_cons l i _ (by omega)
  have e1 : insAt l A i = insRow (l.take A) (sortR ((l.drop A).take (i - A))) (l.getD i (false, 0, [], [])) ([] ++ l.drop (i + 1)) := by
   unfold insAt insRow
   rw [hx]; simp
  have e2 : insAt l A (i + 1) = l.take A ++ ((insD (l.getD i (false, 0, [], [])) (sortR ((l.drop A).take (i - A)))).reverse ++ ([] ++ l.drop (i + 1))) := by
   unfold insAt
   rw [show i + 1 - A = (i - A) + 1 by omega, take_snoc (l.drop A) (i - A) (false, 0, [], []) (by rw [List.length_drop]; omega), sortR_snoc]
   have : (l.drop A).getD (i - A) (false, 0, [], []) = l.getD i (false, 0, [], []) := by
    rw [List.getD_eq_getElem?_getD, List.getElem?_drop, List.getD_eq_getElem?_getD, show A + (i - A) = i by omega]
   rw [this, List.nil_append]
  have := ins_inner rec (l.take A) (l.getD i (false, 0, [], [])) (l.drop (i + 1)) l.length (B : Int) (i : Int) (by omega) (sortR ((l.drop A).take (i - A))) [] 1010 (by omega) (by rw [hP, hr, List.length_drop]; simp; omega)
  rw [e1, e2]
  rw [hP, hr, show A + (i - A) = i by omega, wrapI (n := (i : Int) + 1) (by omega) (by omega)] at this
  exact this
 have hA : insAt l A (A + 1) = l := by
  unfold insAt
  rw [show A + 1 - A = 0 + 1 by omega, take_snoc (l.drop A) 0 (false, 0, [], []) (by rw [List.length_drop]; omega), List.take_zero, List.nil_append]
  have : (l.drop A).getD 0 (false, 0, [], []) = l.getD A (false, 0, [], []) := by
   rw [List.getD_eq_getElem?_getD, List.getElem?_drop, List.getD_eq_getElem?_getD, Nat.add_zero]
  rw [this]
  show l.take A ++ ([l.getD A _] ++ l.drop (A + 1)) = l
  rw [List.singleton_append, ← drop_cons l A _ (by omega), List.take_append_drop]
 have := loopN_for (step := insSort_L2 1010) (B - A - 1) (fun k => ((insAt l A (A + 1 + k), l.length), (A : Int), (B : Int), (), ((A + 1 + k : Nat) : Int), ())) (res := some ((), (sortSeg l A B, (), (), (), ()))) (fun k hk rec => by
  have := hstep (A + 1 + k) (by omega) (by omega) rec
  exact this) (fun rec => by
  simp only [insSort_L2]
  rw [br_df (by omega), show A + 1 + (B - A - 1) = B by omega]
  have : insAt l A B = sortSeg l A B := by
   unfold insAt sortSeg sortD
   rw [show ((B : Int) - (A : Int)).toNat = B - A by omega]
   rfl
  rw [this]) 1010 (by omega)
 rw [Nat.add_zero, hA] at this
 exact this
theorem v_symMerge : Valid Try.prog n_symMerge (c_symMerge n_ordLess) := by
 refine valid_fn mixed hf_symMerge (by kernel_rfl) rfl (ts := tmpsOf f_symMerge.results.toList) (by kernel_rfl) (cfg := cfgW []) tt_ok Γok_nil [] (c_symMerge n_ordLess) (by kernel_rfl) (fun x r u h => by cases h) fun x r u h => by cases h
theorem v_stable : Valid Try.prog n_stable (c_stable n_ordLess) := by
 refine valid_fn mixed hf_stable (by kernel_rfl) rfl (ts := tmpsOf f_stable.results.toList) (by kernel_rfl) (cfg := cfgW g_stable) tt_ok (Γok_cons v_insSort (Γok_cons v_symMerge Γok_nil)) stable_tm (c_stable n_ordLess) (by kernel_rfl) (fun x r u h => by
  obtain ⟨h1, h2⟩ := grd_some h
  cases h2
  exact ⟨sortD_len _, ⟨⟩⟩) ?_
 rintro ⟨⟨(l : List Deed), (n : Nat)⟩, (m : Int), ⟨⟩, ⟨⟩⟩ r u h
 obtain ⟨h1, h2⟩ := grd_some h
 simp only [Bool.and_eq_true, decide_eq_true_eq] at h1
 obtain ⟨g1, g2, g3⟩ := h1
 try dsimp only at g1 g2 g3
 refine ⟨10, (stable_rn _ _ _ _).trans (Eq.trans ?_ (congrArg some h2))⟩
 show stable_P 10 (l, n) m () = some ((), (sortD l, (), (), ()))
 subst g1
 subst g2
 unfold stable_P
 have hend : ∀ y6, (l.length : Int) ≤ y6 → ∀ l', loopN (stable_L2 10) 10 ((l', l.length), (l.length : Int), (), y6, ()) = some ((), (l', (), (), ())) := by
  intro y6 hy l'
  show stable_L2 10 _ _ = _
  simp only [stable_L2]
  rw [br_df (by omega)]
 show stable_L3 10 _ _ = _
 simp only [stable_L3]
 by_cases h20 : l.length = 20
 ·rw [br_dt (by omega), bd_grd (by simp; omega)]
  show stable_L3 10 _ _ = _
  simp only [stable_L3]
  have hl : (sortSeg l 0 20).length = l.length := sortSeg_len l (by decide) (by decide) (by omega)
  rw [br_df (by rw [h20]; decide), bd_grd (and_t (decide_eq_true hl.symm) (and_t (by decide) (and_t (decide_eq_true (by omega)) (and_t (decide_eq_true (by omega)) (decide_eq_true (by omega))))))]
  refine (hend 20 (by omega) _).trans ?_
  have : sortSeg (sortSeg l 0 20) 20 (l.length : Int) = sortD l := by
   rw [h20]
   show sortSeg (sortSeg l 0 20) 20 20 = _
   rw [sortSeg_none _ (by decide)]
   have := sortSeg_all l
   rw [h20] at this
   exact this
  rw [this]
 ·rw [br_df (by omega), bd_grd (by simp; omega)]
  refine (hend 20 (by omega) _).trans ?_
  rw [sortSeg_all]
theorem v_sortStable : Valid Try.prog n_sortStable (c_sortStable n_ordLess) := by
 refine valid_fn mixed hf_sortStable (by kernel_rfl) rfl (ts := tmpsOf f_sortStable.results.toList) (by kernel_rfl) (cfg := cfgW g_sortStable) tt_ok (Γok_cons v_stable Γok_nil) sortStable_tm (c_sortStable n_ordLess) (by kernel_rfl) (fun x r u h => by
  obtain ⟨h1, h2⟩ := grd_some h
  cases h2
  exact ⟨sortD_len _, ⟨⟩⟩) ?_
 rintro ⟨⟨(l : List Deed), (n : Nat)⟩, ⟨⟩, ⟨⟩⟩ r u h
 obtain ⟨h1, h2⟩ := grd_some h
 simp only [Bool.and_eq_true, decide_eq_true_eq] at h1
 refine ⟨0, (sortStable_rn _ _ _).trans (Eq.trans ?_ (congrArg some h2))⟩
 show sortStable_P 0 (l, n) () = some ((), (sortD l, (), ()))
 unfold sortStable_P
 rw [bd_grd (and_t (decide_eq_true h1.1) (and_t (decide_eq_true rfl) (decide_eq_true h1.2)))]
theorem v_forder : Valid Try.prog n_forder c_forder := by
 refine valid_fn mixed hf_forder (by kernel_rfl) rfl (ts := tmpsOf f_forder.results.toList) (by kernel_rfl) (cfg := cfgW g_forder) tt_ok (Γok_cons v_own (Γok_cons v_sortStable Γok_nil)) forder_tm c_forder (by kernel_rfl) (fun _ _ _ _ => ⟨⟩) ?_
 rintro ⟨(l : List Deed), ⟨⟩⟩ r u h
 obtain ⟨h1, h2⟩ := grd_some h
 simp only [Bool.and_eq_true, decide_eq_true_eq, List.all_eq_true] at h1
 obtain ⟨g1, g2⟩ := h1
 try dsimp only at g1 g2
 refine ⟨30, (forder_rn _ _).trans (Eq.trans ?_ (congrArg some h2))⟩
 show forder_P 30 l = some ((sortD l, ()), ((), ()))
 unfold forder_P
 rw [Int.toNat_natCast, br_dt (by omega), br_dt (lim_mul (by omega) (by decide)), br_dt (lim_le (by omega))]
 have := loopN_for (step := forder_L1) l.length (fun i => (l.take i ++ List.replicate (l.length - i) (false, 0, [], []), l, (l.length : Int), (i : Int), ())) (res := some ((sortD l, ()), ((), ()))) (fun i hi rec => ?_) (fun rec => ?_) 30 (by omega)
 ·simpa using this
 ·simp only [forder_L1, Int.toNat_natCast, deedEta]
  have hm := g2 _ (mem_getD (z := ((false, 0, [], []) : Deed)) hi)
  have hlen : (l.take i ++ List.replicate (l.length - i) ((false, 0, [], []) : Deed)).length = l.length := by simp; omega
  rw [br_dt (by omega), br_dt (by omega), br_dt (by omega), bd_grd hm, br_dt (by omega), br_dt (by omega), wrapI (by omega) (by omega)]
  simp only [deedEta]
  have : (l.take i ++ List.replicate (l.length - i) ((false, 0, [], []) : Deed)).set i (l.getD i (false, 0, [], [])) = l.take (i + 1) ++ List.replicate (l.length - (i + 1)) (false, 0, [], []) := by
   rw [List.set_append_right _ _ (by simp; omega), take_snoc l i (false, 0, [], []) hi, show l.length - i = (l.length - (i + 1)) + 1 by omega, List.replicate_succ]
   have : i - (l.take i).length = 0 := by simp; omega
   rw [this]
   simp
  rw [this]
  rfl
 ·simp only [forder_L1]
  rw [Nat.sub_self, List.take_length, List.replicate_zero, List.append_nil]
  rw [br_df (by omega), bd_grd (by simp; omega)]
theorem v_fnew : Valid Try.prog n_fnew c_fnew := by
 refine valid_fn mixed hf_fnew (by kernel_rfl) rfl (ts := tmpsOf f_fnew.results.toList) (by kernel_rfl) (cfg := cfgW g_fnew) tt_ok Γok_nil fnew_tm c_fnew (by kernel_rfl) (fun _ _ _ _ => ⟨⟩) ?_
 rintro ⟨⟩ r u h
 exact ⟨0, (fnew_rn _).trans h⟩
theorem v_fget : Valid Try.prog n_fget c_fget := by
 refine valid_fn mixed hf_fget (by kernel_rfl) rfl (ts := tmpsOf f_fget.results.toList) (by kernel_rfl) (cfg := cfgW g_fget) tt_ok Γok_nil fget_tm c_fget (by kernel_rfl) (fun _ _ _ _ => ⟨⟩) ?_
 rintro ⟨(⟨m, ⟨⟩⟩ : Regs × Unit), (k : Key), ⟨⟩⟩ r u h
 exact ⟨0, (fget_rn _ _ _).trans h⟩
theorem v_fset : Valid Try.prog n_fset c_fset := by
 refine valid_fn mixed hf_fset (by kernel_rfl) rfl (ts := tmpsOf f_fset.results.toList) (by kernel_rfl) (cfg := cfgW g_fset) tt_ok (Γok_cons v_ckey Γok_nil) fset_tm c_fset (by kernel_rfl) (fun _ _ _ _ => ⟨⟩) ?_
 rintro ⟨(⟨m, ⟨⟩⟩ : Regs × Unit), (l : List Cel), ⟨⟩⟩ r u h
 obtain ⟨h1, h2⟩ := grd_some h
 have hl := lenOk_lt h1
 dsimp only at hl
 refine ⟨l.length + 1, (fset_rn _ _ _).trans (Eq.trans ?_ (congrArg some h2))⟩
 show fset_P (l.length + 1) (m, ()) l = some ((), ((setF m l, ()), (), ()))
 unfold fset_P
 refine loopN_for (step := fset_L1) l.length (fun i => ((setF m (l.take i), ()), l, (l.length : Int), (i : Int), ())) (fun i hi rec => ?_) (fun rec => ?_) (l.length + 1) (by omega)
 ·simp only [fset_L1, Int.toNat_natCast]
  rw [br_dt (by omega), br_dt (by omega), br_dt (by omega), wrapI (by omega) (by omega), take_snoc l i ((0, 0), 0) hi]
  generalize l.getD i ((0, 0), 0) = c
  have e : setF m (l.take i ++ [c]) = if keyR c.1 then mset eqK (setF m (l.take i)) c.1 c.2 else setF m (l.take i) := by simp [setF]
  rw [e]
  show br (keyR c.1) _ _ = _
  cases hk : keyR c.1 with
  | true => rw [br_t rfl, if_pos rfl]; rfl
  | false => rw [br_f rfl, if_neg (by decide)]; rfl
 ·simp only [fset_L1]
  rw [br_df (by omega), List.take_length]
theorem v_awake27 : Valid Try.prog n_awake27 c_awake27 := by
 refine valid_fn mixed hf_awake27 (by kernel_rfl) rfl (ts := tmpsOf f_awake27.results.toList) (by kernel_rfl) (cfg := cfgW g_awake27) tt_ok (Γok_cons v_forder (Γok_cons v_fnew (Γok_cons v_fset (Γok_cons v_fget Γok_nil)))) [] c_awake27 (by kernel_rfl) (fun _ _ _ _ => ⟨⟩) ?_
 rintro ⟨⟩ r u h
 exact ⟨3, awake27_rn.trans h⟩
end Go.BB
set_option linter.unusedSimpArgs false
set_option linter.unusedVariables false
namespace Go.BB
open Go
theorem cmp3_lt (a b : Int) : cmp3 a b < 0 ↔ a < b := by unfold cmp3; split <;> (try split) <;> omega
theorem cmp3_ne (a b : Int) : cmp3 a b ≠ 0 ↔ a ≠ b := by unfold cmp3; split <;> (try split) <;> omega
theorem deedCmp_lt (a b : Deed) : deedCmp a b < 0 ↔ a.2.1 < b.2.1 ∨ a.2.1 = b.2.1 ∧ lateS a < lateS b := by
 unfold deedCmp
 by_cases h : cmp3 a.2.1 b.2.1 ≠ 0
 ·rw [if_pos h, cmp3_lt]
  have := (cmp3_ne _ _).1 h
  omega
 ·rw [if_neg h, cmp3_lt]
  have : a.2.1 = b.2.1 := by
   apply Classical.byContradiction
   intro hc
   exact h ((cmp3_ne _ _).2 hc)
  omega
theorem perm_insD (x : Deed) : ∀ (r : List Deed), (insD x r).Perm (x :: r)
 | [] => .refl _
 | a :: r => by
  unfold insD
  split
  ·exact ((perm_insD x r).cons a).trans (.swap x a r)
  ·exact .refl _
theorem perm_sortD (l : List Deed) : (sortD l).Perm l := by
 have : ∀ (l r : List Deed), (l.foldl (fun r x => insD x r) r).Perm (l ++ r) := by
  intro l
  induction l with
  | nil => intro r; exact .refl _
  | cons a l ih =>
   intro r
   rw [List.foldl_cons]
   exact (ih _).trans (((perm_insD a r).append_left l).trans (List.perm_middle))
 have h := this l []
 rw [List.append_nil] at h
 exact (List.reverse_perm _).trans h
def idD (d : Deed) : Int := (d.2.2.2.getD 0 ((0, 0), 0)).2
def aheadD (a b : Deed) : Prop := a.2.1 < b.2.1 ∨ a.2.1 = b.2.1 ∧ (lateS a < lateS b ∨ lateS a = lateS b ∧ idD a < idD b)
theorem sortD_same {l : List Deed} (h : l.Pairwise aheadD) : sortD l = l := by
 have key : ∀ (l r : List Deed), l.Pairwise aheadD → (∀ a ∈ r, ∀ b ∈ l, aheadD a b) → l.foldl (fun r x => insD x r) r = l.reverse ++ r := by
  intro l
  induction l with
  | nil => intro r _ _; rfl
  | cons x l ih =>
   intro r hl hx
   have hl' := List.pairwise_cons.1 hl
   have e : insD x r = x :: r := by
    cases r with
    | nil => rfl
    | cons a r =>
     have := hx a List.mem_cons_self x List.mem_cons_self
     rw [insD, if_neg]
     rw [deedCmp_lt]
     unfold aheadD at this
     omega
   rw [List.foldl_cons, e, ih _ hl'.2 fun a ha b hb => ?_]
   ·simp
   ·rcases List.mem_cons.1 ha with rfl | ha
    ·exact hl'.1 b hb
    ·exact hx a ha b (List.mem_cons_of_mem _ hb)
 have := key l [] h (fun a ha => nomatch ha)
 unfold sortD sortR
 rw [this]
 simp
end Go.BB
