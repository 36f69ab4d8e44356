/- A symbolic machine for the model's code, and what it shows of this seat's functions. No conditions. -/
import Derived.Test.YtnofmeckcimodaaELem
import Derived.Test.YtnofmeckcimodaaETyF
import Derived.Test.YtnofmeckcimodaaESFdo
set_option linter.unusedSimpArgs false
set_option linter.unusedVariables false
namespace Go.BB
open Go Go.Proofs
set_option maxRecDepth 100000
theorem lim_mul {n b : Nat} (h : n < 2000000) (hb : b ≤ 1000) : n * b ≤ LIM := Nat.le_trans (Nat.mul_le_mul (Nat.le_of_lt h) hb) (by decide)
theorem lim_le {n : Nat} (h : n < 2000000) : n ≤ LIM := Nat.le_trans (Nat.le_of_lt h) (by decide)
theorem emod_tmod (k n : Int) (h1 : 0 < n) : (k.tmod n < 0 ∧ k.tmod n + n = k % n) ∨ (¬ k.tmod n < 0 ∧ k.tmod n = k % n) := by
  have hm := Int.emod_nonneg k (show n ≠ 0 by omega)
  have hm2 := Int.emod_lt_of_pos k h1
  have hl : -n < k.tmod n ∧ k.tmod n < n := ⟨Int.lt_tmod_of_pos k h1, Int.tmod_lt_of_pos k h1⟩
  have he : k.tmod n = k % n ∨ k.tmod n = k % n - n := by
    rw [Int.tmod_eq_emod]
    split
    · left; omega
    · right
      have : (n.natAbs : Int) = n := by omega
      omega
  omega
theorem v_within : Valid Try.prog n_within c_within := by
  refine valid_fn mixed hf_within (by kernel_rfl) rfl (ts := tmpsOf f_within.results.toList) (by kernel_rfl) (cfg := cfgW g_within) tt_ok Γok_nil within_tm c_within (by kernel_rfl) (fun _ _ _ _ => ⟨⟩) ?_
  rintro ⟨(k : Int), (n : Int), ⟨⟩⟩ r u h
  obtain ⟨h1, h2⟩ := grd_some h
  simp only at h1 h2
  refine ⟨0, (within_rn _ _ _).trans (Eq.trans ?_ (congrArg some h2))⟩
  simp only [Bool.and_eq_true, decide_eq_true_eq] at h1
  have hm := Int.emod_nonneg k (show n ≠ 0 by omega)
  have hm2 := Int.emod_lt_of_pos k h1.1
  unfold within_P
  rw [br_t (by simp [show ¬ n = 0 by omega])]
  rcases emod_tmod k n h1.1 with ⟨h3, h4⟩ | ⟨h3, h4⟩
  · rw [br_dt h3, h4, wrapI (by omega) (by omega)]
    rfl
  · rw [br_df h3, h4]
    rfl
theorem v_digit : Valid Try.prog n_digit c_digit := by
  refine valid_fn mixed hf_digit (by kernel_rfl) rfl (ts := tmpsOf f_digit.results.toList) (by kernel_rfl) (cfg := cfgW g_digit) tt_ok (Γok_cons v_within Γok_nil) digit_tm c_digit (by kernel_rfl) (fun _ _ _ _ => ⟨⟩) ?_
  rintro ⟨(k : Int), (d : Int), (n : Int), ⟨⟩⟩ r u h
  obtain ⟨h1, h2⟩ := grd_some h
  simp only at h1 h2
  refine ⟨0, (digit_rn _ _ _ _).trans (Eq.trans ?_ (congrArg some h2))⟩
  simp only [Bool.and_eq_true, decide_eq_true_eq] at h1
  unfold digit_P
  rw [br_t (by simp [show ¬ d = 0 by omega]), bd_grd (by simp [h1.2.1, h1.2.2])]
  rfl
theorem v_cloneBits : Valid Try.prog n_cloneBits c_cloneBits := by
  refine valid_fn mixed hf_cloneBits (by kernel_rfl) rfl (ts := tmpsOf f_cloneBits.results.toList) (by kernel_rfl) (cfg := cfgW g_cloneBits) tt_ok Γok_nil cloneBits_tm c_cloneBits (by kernel_rfl) (fun _ _ _ _ => ⟨⟩) ?_
  rintro ⟨(l : List Bool), ⟨⟩⟩ r u h
  obtain ⟨h1, h2⟩ := grd_some h
  simp only at h1 h2
  refine ⟨0, (cloneBits_rn _ l).trans (Eq.trans ?_ (congrArg some h2))⟩
  have hl := of_decide_eq_true h1
  unfold cloneBits_P
  rw [br_dt (lim_mul (by omega) (by decide)), br_dt (lim_le (by omega))]
  refine mayB_of fun he => ?_
  cases l with
  | nil => rfl
  | cons a l => cases he
theorem v_cloneWords : Valid Try.prog n_cloneWords c_cloneWords := by
  refine valid_fn mixed hf_cloneWords (by kernel_rfl) rfl (ts := tmpsOf f_cloneWords.results.toList) (by kernel_rfl) (cfg := cfgW g_cloneWords) tt_ok Γok_nil cloneWords_tm c_cloneWords (by kernel_rfl) (fun _ _ _ _ => ⟨⟩) ?_
  rintro ⟨(l : List Int), ⟨⟩⟩ r u h
  obtain ⟨h1, h2⟩ := grd_some h
  simp only at h1 h2
  refine ⟨0, (cloneWords_rn _ l).trans (Eq.trans ?_ (congrArg some h2))⟩
  have hl := of_decide_eq_true h1
  unfold cloneWords_P
  rw [br_dt (lim_mul (by omega) (by decide)), br_dt (lim_le (by omega))]
  refine mayB_of fun he => ?_
  cases l with
  | nil => rfl
  | cons a l => cases he
theorem v_lentCells : Valid Try.prog n_lentCells c_lentCells := by
  refine valid_fn mixed hf_lentCells (by kernel_rfl) rfl (ts := tmpsOf f_lentCells.results.toList) (by kernel_rfl) (cfg := cfgW g_lentCells) tt_ok Γok_nil lentCells_tm c_lentCells (by kernel_rfl) (fun _ _ _ _ => ⟨⟩) ?_
  rintro ⟨(l : List ((Int × Int) × Int)), ⟨⟩⟩ r u h
  obtain ⟨h1, h2⟩ := grd_some h
  simp only at h1 h2
  refine ⟨4, (lentCells_rn _ l).trans (Eq.trans ?_ (congrArg some h2))⟩
  have hl := of_decide_eq_true h1
  have e3 : IntKind.i64.wrap ((↑(List.length l) : Int) + (3 : Int)) = (l.length : Int) + 3 := wrapI (by omega) (by omega)
  have e4 : ((l.length : Int) + 3).toNat = l.length + 3 := by omega
  unfold lentCells_P
  rw [e3, e4, br_dt (by omega), br_dt (by omega), br_dt (lim_mul (by omega) (by decide)), br_dt (lim_le (by omega))]
  exact lent_loop (((0 : Int), (0 : Int)), (0 : Int)) (((0 : Int), (0 : Int)), (7 : Int)) l hl (fun _ _ _ _ => rfl)
theorem v_staysCells : Valid Try.prog n_staysCells c_staysCells := by
  refine valid_fn mixed hf_staysCells (by kernel_rfl) rfl (ts := tmpsOf f_staysCells.results.toList) (by kernel_rfl) (cfg := cfgW g_staysCells) tt_ok Γok_nil staysCells_tm c_staysCells (by kernel_rfl) (fun x r u h => by obtain ⟨_, h2⟩ := grd_some h; cases h2; exact ⟨rfl, ⟨⟩⟩) ?_
  rintro ⟨⟨(ys : List ((Int × Int) × Int)), (n : Nat)⟩, (l : List ((Int × Int) × Int)), ⟨⟩⟩ r u h
  obtain ⟨h1, h2⟩ := grd_some h
  simp only at h1 h2
  refine ⟨l.length + 4, (staysCells_rn _ (ys, n) l).trans (Eq.trans ?_ (congrArg some h2))⟩
  simp only [staysS, Bool.and_eq_true, decide_eq_true_eq] at h1
  obtain ⟨⟨rfl, rfl⟩, hl⟩ := h1
  have e3 : IntKind.i64.wrap ((↑(List.length l) : Int) + (3 : Int)) = (l.length : Int) + 3 := wrapI (by omega) (by omega)
  have e4 : ((l.length : Int) + 3).toNat = l.length + 3 := by omega
  unfold staysCells_P
  rw [br_f (by simp), e3, e4, br_dt (by omega), br_dt (by simp)]
  exact stays_loop (((0 : Int), (0 : Int)), (0 : Int)) (((0 : Int), (0 : Int)), (7 : Int)) (fun a b => ((a.1.1 == b.1.1 && a.1.2 == b.1.2) && a.2 == b.2)) (by simp) l hl (fun _ _ _ _ => rfl) _ (by omega)
theorem v_cloneCells : Valid Try.prog n_cloneCells c_cloneCells := by
  refine valid_fn mixed hf_cloneCells (by kernel_rfl) rfl (ts := tmpsOf f_cloneCells.results.toList) (by kernel_rfl) (cfg := cfgW g_cloneCells) tt_ok Γok_nil cloneCells_tm c_cloneCells (by kernel_rfl) (fun _ _ _ _ => ⟨⟩) ?_
  rintro ⟨(l : List ((Int × Int) × Int)), ⟨⟩⟩ r u h
  obtain ⟨h1, h2⟩ := grd_some h
  simp only at h1 h2
  refine ⟨0, (cloneCells_rn _ l).trans (Eq.trans ?_ (congrArg some h2))⟩
  have hl := of_decide_eq_true h1
  unfold cloneCells_P
  rw [br_dt (lim_mul (by omega) (by decide)), br_dt (lim_le (by omega))]
  refine mayB_of fun he => ?_
  cases l with
  | nil => rfl
  | cons a l => cases he
end Go.BB
set_option linter.unusedSimpArgs false
set_option linter.unusedVariables false
namespace Go.BB
open Go Go.ChangeShapes Go.WideShapes Go.RowKit Go.Deep
-- is the type of the program this one?
mutual
def tyOKF (P : Program) : Nat → List Field → Nat → Ty → Bool
  | 0, _, _, _ => false
  | d + 1, fs, off, ty => match fs with
    | [] => false
    | [f] => match Nat.beq f.offset off with | true => tyOK P d f.type ty | false => false
    | f :: fs => match ty with
      | .pair a b => match Nat.beq f.offset off with
        | true => (match tyOK P d f.type a with | true => tyOKF P d fs (Nat.add off a.sz) b | false => false)
        | false => false
      | _ => false
def tyOK (P : Program) : Nat → Nat → Ty → Bool
  | 0, _, _ => false
  | d + 1, t, ty => match Nat.beq (P.cellsOf t) ty.sz with
    | false => false
    | true => match P.underlying t with
      | some d' => match ty with
        | .int k => match d' with | .int k' => (match decEq k k' with | .isTrue _ => true | .isFalse _ => false) | _ => false
        | .bool => match d' with | .bool => true | _ => false
        | .slice e => match d' with
          | .slice te => match Nat.blt 0 e.sz with | true => tyOK P d te e | false => false
          | _ => false
        | .pair a b => match d' with
          | .struct fs => tyOKF P d fs.toList 0 (.pair a b)
          | _ => false
        | _ => false
      | none => false
end
/-- numbers are in their kinds' ranges -/
def InR2 : (t : Ty) → t.den → Prop
  | .int k, n => (Lit.int k n).wf = true
  | .slice t, xs => ∀ x, x ∈ (show List t.den from xs) → InR2 t x
  | .pair a b, x => InR2 a x.1 ∧ InR2 b x.2
  | _, _ => True
section
variable {O : ObjK} {P : Program} {H : Type} {enc : TypeId × Value → H} {W : World}
theorem tyOK_cells {d t : Nat} {ty : Ty} (h : tyOK P d t ty = true) : P.cellsOf t = ty.sz := by
  cases d with
  | zero => simp [tyOK] at h
  | succ d =>
    unfold tyOK at h
    split at h
    · cases h
    · rename_i hc; exact Nat.eq_of_beq_eq_true hc
mutual
theorem open_tyF : ∀ (d : Nat) (fs : List Field) (off : Nat) (ty : Ty), tyOKF P d fs off ty = true → ∀ (cs : List Value),
    (∀ f ∈ fs, ∃ n y, DataW.trod enc P W 0 (fun _ => true) true n f.type ((cs.drop f.offset).take (P.cellsOf f.type)) = some y) →
    ∃ x : ty.den, Rep W (fun b => b < W.heap.size) ty x ((cs.drop off).take ty.sz) ∧ InR2 ty x
  | 0, fs, off, ty, h => by simp [tyOKF] at h
  | d + 1, [], off, ty, h => by simp [tyOKF] at h
  | d + 1, [f], off, ty, h => by
    intro cs hall
    unfold tyOKF at h
    simp only at h
    split at h
    · rename_i ho
      have ho := Nat.eq_of_beq_eq_true ho
      obtain ⟨n, y, hy⟩ := hall f List.mem_cons_self
      rw [ho, tyOK_cells h] at hy
      exact open_ty2 d f.type ty h _ _ _ _ hy
    · cases h
  | d + 1, f :: g :: fs, off, ty, h => by
    intro cs hall
    unfold tyOKF at h
    simp only at h
    cases ty with
    | pair a b =>
      simp only at h
      split at h
      · rename_i ho
        split at h
        · rename_i h1
          have ho := Nat.eq_of_beq_eq_true ho
          obtain ⟨n, y, hy⟩ := hall f List.mem_cons_self
          rw [ho, tyOK_cells h1] at hy
          obtain ⟨x1, r1, i1⟩ := open_ty2 d f.type a h1 _ _ _ _ hy
          obtain ⟨x2, r2, i2⟩ := open_tyF d (g :: fs) (off + a.sz) b h cs fun f hf => hall f (List.mem_cons_of_mem _ hf)
          refine ⟨(x1, x2), ⟨_, _, ?_, r1, r2⟩, i1, i2⟩
          show (cs.drop off).take (a.sz + b.sz) = _
          rw [List.take_add, List.drop_drop]
        · cases h
      · cases h
    | _ => cases h
theorem open_ty2 : ∀ (d t : Nat) (ty : Ty), tyOK P d t ty = true → ∀ (fuel : Nat) (cs : List Value) (dd : DataW H) (ps : List MemPlace), DataW.trod enc P W 0 (fun _ => true) true fuel t cs = some (dd, ps) →
    ∃ x : ty.den, Rep W (fun b => b < W.heap.size) ty x cs ∧ InR2 ty x
  | 0, t, ty, h => by simp [tyOK] at h
  | d + 1, t, ty, h => by
    intro fuel cs dd ps hd
    have hcell := tyOK_cells h
    unfold tyOK at h
    split at h
    · cases h
    · cases hu : P.underlying t with
      | none => rw [hu] at h; cases h
      | some d' =>
        rw [hu] at h
        simp only at h
        cases ty with
        | int k =>
          cases d' <;> simp only at h <;> (try exact absurd h Bool.false_ne_true)
          rename_i k'
          split at h
          · rename_i e _
            subst e
            obtain ⟨n, h1, h2, h3⟩ := DataW.trod_int hu hd
            exact ⟨n, h1, h3⟩
          · cases h
        | bool =>
          cases d' <;> simp only at h <;> (try exact absurd h Bool.false_ne_true)
          obtain ⟨b, h1, h2⟩ := DataW.trod_bool hu hd
          exact ⟨b, h1, trivial⟩
        | str => cases h
        | unit => cases h
        | slice e =>
          cases d' <;> simp only at h <;> (try exact absurd h Bool.false_ne_true)
          rename_i te
          split at h
          · rename_i hz
            rcases open_slice hu hd with ⟨rfl, _⟩ | ⟨a, len, cap, m, n, D, Q, rfl, _, hlc, _, hm, _, hall⟩
            · exact ⟨[], ⟨none, 0, rfl, Nat.le_refl _, fun h => by cases h⟩, fun x hx => by cases hx⟩
            · simp only [if_true] at hm
              subst hm
              have hce := tyOK_cells h
              have : ∀ i, i < m → ∃ x : e.den, (∃ cs', Rep W (fun b => b < W.heap.size) e x cs' ∧ ∀ q v, cs'[q]? = some v → W.cell? (a.add (i * e.sz + q)) = some v) ∧ InR2 e x := fun i hi => by
                obtain ⟨cs', c1, c2⟩ := hall i hi
                obtain ⟨x, r1, r2⟩ := open_ty2 d te e h _ _ _ _ c2
                obtain ⟨_, c3, c4⟩ := World.cells?_some c1
                refine ⟨x, ⟨cs', r1, fun q v hq => ?_⟩, r2⟩
                have hq' := (List.getElem?_eq_some_iff.1 hq).1
                rw [c3] at hq'
                have := c4 q hq'
                rw [add_add, hce] at this
                rw [this, hq]
              let X : Nat → e.den := fun i => if h : i < m then Classical.choose (this i h) else e.zero
              have hX : ∀ i, i < m → (∃ cs', Rep W (fun b => b < W.heap.size) e (X i) cs' ∧ ∀ q v, cs'[q]? = some v → W.cell? (a.add (i * e.sz + q)) = some v) ∧ InR2 e (X i) := fun i hi => by
                simp only [X, dif_pos hi]
                exact Classical.choose_spec (this i hi)
              refine ⟨(List.range len).map X, ⟨some a, m, by simp, by simpa using hlc, fun hp => ⟨a, rfl, ?_, fun j x hx => ?_⟩⟩, ?_⟩
              · have hp' : 0 < len := by simpa using hp
                obtain ⟨⟨cs', r1, r2⟩, _⟩ := hX 0 (by omega)
                have hl := Rep_len _ _ _ r1
                have hz' : 0 < e.sz := by simpa using hz
                have h0 : cs'[0]? = some (cs'[0]'(by omega)) := List.getElem?_eq_getElem (by omega)
                have := block_of_cell (r2 0 _ h0)
                rw [add_block] at this
                exact this
              · rw [List.getElem?_map, Option.map_eq_some_iff] at hx
                obtain ⟨j', hj, rfl⟩ := hx
                have hj1 := (List.getElem?_eq_some_iff.1 hj).1
                rw [List.length_range] at hj1
                rw [List.getElem?_range hj1] at hj
                cases hj
                exact (hX j (by omega)).1
              · intro x hx
                obtain ⟨j, hj, rfl⟩ := List.mem_map.1 hx
                have := List.mem_range.1 hj
                exact (hX j (by omega)).2
          · cases h
        | pair a b =>
          cases d' <;> simp only at h <;> (try exact absurd h Bool.false_ne_true)
          rename_i fs
          obtain ⟨xs, n, _, _, hlen, hsz, hf⟩ := DataW.trod_struct hu hd
          obtain ⟨x, r1, r2⟩ := open_tyF d fs.toList 0 (.pair a b) h cs fun f hf' => by
            obtain ⟨i, hi⟩ := List.getElem?_of_mem hf'
            have hi' : fs[i]? = some f := by simpa using hi
            have := hf i f hi'
            have hlt : i < xs.length := by
              have := (Array.getElem?_eq_some_iff.1 hi').1
              omega
            rw [List.getElem?_eq_getElem hlt] at this
            exact ⟨n, _, this⟩
          refine ⟨x, ?_, r2⟩
          rw [List.drop_zero, List.take_of_length_le (by rw [hlen, hcell]; exact Nat.le_refl _)] at r1
          exact r1
end
theorem cells_ok2 {d t base : Nat} {ty : Ty} (h : tyOK P d t ty = true) {v : Value} (hv : Value.okWide P W .any base t v) :
    (ty.isAgg = true ∧ ∃ arr, v = .agg arr) ∨ (ty.isAgg = false ∧ v.cells.toList = [v]) := by
  cases d with
  | zero => simp [tyOK] at h
  | succ d =>
    unfold tyOK at h
    split at h
    · cases h
    · cases hu : P.underlying t with
      | none => rw [hu] at h; cases h
      | some d' =>
        rw [hu] at h
        simp only at h
        unfold Value.okWide at hv
        rw [hu] at hv
        have plain : ∀ (hc : Cell.okWide P W .any base t v), (∀ cs, v = .agg cs → ¬ Cell.okWide P W .any base t v) → v.cells.toList = [v] := by
          intro hc hn
          cases v with
          | agg cs => exact absurd hc (hn cs rfl)
          | _ => rfl
        cases ty with
        | int k =>
          cases d' <;> simp only at h <;> (try exact absurd h Bool.false_ne_true)
          exact .inr ⟨rfl, plain hv fun cs e => by subst e; simp [Cell.okWide, Cell.ok, hu]⟩
        | bool =>
          cases d' <;> simp only at h <;> (try exact absurd h Bool.false_ne_true)
          exact .inr ⟨rfl, plain hv fun cs e => by subst e; simp [Cell.okWide, Cell.ok, hu]⟩
        | slice e =>
          cases d' <;> simp only at h <;> (try exact absurd h Bool.false_ne_true)
          exact .inr ⟨rfl, plain hv fun cs e => by subst e; simp [Cell.okWide, Cell.ok, hu]⟩
        | pair a b =>
          cases d' <;> simp only at h <;> (try exact absurd h Bool.false_ne_true)
          obtain ⟨cs, e, _⟩ := hv
          exact .inl ⟨rfl, cs, e⟩
        | _ => cases h
def tysOK (P : Program) : List Nat → List Ty → Bool
  | [], [] => true
  | t :: ts, ty :: tys => match tyOK P 20 t ty with | true => tysOK P ts tys | false => false
  | _, _ => false
def InAll2 : (tys : List Ty) → dens (O := O) (valsOf tys) → Prop
  | [], _ => True
  | t :: ts, x => InR2 t x.1 ∧ InAll2 ts x.2
theorem open_all2 {base : Nat} : ∀ (ts : List Nat) (tys : List Ty) (vs : List Value) (ds : List (DataW H)) (ps : List MemPlace), tysOK P ts tys = true → (∀ (j : Nat) t v, ts[j]? = some t → vs[j]? = some v → Value.okWide P W .any base t v) →
    DataW.TrodAll enc P W 0 (fun _ => true) true ts vs ds ps → ∃ x : dens (O := O) (valsOf tys), Entry W (fun b => b < W.heap.size) (valsOf tys) x vs [] ∧ InAll2 tys x
  | [], [], vs, ds, ps, _, _, h => by
    obtain ⟨rfl, _, _⟩ := trodAll_nil h
    exact ⟨(), ⟨rfl, rfl⟩, trivial⟩
  | [], _ :: _, _, _, _, h, _, _ => by cases h
  | _ :: _, [], _, _, _, h, _, _ => by cases h
  | t :: ts, ty :: tys, vs, ds, ps, ht, hv, h => by
    obtain ⟨v, vs', d, ds', p, q, rfl, rfl, rfl, h1, h2⟩ := trodAll_cons h
    obtain ⟨fuel, h1⟩ := h1
    unfold tysOK at ht
    split at ht
    · rename_i ht1
      obtain ⟨x, g1, g2⟩ := open_ty2 20 t ty ht1 _ _ _ _ h1
      obtain ⟨xs, g3, g4⟩ := open_all2 ts tys vs' ds' q ht (fun j t' v' ht' hv' => hv (j + 1) t' v' ht' hv') h2
      refine ⟨(x, xs), ⟨v, vs', [], [], rfl, rfl, VRel_val ?_, g3⟩, g2, g4⟩
      unfold TRep
      rcases cells_ok2 ht1 (hv 0 t v rfl rfl) with ⟨ha, arr, rfl⟩ | ⟨ha, hc⟩
      · rw [ha]
        exact ⟨arr, rfl, g1⟩
      · rw [ha]
        rw [hc] at g1
        exact g1
    · cases ht
/-- a law that holds of each input -/
theorem law_lifted2 {C : Checked} {os : Os} {f : FuncId} {fn : Func} {s : ChangeSpec} {conds : List PathCond} {apart : Bool} {tb : TypeId} {tys : List Ty}
    (own : ownKnob C.prog.godebug = none) (started : os.Started) (noInit : C.prog.inits.idxOf? f = none) (hfn : C.prog.funcs[f]? = some fn)
    (witness : ∃ (w : World) (tape : Tape) (i : Input), w.os = os ∧ (w.forCall tape i).Shaped C.prog ∧ i.vars = [] ∧ Input.okWide C.prog (w.forCall tape i) .any w.heap.size f i ∧
      s.pre6 enc C.prog fn conds apart (w.forCall tape i).memory i.args ∧ ({} : Assume).holds C.prog (lone (Frame.enter C.prog f i.args .normal) [] (w.forCall tape i)))
    (hl : laidOutB C.prog = true) (hty : tysOK C.prog fn.params.toList tys = true) (hread : ∀ t ∈ fn.params.toList, C.prog.readableRec t = true ∧ t < C.prog.types.size)
    (hrt : fn.resultTypes = #[tb]) (htb : C.prog.underlying tb = some .bool) (hvars : s.vars = [])
    (hs : ∀ ds : List (DataW H), ds.length = fn.params.toList.length → s.fn H ds = { results := [.lit (.bool true)], args := ds })
    {F : dens (O := O) (valsOf tys) → Option (rdens (O := O) [.val .bool] × upds (valsOf tys))} (hV : Valid C.prog f ⟨valsOf tys, [.val .bool], F⟩)
    (hF : ∀ x, InAll2 tys x → ∃ u, F x = some ((true, ()), u)) :
    ReturnsInHanded {} C os f .any (s.pre6 enc C.prog fn conds apart) (s.post enc C.prog fn apart true false false) := by
  refine returnsInHanded_of_change_sized own started noInit hfn witness ?_
  intro W base args ds gs before hval hW _ _ _
  have hlt := hW.lt
  obtain ⟨p, q, hA, hVr, rfl, hfz, hnd⟩ := hW
  obtain ⟨x, hE, hin⟩ := open_all2 (O := O) fn.params.toList tys args.toList ds p hty (fun j t v h1 h2 => hval j t v (by simpa using h1) (by simpa using h2)) hA
  obtain ⟨u, hFx⟩ := hF x hin
  refine (law_calls hV hE hFx).mono fun e W' ⟨he, bel⟩ => ?_
  subst he
  have hgs : gs = [] ∧ q = [] := by
    rw [hvars] at hVr
    cases gs with
    | nil => exact ⟨rfl, hVr⟩
    | cons g gs => exact hVr.elim
  obtain ⟨rfl, rfl⟩ := hgs
  have hlen := trodAll_len _ _ _ _ hA
  have hs' := hs ds hlen
  refine ⟨_, rfl, ds, [], p ++ [], [], p, [], ⟨p, [], hA, hVr, rfl, hfz, hnd⟩, ?_, ?_, ?_, bel.frame _, fun h => by cases h⟩
  · rw [List.append_nil, hs', hrt]
    exact trodAll_mk1 (shut_bool htb _)
  · rw [List.append_nil, hs']
    exact carry_all hl bel _ _ _ _ hread (fun x hx => hlt x (by simpa using hx)) hA
  · rw [List.append_nil, hs', hvars]
    rfl
end
end Go.BB
set_option linter.unusedSimpArgs false
set_option linter.unusedVariables false
namespace Go.BB
open Go
theorem minI_eq (a b : Int) : minI a b = min a b := by unfold minI; omega
theorem drop_cons {α : Type} (l : List α) (i : Nat) (z : α) (h : i < l.length) : l.drop i = l.getD i z :: l.drop (i + 1) := by
  rw [List.drop_eq_getElem_cons h, List.getD_eq_getElem?_getD, List.getElem?_eq_getElem h]; rfl
theorem take_snoc {α : Type} (l : List α) (i : Nat) (z : α) (h : i < l.length) : l.take (i + 1) = l.take i ++ [l.getD i z] := by
  rw [List.take_add_one, List.getD_eq_getElem?_getD, List.getElem?_eq_getElem h]; rfl
theorem lenOk_of {α : Type} {l : List α} (h : l.length < 1000000) : lenOk l = true := by simp [lenOk, h]
theorem lenOk_lt {α : Type} {l : List α} (h : lenOk l = true) : l.length < 1000000 := by simpa [lenOk] using h
theorem digitS_range (k d : Int) {n : Int} (h : 0 < n) : 0 ≤ digitS k d n ∧ digitS k d n < n := ⟨Int.emod_nonneg _ (by omega), Int.emod_lt_of_pos _ h⟩
end Go.BB
set_option linter.unusedSimpArgs false
set_option linter.unusedVariables false
/-! what all laws need -/
namespace Go.BB
open Go
theorem take_drop0 {α : Type} (l : List α) (m : α) : List.take l.length (List.drop (0 : Nat) (lentS m l)) = l := by
  simp [lentS]
theorem staysS_lent {α : Type} [DecidableEq α] (m : α) (l : List α) : staysS m (lentS m l) l.length l = true := by
  simp [staysS, lentS]
abbrev Fok {tys : List Ty} (g : dens (O := O0) (valsOf tys) → Bool) (u : upds (O := O0) (valsOf tys)) : dens (O := O0) (valsOf tys) → Option (rdens (O := O0) [.val .bool] × upds (O := O0) (valsOf tys)) := fun x => grd (g x) ((true, ()), u)
theorem valid_law {P : Program} (hm : P.follows .mixedOrders = true) {n : Nat} {f : Func} {c : Code} {ts : List Tmp} (hf : P.funcs[n]? = some f) (hname : (f.name == "runtime.NumGoroutine") = false) (hb : f.body = some c)
    (hres : f.results.toList = ts.map .tmp) {cfg : Cfg O0} (hT : TTok P cfg.tt) (hΓ : Γok P cfg.Γ) (tms : List Tm) {tys : List Ty} {g : dens (O := O0) (valsOf tys) → Bool} {u : upds (O := O0) (valsOf tys)}
    (hps : Nat.ble (clen (valsOf (O := O0) tys)) (min 61 f.ntmps) = true) (hrun : ∀ x, g x = true → ∃ K, runF cfg K f tms (valsOf tys) [.val .bool] x = some ((true, ()), u)) :
    Valid (O := O0) P n ⟨valsOf tys, [.val .bool], Fok g u⟩ :=
  valid_fn hm hf hname hb hres hT hΓ tms _ hps (fun x _ u _ => Kept_vals tys x u) fun x r u' h => by
    have h' : grd (g x) (((true, ()), u) : rdens (O := O0) [.val .bool] × upds (O := O0) (valsOf tys)) = some (r, u') := h
    obtain ⟨h1, h2⟩ := grd_some h'
    obtain ⟨K, hK⟩ := hrun x h1
    exact ⟨K, hK.trans (congrArg some h2)⟩
theorem grd_t {α : Type} {b : Bool} {v : α} (h : b = true) : grd b v = some v := by subst h; rfl
theorem and_t {a b : Bool} (h1 : a = true) (h2 : b = true) : (a && b) = true := by rw [h1, h2]; rfl
end Go.BB
set_option linter.unusedSimpArgs false
set_option linter.unusedVariables false
namespace Go.BB
open Go Go.Proofs
set_option maxRecDepth 100000
theorem known_iff (f : Int) : knownS f = true ↔ f = 1 ∨ f = 2 ∨ f = 3 ∨ f = 4 ∨ f = 5 ∨ f = 6 ∨ f = 15 ∨ f = 16 ∨ f = 22 ∨ f = 23 ∨ f = 43 := by
  constructor
  · intro h
    apply Classical.byContradiction
    intro hc
    simp only [not_or] at hc
    obtain ⟨h1, h2, h3, h4, h5, h6, h7, h8, h9, h10, h11⟩ := hc
    simp [knownS, tabS, tabL, swv, h1, h2, h3, h4, h5, h6, h7, h8, h9, h10, h11] at h
  · rintro (rfl | rfl | rfl | rfl | rfl | rfl | rfl | rfl | rfl | rfl | rfl) <;> rfl
theorem brNo {u : Type} {x : u} (c e : Bool) : br c (some ((false, ()), x)) (some ((e, ()), x)) = some (((!c && e), ()), x) := by cases c <;> rfl
theorem brAnd {u : Type} {x : u} (c e : Bool) : br c (some ((e, ()), x)) (some ((false, ()), x)) = some (((c && e), ()), x) := by cases c <;> rfl
theorem v_r1Known : Valid Try.prog n_r1Known c_r1Known := by
  refine valid_fn mixed hf_r1Known (by kernel_rfl) rfl (ts := tmpsOf f_r1Known.results.toList) (by kernel_rfl) (cfg := cfgW g_r1Known) tt_ok Γok_nil r1Known_tm c_r1Known (by kernel_rfl) (fun _ _ _ _ => ⟨⟩) ?_
  rintro ⟨(f : Int), ⟨⟩⟩ r u h
  refine ⟨0, (r1Known_rn _ _).trans (Eq.trans ?_ h)⟩
  show r1Known_P 0 f = some ((knownS f, ()), ((), ()))
  cases hk : knownS f with
  | true =>
    rcases (known_iff f).1 hk with rfl | rfl | rfl | rfl | rfl | rfl | rfl | rfl | rfl | rfl | rfl <;> rfl
  | false =>
    have hn : ¬ _ := mt (known_iff f).2 (by rw [hk]; decide)
    simp only [not_or] at hn
    obtain ⟨h1, h2, h3, h4, h5, h6, h7, h8, h9, h10, h11⟩ := hn
    unfold r1Known_P
    have e : ∀ {k : Int}, f ≠ k → (f == k) = false := fun h => beq_eq_false_iff_ne.2 h
    rw [e h7, e h8, e h9, e h10, e h11]
    by_cases h : f ≥ 1
    · rw [br_dt h, br_df (by omega)]; rfl
    · rw [br_df h]; rfl
theorem v_r1Table : Valid Try.prog n_r1Table c_r1Table := by
  refine valid_fn mixed hf_r1Table (by kernel_rfl) rfl (ts := tmpsOf f_r1Table.results.toList) (by kernel_rfl) (cfg := cfgW g_r1Table) tt_ok Γok_nil r1Table_tm c_r1Table (by kernel_rfl) (fun _ _ _ _ => ⟨⟩) ?_
  rintro ⟨(f : Int), ⟨⟩⟩ r u h
  refine ⟨0, (r1Table_rn _ _).trans (Eq.trans ?_ h)⟩
  exact sw_eq f (fun p : Int × Bool => ((p.1, p.2, ()), ((), ()))) tabL (0, false)
theorem v_r1Most : Valid Try.prog n_r1Most c_r1Most := by
  refine valid_fn mixed hf_r1Most (by kernel_rfl) rfl (ts := tmpsOf f_r1Most.results.toList) (by kernel_rfl) (cfg := cfgW g_r1Most) tt_ok Γok_nil r1Most_tm c_r1Most (by kernel_rfl) (fun _ _ _ _ => ⟨⟩) ?_
  rintro ⟨(f : Int), ⟨⟩⟩ r u h
  refine ⟨0, (r1Most_rn _ _).trans (Eq.trans ?_ h)⟩
  exact sw_eq f (fun p : Int × Int => ((p.1, p.2, ()), ((), ()))) mostL (0, 0)
theorem v_r5place : Valid Try.prog n_r5place c_r5place := by
  refine valid_fn mixed hf_r5place (by kernel_rfl) rfl (ts := tmpsOf f_r5place.results.toList) (by kernel_rfl) (cfg := cfgW g_r5place) tt_ok Γok_nil r5place_tm c_r5place (by kernel_rfl) (fun _ _ _ _ => ⟨⟩) ?_
  rintro ⟨(f : Int), ⟨⟩⟩ r u h
  refine ⟨0, (r5place_rn _ _).trans (Eq.trans ?_ h)⟩
  exact brAnd _ _
theorem v_r5byte : Valid Try.prog n_r5byte c_r5byte := by
  refine valid_fn mixed hf_r5byte (by kernel_rfl) rfl (ts := tmpsOf f_r5byte.results.toList) (by kernel_rfl) (cfg := cfgW g_r5byte) tt_ok Γok_nil r5byte_tm c_r5byte (by kernel_rfl) (fun _ _ _ _ => ⟨⟩) ?_
  rintro ⟨(f : Int), ⟨⟩⟩ r u h
  refine ⟨0, (r5byte_rn _ _).trans (Eq.trans ?_ h)⟩
  exact brAnd _ _
theorem len_gt {α : Type} (l : List α) : (!decide ((l.length : Int) > 0)) = decide (l.length = 0) := by
  cases l with
  | nil => rfl
  | cons a l => simp
theorem v_r5plain : Valid Try.prog n_r5plain c_r5plain := by
  refine valid_fn mixed hf_r5plain (by kernel_rfl) rfl (ts := tmpsOf f_r5plain.results.toList) (by kernel_rfl) (cfg := cfgW g_r5plain) tt_ok Γok_nil r5plain_tm c_r5plain (by kernel_rfl) (fun _ _ _ _ => ⟨⟩) ?_
  rintro ⟨(⟨f, at1, n, v, an, o, bs, ws, ra, rn, c, ob⟩ : AskT), ⟨⟩⟩ r u h
  obtain ⟨h1, h2⟩ := grd_some h
  refine ⟨0, Eq.trans ?_ (congrArg some h2)⟩
  have hb : ∀ (x y : Int), (!(x != y)) = (x == y) := fun x y => by simp [bne]
  have key : ∀ b : Bool, b = plainA (f, at1, n, v, an, o, bs, ws, ra, rn, c, ob) → (some ((b, ()), (), ()) : Option ((Bool × Unit) × Unit × Unit)) = some ((plainA (f, at1, n, v, an, o, bs, ws, ra, rn, c, ob), ()), (), ()) := fun b e => by rw [e]
  rcases (known_iff f).1 h1 with rfl | rfl | rfl | rfl | rfl | rfl | rfl | rfl | rfl | rfl | rfl
  · refine (r5plain_1 0 at1 n v an o bs ws ra rn c ob).trans ?_
    simp only [brNo, hb, len_gt]
    refine key _ ?_
    simp [plainA, inN, manyF, oneF, Bool.and_assoc, aFn, aAt, aN, aVal, aAnd, aOr, aBits, aWords, aRAt, aRN, aCode, aObj]
  · refine (r5plain_2 0 at1 n v an o bs ws ra rn c ob).trans ?_
    simp only [brNo, hb, len_gt]
    refine key _ ?_
    simp [plainA, inN, manyF, oneF, Bool.and_assoc, aFn, aAt, aN, aVal, aAnd, aOr, aBits, aWords, aRAt, aRN, aCode, aObj]
  · refine (r5plain_3 0 at1 n v an o bs ws ra rn c ob).trans ?_
    simp only [brNo, hb, len_gt]
    refine key _ ?_
    simp [plainA, inN, manyF, oneF, Bool.and_assoc, aFn, aAt, aN, aVal, aAnd, aOr, aBits, aWords, aRAt, aRN, aCode, aObj]
  · refine (r5plain_4 0 at1 n v an o bs ws ra rn c ob).trans ?_
    simp only [brNo, hb, len_gt]
    refine key _ ?_
    simp [plainA, inN, manyF, oneF, Bool.and_assoc, aFn, aAt, aN, aVal, aAnd, aOr, aBits, aWords, aRAt, aRN, aCode, aObj]
  · refine (r5plain_5 0 at1 n v an o bs ws ra rn c ob).trans ?_
    simp only [brNo, hb, len_gt]
    refine key _ ?_
    simp [plainA, inN, manyF, oneF, Bool.and_assoc, aFn, aAt, aN, aVal, aAnd, aOr, aBits, aWords, aRAt, aRN, aCode, aObj]
  · refine (r5plain_6 0 at1 n v an o bs ws ra rn c ob).trans ?_
    simp only [brNo, hb, len_gt]
    refine key _ ?_
    simp [plainA, inN, manyF, oneF, Bool.and_assoc, aFn, aAt, aN, aVal, aAnd, aOr, aBits, aWords, aRAt, aRN, aCode, aObj]
  · refine (r5plain_15 0 at1 n v an o bs ws ra rn c ob).trans ?_
    simp only [brNo, hb, len_gt]
    refine key _ ?_
    simp [plainA, inN, manyF, oneF, Bool.and_assoc, aFn, aAt, aN, aVal, aAnd, aOr, aBits, aWords, aRAt, aRN, aCode, aObj]
  · refine (r5plain_16 0 at1 n v an o bs ws ra rn c ob).trans ?_
    simp only [brNo, hb, len_gt]
    refine key _ ?_
    simp [plainA, inN, manyF, oneF, Bool.and_assoc, aFn, aAt, aN, aVal, aAnd, aOr, aBits, aWords, aRAt, aRN, aCode, aObj]
  · refine (r5plain_22 0 at1 n v an o bs ws ra rn c ob).trans ?_
    simp only [brNo, hb, len_gt]
    refine key _ ?_
    simp [plainA, inN, manyF, oneF, Bool.and_assoc, aFn, aAt, aN, aVal, aAnd, aOr, aBits, aWords, aRAt, aRN, aCode, aObj]
  · refine (r5plain_23 0 at1 n v an o bs ws ra rn c ob).trans ?_
    simp only [brNo, hb, len_gt]
    refine key _ ?_
    simp [plainA, inN, manyF, oneF, Bool.and_assoc, aFn, aAt, aN, aVal, aAnd, aOr, aBits, aWords, aRAt, aRN, aCode, aObj]
  · refine (r5plain_43 0 at1 n v an o bs ws ra rn c ob).trans ?_
    simp only [brNo, hb, len_gt]
    refine key _ ?_
    simp [plainA, inN, manyF, oneF, Bool.and_assoc, aFn, aAt, aN, aVal, aAnd, aOr, aBits, aWords, aRAt, aRN, aCode, aObj]
theorem askEta (a : AskT) : ((a.1, a.2.1, a.2.2.1, a.2.2.2.1, a.2.2.2.2.1, a.2.2.2.2.2.1, a.2.2.2.2.2.2.1, a.2.2.2.2.2.2.2.1, a.2.2.2.2.2.2.2.2.1, a.2.2.2.2.2.2.2.2.2.1, a.2.2.2.2.2.2.2.2.2.2.1, a.2.2.2.2.2.2.2.2.2.2.2) : AskT) = a := rfl
theorem v_r5Right : Valid Try.prog n_r5Right c_r5Right := by
  refine valid_fn mixed hf_r5Right (by kernel_rfl) rfl (ts := tmpsOf f_r5Right.results.toList) (by kernel_rfl) (cfg := cfgW g_r5Right) tt_ok (Γok_cons v_r1Known (Γok_cons v_r5plain (Γok_cons v_r5place (Γok_cons v_r1Most (Γok_cons v_r5byte Γok_nil))))) r5Right_tm c_r5Right (by kernel_rfl) (fun _ _ _ _ => ⟨⟩) ?_
  rintro ⟨(a : AskT), ⟨⟩⟩ r u h
  refine ⟨0, (r5Right_rn _ _).trans (Eq.trans ?_ h)⟩
  show r5Right_P 0 a = some ((askOk a, ()), ((), ()))
  unfold r5Right_P askOk
  simp only [askEta]
  cases hk : knownS a.1 with
  | false => rfl
  | true =>
    show bd (grd true _) _ = _
    rw [bd_grd rfl]
    cases hp : plainA a with
    | false => rfl
    | true =>
      cases hq : placeN a.2.1 with
      | false => rfl
      | true =>
        cases hr : placeN a.2.2.2.2.2.2.2.2.1 with
        | false => rfl
        | true =>
          show _ = some ((sizeA a, ()), ((), ()))
          clear hp hq hr h
          obtain ⟨f, at1, n, v, an, o, bs, ws, ra, rn, c, ob⟩ := a
          have hle : ∀ (x y : Int), decide (x ≥ y) = decide (y ≤ x) := fun _ _ => rfl
          have hlen : ∀ (l : Nat) (y : Int), ((l : Int) == y) = decide ((l : Int) = y) := fun _ _ => rfl
          rcases (known_iff f).1 hk with rfl | rfl | rfl | rfl | rfl | rfl | rfl | rfl | rfl | rfl | rfl <;>
            first
            | rfl
            | exact brAnd _ _
            | (simp only [brAnd]; rfl)
theorem v_r5Spans : Valid Try.prog n_r5Spans c_r5Spans := by
  refine valid_fn mixed hf_r5Spans (by kernel_rfl) rfl (ts := tmpsOf f_r5Spans.results.toList) (by kernel_rfl) (cfg := cfgW g_r5Spans) tt_ok (Γok_cons v_r5Right (Γok_cons v_r1Table Γok_nil)) r5Spans_tm c_r5Spans (by kernel_rfl) (fun _ _ _ _ => ⟨⟩) ?_
  rintro ⟨(a : AskT), ⟨⟩⟩ r u h
  refine ⟨0, (r5Spans_rn _ _).trans (Eq.trans ?_ h)⟩
  show r5Spans_P 0 a = some (((spansA a).1, (spansA a).2, ()), ((), ()))
  unfold r5Spans_P spansA
  simp only [askEta]
  cases hk : askOk a with
  | false => rfl
  | true =>
    obtain ⟨f, at1, n, v, an, o, bs, ws, ra, rn, c, ob⟩ := a
    unfold askOk sizeA at hk
    simp only [Bool.and_eq_true, aFn, aAt, aN, aVal, aAnd, aOr, aBits, aWords, aRAt, aRN, aCode, aObj, placeN, inN, byteN, decide_eq_true_eq] at hk
    obtain ⟨h1, _, h2, h3, h4⟩ := hk
    rcases (known_iff f).1 h1 with rfl | rfl | rfl | rfl | rfl | rfl | rfl | rfl | rfl | rfl | rfl
    all_goals simp at h4
    all_goals first
      | (refine Eq.trans (b := some (([((tabS _).1, at1, IntKind.i64.wrap (at1 + n))], [], ()), (), ())) rfl ?_
         rw [wrapI (n := at1 + n) (by omega) (by omega)]
         rfl)
      | (refine Eq.trans (b := some (([], [((tabS _).1, at1, IntKind.i64.wrap (at1 + 1))], ()), (), ())) rfl ?_
         rw [wrapI (n := at1 + 1) (by omega) (by omega)]
         rfl)
      | (refine Eq.trans (b := some (([], [((tabS _).1, at1, IntKind.i64.wrap (at1 + n))], ()), (), ())) rfl ?_
         rw [wrapI (n := at1 + n) (by omega) (by omega)]
         rfl)
      | (refine Eq.trans (b := some (([((tabS _).1, ra, IntKind.i64.wrap (ra + rn))], [((tabS _).1, at1, IntKind.i64.wrap (at1 + n))], ()), (), ())) rfl ?_
         rw [wrapI (n := at1 + n) (by omega) (by omega), wrapI (n := ra + rn) (by omega) (by omega)]
         rfl)
      | rfl
theorem v_r5Echo : Valid Try.prog n_r5Echo c_r5Echo := by
  refine valid_fnc mixed hf_r5Echo (by kernel_rfl) rfl (cfg := cfgW g_r5Echo) tt_ok (Γok_cons v_r5Right Γok_nil) r5Echo_tm c_r5Echo (by kernel_rfl) (fun _ _ _ _ => ⟨⟩) ?_
  rintro ⟨(a : AskT), ⟨⟩⟩ r u h
  refine ⟨0, (r5Echo_rn _ _).trans (Eq.trans ?_ h)⟩
  show r5Echo_P 0 a = some ((echoA a, ()), ((), ()))
  unfold r5Echo_P echoA
  simp only [askEta]
  cases hk : askOk a with
  | false => rfl
  | true =>
    obtain ⟨f, at1, n, v, an, o, bs, ws, ra, rn, c, ob⟩ := a
    have h1 : knownS f = true := by
      unfold askOk at hk
      simp only [Bool.and_eq_true] at hk
      exact hk.1
    rcases (known_iff f).1 h1 with rfl | rfl | rfl | rfl | rfl | rfl | rfl | rfl | rfl | rfl | rfl <;> rfl
end Go.BB
