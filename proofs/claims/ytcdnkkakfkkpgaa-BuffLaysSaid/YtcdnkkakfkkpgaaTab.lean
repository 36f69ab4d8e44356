/- A symbolic machine for the model's code, and what it shows of this seat's functions. No conditions. -/
import Derived.Test.YtcdnkkakfkkpgaaMain
import Derived.ChangeKeysEq
import Derived.Laws.StructEq
import Derived.Laws.Bits
set_option linter.unusedSimpArgs false
set_option linter.unusedVariables false
namespace Go.BB
open Go
/-- the cells of a type's zero -/
def zeroRep : Ty → List Value → Bool
  | .int k, vs => match vs with | [.int k' n] => (match decEq k k' with | .isTrue _ => (match n with | .ofNat 0 => true | _ => false) | .isFalse _ => false) | _ => false
  | .bool, vs => match vs with | [.bool b] => (match b with | true => false | false => true) | _ => false
  | .str, vs => match vs with | [.string s] => (match s with | ⟨⟨[]⟩⟩ => true | _ => false) | _ => false
  | .unit, vs => match vs with | [] => true | _ => false
  | .pair a b, vs => match zeroRep a (ctake a.sz vs) with | true => zeroRep b (cdrop a.sz vs) | false => false
  | .slice _, vs => match vs with | [.slice none 0 0] => true | _ => false
theorem zeroRep_spec (w : World) (R : Nat → Prop) : ∀ (t : Ty) (vs : List Value), zeroRep t vs = true → Rep w R t t.zero vs
  | .int k, vs, h => by
    unfold zeroRep at h
    split at h
    · split at h
      · rename_i e _
        subst e
        split at h
        · rfl
        · cases h
      · cases h
    · cases h
  | .bool, vs, h => by
    unfold zeroRep at h
    split at h
    · split at h
      · cases h
      · rfl
    · cases h
  | .str, vs, h => by
    unfold zeroRep at h
    split at h
    · split at h
      · rfl
      · cases h
    · cases h
  | .unit, vs, h => by
    unfold zeroRep at h
    split at h
    · rfl
    · cases h
  | .pair a b, vs, h => by
    unfold zeroRep at h
    cases ha : zeroRep a (ctake a.sz vs) with
    | false => rw [ha] at h; cases h
    | true =>
      rw [ha] at h
      rw [ctake_eq] at ha
      rw [cdrop_eq] at h
      exact ⟨vs.take a.sz, vs.drop a.sz, (List.take_append_drop _ _).symm, zeroRep_spec w R a _ ha, zeroRep_spec w R b _ h⟩
  | .slice t, vs, h => by
    unfold zeroRep at h
    split at h
    · exact ⟨none, 0, rfl, Nat.le_refl _, fun h => by cases h⟩
    · cases h
def aggD : TypeDesc → Bool
  | .struct _ => true
  | .array _ _ => true
  | _ => false
def subD : TypeDesc → Sub
  | .slice e => .slice e
  | .struct fs => .struct (fs.toList.map fun f => (f.type, f.offset))
  | .array n e => .arr n e
  | _ => .other
def tyD : Option Ty → TypeDesc → Bool
  | some (.int k), d => match d with | .int k' => (match decEq k k' with | .isTrue _ => true | .isFalse _ => false) | _ => false
  | some .bool, d => match d with | .bool => true | _ => false
  | some .str, d => match d with | .string => true | _ => false
  | _, _ => true
def infosD (P : Program) : TypeDesc → Bool
  | .struct fs => fs.toList.all fun f => (P.info? f.type).isSome
  | _ => true
def chkTy (ty : Option Ty) (agg : Bool) (size : Nat) (zero : List Value) : Bool :=
  match ty with
  | none => true
  | some ty => match zeroRep ty zero with
    | true => match beqB agg ty.isAgg with
      | true => Nat.beq (clen zero) size
      | false => false
    | false => false
-- is the type of the program this one, and may == hold its cells against each other?
mutual
def eqOKF (P : Program) : Nat → List Field → Nat → Ty → Bool
  | 0, _, _, _ => false
  | d + 1, fs, off, ty => match fs with
    | [] => false
    | [f] => match f.name == "_" with | true => false | false => match Nat.beq f.offset off with | true => eqOK P d f.type ty | false => false
    | f :: fs => match ty with
      | .pair a b => match f.name == "_" with | true => false | false => match Nat.beq f.offset off with
        | true => (match eqOK P d f.type a with | true => eqOKF P d fs (Nat.add off a.sz) b | false => false)
        | false => false
      | _ => false
def eqOK (P : Program) : Nat → Nat → Ty → Bool
  | 0, _, _ => false
  | d + 1, t, ty => match P.underlying t with
    | some d' => match ty with
      | .int k => match d' with | .int k' => (match decEq k k' with | .isTrue _ => true | .isFalse _ => false) | _ => false
      | .bool => match d' with | .bool => true | _ => false
      | .str => match d' with | .string => true | _ => false
      | .pair a b => match d' with
        | .struct fs => match P.stoodInHeld t with | true => false | false => match Nat.beq (P.cellsOf t) (a.sz + b.sz) with
          | true => eqOKF P d fs.toList 0 (.pair a b)
          | false => false
        | _ => false
      | _ => false
    | none => false
end
/-- one value of some cells -/
def vOf (ty : Ty) (us : List Value) : Value := match ty.isAgg with | true => .agg us.toArray | false => us.headD undef
def EqAt (P : Program) (n t : Nat) (ty : Ty) : Prop := ∀ (w : World) (xs ys : List C) (us vs : List Value) (b : Bool), eqTy ty xs ys = some b →
    All2 (fun c v => c = C.sc v) xs us → All2 (fun c v => c = C.sc v) ys vs → (Op.equalIn n t (vOf ty us) (vOf ty vs)).run P w = .ok b w
theorem eqTy_len : ∀ (t : Ty) {xs ys : List C} {b : Bool}, eqTy t xs ys = some b → xs.length = t.sz ∧ ys.length = t.sz
  | .int k, xs, ys, r, h => by
    unfold eqTy at h
    split at h
    · exact ⟨rfl, rfl⟩
    · cases h
  | .bool, xs, ys, r, h => by
    unfold eqTy at h
    split at h
    · exact ⟨rfl, rfl⟩
    · cases h
  | .str, xs, ys, r, h => by
    unfold eqTy at h
    split at h
    · exact ⟨rfl, rfl⟩
    · cases h
  | .unit, xs, ys, r, h => by simp [eqTy] at h
  | .slice _, xs, ys, r, h => by simp [eqTy] at h
  | .pair a b, xs, ys, r, h => by
    unfold eqTy at h
    rw [ctake_eq, ctake_eq, cdrop_eq, cdrop_eq] at h
    split at h
    · rename_i r1 h1
      split at h
      · rename_i r2 h2
        have e1 := eqTy_len a h1
        have e2 := eqTy_len b h2
        simp only [List.length_take, List.length_drop] at e1 e2
        have : 0 ≤ b.sz := Nat.zero_le _
        show xs.length = a.sz + b.sz ∧ ys.length = a.sz + b.sz
        refine ⟨?_, ?_⟩
        · by_cases hb : b.sz = 0
          · exfalso
            clear e1 e2
            revert h2 hb
            generalize xs.drop a.sz = p
            generalize ys.drop a.sz = q
            intro h2 hb
            exact absurd hb (by have := eqTy_pos b h2; omega)
          · omega
        · by_cases hb : b.sz = 0
          · exact absurd hb (by have := eqTy_pos b h2; omega)
          · omega
      · cases h
    · cases h
where eqTy_pos : ∀ (t : Ty) {xs ys : List C} {b : Bool}, eqTy t xs ys = some b → 0 < t.sz
  | .int _, _, _, _, _ => Nat.one_pos
  | .bool, _, _, _, _ => Nat.one_pos
  | .str, _, _, _, _ => Nat.one_pos
  | .unit, _, _, _, h => by simp [eqTy] at h
  | .slice _, _, _, _, h => by simp [eqTy] at h
  | .pair a b, xs, ys, r, h => by
    unfold eqTy at h
    split at h
    · rename_i r1 h1
      have := eqTy_pos a h1
      show 0 < a.sz + b.sz
      omega
    · cases h
/-- what eqOK says of the type's own form -/
theorem eqOK_form {P : Program} {d t : Nat} {ty : Ty} (h : eqOK P d t ty = true) : P.plainKey t = true ∧ ty.isAgg = false ∧ ty.sz = 1 ∨
    ∃ fs, P.underlying t = some (.struct fs) ∧ P.cellsOf t = ty.sz ∧ ty.isAgg = true := by
  cases d with
  | zero => simp [eqOK] at h
  | succ d =>
    unfold eqOK at h
    cases hu : P.underlying t with
    | none => rw [hu] at h; cases h
    | some d' =>
      rw [hu] at h
      simp only at h
      cases ty with
      | int k => cases d' <;> simp only at h <;> first | exact absurd h Bool.false_ne_true | (left; exact ⟨by simp [Program.plainKey, hu], rfl, rfl⟩)
      | bool => cases d' <;> simp only at h <;> first | exact absurd h Bool.false_ne_true | (left; exact ⟨by simp [Program.plainKey, hu], rfl, rfl⟩)
      | str => cases d' <;> simp only at h <;> first | exact absurd h Bool.false_ne_true | (left; exact ⟨by simp [Program.plainKey, hu], rfl, rfl⟩)
      | unit => cases h
      | slice _ => cases h
      | pair a b =>
        cases d' <;> simp only at h <;> (try exact absurd h Bool.false_ne_true)
        rename_i fs
        right
        split at h
        · cases h
        · split at h
          · rename_i hc
            exact ⟨fs, rfl, Nat.eq_of_beq_eq_true hc, rfl⟩
          · cases h
theorem run_part_eq {P : Program} {d t : Nat} {ty : Ty} (h : eqOK P d t ty = true) (w : World) (U : Array Value) (off : Nat) (us : List Value) (hl : us.length = ty.sz)
    (hU : (U.toList.drop off).take ty.sz = us) : (_root_.Go.part t U off).run P w = .ok (vOf ty us) w := by
  rcases eqOK_form h with ⟨h1, h2, h3⟩ | ⟨fs, h1, h2, h3⟩
  · unfold vOf
    rw [h2]
    rw [h3] at hl hU
    match us, hl with
    | [u], _ =>
      refine run_part_plain w h1 ?_
      have := congrArg (fun l : List Value => l[0]?) hU
      simp only [List.getElem?_take, List.getElem?_drop] at this
      simpa using this
  · unfold vOf
    rw [h3]
    obtain ⟨i, hi⟩ := info_of_underlying h1
    simp only [_root_.Go.part, isAgg, Sem.run_bind, run_underlying h1, Result.andThen_ok, Sem.run_pure, if_true, run_sizeOf w hi]
    congr 2
    apply Array.ext'
    have hi' : i.size = ty.sz := by rw [← h2]; simp [Program.cellsOf, hi]
    rw [Array.toList_extract]
    simp only [List.extract, List.toList_toArray]
    rw [← hU, h2]
    congr 1
    omega
mutual
theorem eqOKF_run {P : Program} : ∀ (d m : Nat) (fs : List Field) (off : Nat) (ty : Ty), eqOKF P d fs off ty = true → ∀ (w : World) (xs ys : List C) (us vs : List Value) (b : Bool) (U V : Array Value), eqTy ty xs ys = some b →
    All2 (fun c v => c = C.sc v) xs us → All2 (fun c v => c = C.sc v) ys vs → U.toList.drop off = us → V.toList.drop off = vs → (Op.eqFields (m + d) U V fs).run P w = .ok b w
  | 0, m, fs, off, ty, h => by simp [eqOKF] at h
  | d + 1, m, [], off, ty, h => by simp [eqOKF] at h
  | d + 1, m, [f], off, ty, h => by
    intro w xs ys us vs b U V hq hx hy hU hV
    unfold eqOKF at h
    simp only at h
    split at h
    · cases h
    · rename_i hn
      split at h
      · rename_i ho
        have ho := Nat.eq_of_beq_eq_true ho
        have hl := eqTy_len ty hq
        have hxl : us.length = ty.sz := by rw [← hl.1]; exact (All2.length hx).symm
        have hyl : vs.length = ty.sz := by rw [← hl.2]; exact (All2.length hy).symm
        have p1 := run_part_eq h w U f.offset us hxl (by rw [ho, hU, List.take_of_length_le (by omega)])
        have p2 := run_part_eq h w V f.offset vs hyl (by rw [ho, hV, List.take_of_length_le (by omega)])
        have p3 := eqOK_run d (m + 1) f.type ty h w xs ys us vs b hq hx hy
        rw [show m + 1 + d = m + (d + 1) by omega] at p3
        have hn' : f.name ≠ "_" := by simpa using hn
        simp only [Op.eqFields, hn', ne_eq, not_false_eq_true, if_true, Sem.run_bind, p1, p2, p3, Result.andThen_ok, Sem.run_ite]
        cases b <;> simp
      · cases h
  | d + 1, m, f :: g :: fs, off, ty, h => by
    intro w xs ys us vs b U V hq hx hy hU hV
    unfold eqOKF at h
    simp only at h
    cases ty with
    | pair a c =>
      simp only at h
      split at h
      · cases h
      · rename_i hn
        split at h
        · rename_i ho
          split at h
          · rename_i h1
            have ho := Nat.eq_of_beq_eq_true ho
            have hl := eqTy_len _ hq
            unfold eqTy at hq
            rw [ctake_eq, ctake_eq, cdrop_eq, cdrop_eq] at hq
            split at hq
            · rename_i r1 q1
              split at hq
              · rename_i r2 q2
                cases hq
                have hxl : us.length = a.sz + c.sz := by rw [← All2.length hx, hl.1]; rfl
                have hyl : vs.length = a.sz + c.sz := by rw [← All2.length hy, hl.2]; rfl
                have p1 := run_part_eq h1 w U f.offset (us.take a.sz) (by rw [List.length_take]; omega) (by rw [ho, hU])
                have p2 := run_part_eq h1 w V f.offset (vs.take a.sz) (by rw [List.length_take]; omega) (by rw [ho, hV])
                have p3 := eqOK_run d (m + 1) f.type a h1 w _ _ _ _ r1 q1 (hx.take a.sz) (hy.take a.sz)
                rw [show m + 1 + d = m + (d + 1) by omega] at p3
                have p4 := eqOKF_run d (m + 1) (g :: fs) (off + a.sz) c h w _ _ _ _ r2 U V q2 (hx.drop a.sz) (hy.drop a.sz) (by rw [← hU, List.drop_drop]) (by rw [← hV, List.drop_drop])
                rw [show m + 1 + d = m + (d + 1) by omega] at p4
                have hn' : f.name ≠ "_" := by simpa using hn
                rw [Op.eqFields]
                simp only [hn', ne_eq, not_false_eq_true, if_true, Sem.run_bind, p1, p2, p3, Result.andThen_ok, Sem.run_ite]
                cases r1
                · simp
                · simpa using p4
              · cases hq
            · cases hq
          · cases h
        · cases h
    | _ => cases h
theorem eqOK_run {P : Program} : ∀ (d m : Nat) (t : Nat) (ty : Ty), eqOK P d t ty = true → EqAt P (m + d) t ty
  | 0, m, t, ty, h => by simp [eqOK] at h
  | d + 1, m, t, ty, h => by
    intro w xs ys us vs b hq hx hy
    unfold eqOK at h
    cases hu : P.underlying t with
    | none => rw [hu] at h; cases h
    | some d' =>
      rw [hu] at h
      simp only at h
      rw [show m + (d + 1) = m + d + 1 by omega]
      cases ty with
      | int k =>
        cases d' <;> simp only at h <;> (try exact absurd h Bool.false_ne_true)
        rename_i k'
        unfold eqTy at hq
        split at hq
        · split at hq
          · split at hq
            · rename_i k1 a k2 b' e1 e2
              subst e1; subst e2
              cases hq
              match us, vs, hx, hy with
              | [u], [v], hx, hy =>
                obtain ⟨e3, _⟩ := hx
                obtain ⟨e4, _⟩ := hy
                cases e3; cases e4
                exact run_equalIn_int w (m + d) t _ _ _ _ hu
            · cases hq
          · cases hq
        · cases hq
      | bool =>
        cases d' <;> simp only at h <;> (try exact absurd h Bool.false_ne_true)
        unfold eqTy at hq
        split at hq
        · cases hq
          match us, vs, hx, hy with
          | [u], [v], hx, hy =>
            obtain ⟨e3, _⟩ := hx
            obtain ⟨e4, _⟩ := hy
            cases e3; cases e4
            exact run_equalIn_bool w (m + d) t _ _ hu
        · cases hq
      | str =>
        cases d' <;> simp only at h <;> (try exact absurd h Bool.false_ne_true)
        unfold eqTy at hq
        split at hq
        · cases hq
          match us, vs, hx, hy with
          | [u], [v], hx, hy =>
            obtain ⟨e3, _⟩ := hx
            obtain ⟨e4, _⟩ := hy
            cases e3; cases e4
            exact run_equalIn_string w (m + d) t _ _ hu
        · cases hq
      | unit => cases h
      | slice _ => cases h
      | pair a c =>
        cases d' <;> simp only at h <;> (try exact absurd h Bool.false_ne_true)
        rename_i fs
        split at h
        · cases h
        · rename_i hs
          split at h
          · have hf : P.fieldsOf t = fs := by simp [Program.fieldsOf, hu]
            have := eqOKF_run d m fs.toList 0 (.pair a c) h w xs ys us vs b us.toArray vs.toArray hq hx hy (by simp) (by simp)
            show (Op.equalIn (m + d + 1) t (.agg us.toArray) (.agg vs.toArray)).run P w = _
            rw [run_equalIn_struct w (m + d) t _ _ (by rw [hf]; exact hu) (by simpa using hs), hf]
            exact this
          · cases h
end
theorem eqOK_EqOk {P : Program} {t : Nat} {ty : Ty} (ha : ty.isAgg = true) (h : eqOK P 20 t ty = true) : EqOk P t ty := by
  intro w xs ys us vs b hq hx hy
  have := eqOK_run 20 9980 t ty h w xs ys us vs b hq hx hy
  unfold vOf at this
  rw [ha] at this
  exact this
def eqFlag (P : Program) (t : Nat) : Option Ty → Bool
  | some ty => match ty.isAgg with
    | true => match eqOK P 20 t ty with | true => !(P.eqGuardType P.depth t) | false => false
    | false => false
  | none => false
/-- a type's row, as the program says -/
def mkTI (P : Program) (t : Nat) (ty : Option Ty) : Option TI :=
  match P.underlying t, P.info? t with
  | some d, some i => match i.zero with
    | some z => match tyD ty d with
      | true => match infosD P d with
        | true => match chkTy ty (aggD d) i.size z.cells.toList with
          | true => some { ty := ty, agg := aggD d, size := i.size, bytes := i.bytes, zero := z.cells.toList, eq := eqFlag P t ty, sub := subD d }
          | false => none
        | false => none
      | false => none
    | none => none
  | _, _ => none
theorem beqB_eq {a b : Bool} (h : beqB a b = true) : a = b := by cases a <;> cases b <;> simp [beqB] at h ⊢
theorem mkTI_ok {P : Program} {t : Nat} {ty : Option Ty} {ti : TI} (h : mkTI P t ty = some ti) : TIok P t ti := by
  unfold mkTI at h
  split at h
  · rename_i d i hd hi
    cases hz : i.zero with
    | none => rw [hz] at h; cases h
    | some z =>
    rw [hz] at h
    simp only at h
    cases h1 : tyD ty d with
    | false => rw [h1] at h; cases h
    | true =>
    rw [h1] at h
    simp only at h
    cases h2 : infosD P d with
    | false => rw [h2] at h; cases h
    | true =>
    rw [h2] at h
    simp only at h
    cases h3 : chkTy ty (aggD d) i.size z.cells.toList with
    | false => rw [h3] at h; cases h
    | true =>
    rw [h3] at h
    simp only [Option.some.injEq] at h
    subst h
    have hty : ∀ ty', ty = some ty' → zeroRep ty' z.cells.toList = true ∧ aggD d = ty'.isAgg ∧ z.cells.toList.length = i.size := by
      rintro ty' rfl
      unfold chkTy at h3
      simp only at h3
      cases g1 : zeroRep ty' z.cells.toList with
      | false => rw [g1] at h3; cases h3
      | true =>
        rw [g1] at h3
        simp only at h3
        cases g2 : beqB (aggD d) ty'.isAgg with
        | false => rw [g2] at h3; cases h3
        | true =>
          rw [g2] at h3
          rw [clen_eq] at h3
          exact ⟨rfl, beqB_eq g2, Nat.eq_of_beq_eq_true h3⟩
    refine ⟨⟨i, z, hi, rfl, rfl, hz, rfl⟩, ⟨d, hd, ?_⟩, ?_, ?_, ?_, ?_, ?_, ?_, ?_, ?_, ?_⟩
    · cases d <;> rfl
    · intro e he
      have he' : subD d = .slice e := he
      cases d <;> simp [subD] at he'
      subst he'
      exact hd
    · intro fs he
      have he' : subD d = .struct fs := he
      cases d <;> simp [subD] at he'
      rename_i fields
      subst he'
      refine ⟨fields, hd, rfl, fun f hf => ?_⟩
      have h2' : (fields.toList.all fun f => (P.info? f.type).isSome) = true := h2
      have := List.all_eq_true.1 h2' f hf
      exact Option.isSome_iff_exists.1 this
    · intro he
      have he' : ty = some .bool := he
      subst he'
      cases d <;> simp [tyD] at h1
      exact hd
    · intro k he
      have he' : ty = some (.int k) := he
      subst he'
      cases d <;> simp [tyD] at h1
      rename_i k'
      split at h1
      · rename_i e _
        subst e
        exact hd
      · cases h1
    · intro he
      have he' : ty = some .str := he
      subst he'
      cases d <;> simp [tyD] at h1
      exact hd
    · intro ty' he
      obtain ⟨g1, g2, g3⟩ := hty ty' he
      have := Rep_len _ _ _ (zeroRep_spec default (fun _ => True) _ _ g1)
      rw [← this]; exact g3
    · intro ty' he w R
      exact zeroRep_spec w R _ _ (hty ty' he).1
    · intro ty' he
      have := (hty ty' he).2.1
      show aggD d = _
      rw [this]
      cases ty' <;> rfl
    · intro he ty' hty'
      have hty'' : ty = some ty' := hty'
      subst hty''
      have he' : eqFlag P t (some ty') = true := he
      unfold eqFlag at he'
      simp only at he'
      split at he'
      · rename_i ha
        split at he'
        · rename_i hk
          exact ⟨eqOK_EqOk ha hk, by simpa using he'⟩
        · cases he'
      · cases he'
  · cases h
/-- a table, as the program says -/
def mkTT (P : Program) : List (Nat × Option Ty) → Option (List (Nat × TI))
  | [] => some []
  | (t, ty) :: ts => match mkTI P t ty with
    | some ti => match mkTT P ts with | some r => some ((t, ti) :: r) | none => none
    | none => none
theorem mkTT_ok {P : Program} : ∀ {ts : List (Nat × Option Ty)} {tt : List (Nat × TI)}, mkTT P ts = some tt → TTok P tt
  | [], tt, h, t, ti, hl => by cases h; cases hl
  | (t', ty) :: ts, tt, h, t, ti, hl => by
    unfold mkTT at h
    split at h
    · rename_i ti' h1
      split at h
      · rename_i r h2
        cases h
        rw [look_cons] at hl
        split at hl
        · rename_i e
          simp only at e
          subst e
          cases hl
          exact mkTI_ok h1
        · exact mkTT_ok h2 t ti hl
      · cases h
    · cases h
end Go.BB
