/- A symbolic machine for the model's code, and what it shows of this seat's functions. No conditions. -/
import Derived.Test.YtnofmeckcimodaaFMain
import Derived.ChangeKeysEq
import Derived.Laws.StructEq
import Derived.Laws.Bits
import Derived.ProofKit
import Derived.OpenShut
import Derived.ChangeOld
import Derived.Below
import Derived.Carry
import Derived.SizedLaws
import Derived.Deep.Slices
set_option linter.unusedSimpArgs false
set_option linter.unusedVariables false
namespace Go.BB
open Go
def zeroRep : Ty → List Value → Bool
 | .int k, vs => match vs with | [.int k' n] => (match decEq k k' with | .isTrue _ => (match n with | .ofNat 0 => true | _ => false) | .isFalse _ => false) | _ => false
 | .bool, vs => match vs with | [.bool b] => (match b with | true => false | false => true) | _ => false
 | .str, vs => match vs with | [.string s] => (match s with | ⟨⟨[]⟩⟩ => true | _ => false) | _ => false
 | .unit, vs => match vs with | [] => true | _ => false
 | .pair a b, vs => match zeroRep a (ctake a.sz vs) with | true => zeroRep b (cdrop a.sz vs) | false => false
 | .slice _, vs => match vs with | [.slice none 0 0] => true | _ => false
theorem zeroRep_spec (w : World) (R : Nat → Prop) : ∀ (t : Ty) (vs : List Value), zeroRep t vs = true → Rep w R t t.zero vs
 | .int k, vs, h => by
  unfold zeroRep at h
  split at h
  ·split at h
   ·rename_i e _
    subst e
    split at h
    ·rfl
    ·cases h
   ·cases h
  ·cases h
 | .bool, vs, h => by
  unfold zeroRep at h
  split at h
  ·split at h
   ·cases h
   ·rfl
  ·cases h
 | .str, vs, h => by
  unfold zeroRep at h
  split at h
  ·split at h
   ·rfl
   ·cases h
  ·cases h
 | .unit, vs, h => by
  unfold zeroRep at h
  split at h
  ·rfl
  ·cases h
 | .pair a b, vs, h => by
  unfold zeroRep at h
  cases ha : zeroRep a (ctake a.sz vs) with
  | false => rw [ha] at h; cases h
  | true =>
   rw [ha] at h
   rw [ctake_eq] at ha
   rw [cdrop_eq] at h
   exact ⟨vs.take a.sz, vs.drop a.sz, (List.take_append_drop _ _).symm, zeroRep_spec w R a _ ha, zeroRep_spec w R b _ h⟩
 | .slice t, vs, h => by
  unfold zeroRep at h
  split at h
  ·exact ⟨none, 0, rfl, Nat.le_refl _, fun h => by cases h⟩
  ·cases h
def aggD : TypeDesc → Bool
 | .struct _ => true
 | .array _ _ => true
 | _ => false
def subD : TypeDesc → Sub
 | .slice e => .slice e
 | .struct fs => .struct (fs.toList.map fun f => (f.type, f.offset))
 | .array n e => .arr n e
 | .map k e => .map k e
 | .pointer e => .ptr e
 | _ => .other
def tyD : Option Ty → TypeDesc → Bool
 | some (.int k), d => match d with | .int k' => (match decEq k k' with | .isTrue _ => true | .isFalse _ => false) | _ => false
 | some .bool, d => match d with | .bool => true | _ => false
 | some .str, d => match d with | .string => true | _ => false
 | _, _ => true
def infosD (P : Program) : TypeDesc → Bool
 | .struct fs => fs.toList.all fun f => (P.info? f.type).isSome
 | _ => true
def chkTy (ty : Option Ty) (agg : Bool) (size : Nat) (zero : List Value) : Bool :=
 match ty with
 | none => true
 | some ty => match zeroRep ty zero with
  | true => match beqB agg ty.isAgg with
   | true => Nat.beq (clen zero) size
   | false => false
  | false => false
mutual
def eqOKF (P : Program) : Nat → List Field → Nat → Ty → Bool
 | 0, _, _, _ => false
 | d + 1, fs, off, ty => match fs with
  | [] => false
  | [f] => match f.name == "_" with | true => false | false => match Nat.beq f.offset off with | true => eqOK P d f.type ty | false => false
  | f :: fs => match ty with
   | .pair a b => match f.name == "_" with | true => false | false => match Nat.beq f.offset off with
    | true => (match eqOK P d f.type a with | true => eqOKF P d fs (Nat.add off a.sz) b | false => false)
    | false => false
   | _ => false
def eqOK (P : Program) : Nat → Nat → Ty → Bool
 | 0, _, _ => false
 | d + 1, t, ty => match P.underlying t with
  | some d' => match ty with
   | .int k => match d' with | .int k' => (match decEq k k' with | .isTrue _ => true | .isFalse _ => false) | _ => false
   | .bool => match d' with | .bool => true | _ => false
   | .str => match d' with | .string => true | _ => false
   | .pair a b => match d' with
    | .struct fs => match P.stoodInHeld t with | true => false | false => match Nat.beq (P.cellsOf t) (a.sz + b.sz) with
     | true => eqOKF P d fs.toList 0 (.pair a b)
     | false => false
    | _ => false
   | _ => false
  | none => false
end
def vOf (ty : Ty) (us : List Value) : Value := match ty.isAgg with | true => .agg us.toArray | false => us.headD undef
def EqAt (P : Program) (n t : Nat) (ty : Ty) : Prop := ∀ (w : World) (xs ys : List C) (us vs : List Value) (b : Bool), eqTy ty xs ys = some b →
  All2 (fun c v => c = C.sc v) xs us → All2 (fun c v => c = C.sc v) ys vs → (Op.equalIn n t (vOf ty us) (vOf ty vs)).run P w = .ok b w
theorem eqTy_len : ∀ (t : Ty) {xs ys : List C} {b : Bool}, eqTy t xs ys = some b → xs.length = t.sz ∧ ys.length = t.sz
 | .int k, xs, ys, r, h => by
  unfold eqTy at h
  split at h
  ·exact ⟨rfl, rfl⟩
  ·cases h
 | .bool, xs, ys, r, h => by
  unfold eqTy at h
  split at h
  ·exact ⟨rfl, rfl⟩
  ·cases h
 | .str, xs, ys, r, h => by
  unfold eqTy at h
  split at h
  ·exact ⟨rfl, rfl⟩
  ·cases h
 | .unit, xs, ys, r, h => by
  unfold eqTy at h
  split at h
  ·exact ⟨rfl, rfl⟩
  ·cases h
 | .slice _, xs, ys, r, h => by simp [eqTy] at h
 | .pair a b, xs, ys, r, h => by
  unfold eqTy at h
  rw [ctake_eq, ctake_eq, cdrop_eq, cdrop_eq] at h
  split at h
  ·rename_i r1 h1
   split at h
   ·rename_i r2 h2
    have e1 := eqTy_len a h1
    have e2 := eqTy_len b h2
    simp only [List.length_take, List.length_drop] at e1 e2
    show xs.length = a.sz + b.sz ∧ ys.length = a.sz + b.sz
    omega
   ·cases h
  ·cases h
theorem eqOK_form {P : Program} {d t : Nat} {ty : Ty} (h : eqOK P d t ty = true) : P.plainKey t = true ∧ ty.isAgg = false ∧ ty.sz = 1 ∨
  ∃ fs, P.underlying t = some (.struct fs) ∧ P.cellsOf t = ty.sz ∧ ty.isAgg = true := by
 cases d with
 | zero => simp [eqOK] at h
 | succ d =>
  unfold eqOK at h
  cases hu : P.underlying t with
  | none => rw [hu] at h; cases h
  | some d' =>
   rw [hu] at h
   simp only at h
   cases ty with
   | int k => cases d' <;> simp only at h <;> first | exact absurd h Bool.false_ne_true | (left; exact ⟨by simp [Program.plainKey, hu], rfl, rfl⟩)
   | bool => cases d' <;> simp only at h <;> first | exact absurd h Bool.false_ne_true | (left; exact ⟨by simp [Program.plainKey, hu], rfl, rfl⟩)
   | str => cases d' <;> simp only at h <;> first | exact absurd h Bool.false_ne_true | (left; exact ⟨by simp [Program.plainKey, hu], rfl, rfl⟩)
   | unit => cases h
   | slice _ => cases h
   | pair a b =>
    cases d' <;> simp only at h <;> (try exact absurd h Bool.false_ne_true)
    rename_i fs
    right
    split at h
    ·cases h
    ·split at h
     ·rename_i hc
      exact ⟨fs, rfl, Nat.eq_of_beq_eq_true hc, rfl⟩
     ·cases h
theorem run_part_eq {P : Program} {d t : Nat} {ty : Ty} (h : eqOK P d t ty = true) (w : World) (U : Array Value) (off : Nat) (us : List Value) (hl : us.length = ty.sz)
  (hU : (U.toList.drop off).take ty.sz = us) : (_root_.Go.part t U off).run P w = .ok (vOf ty us) w := by
 rcases eqOK_form h with ⟨h1, h2, h3⟩ | ⟨fs, h1, h2, h3⟩
 ·unfold vOf
  rw [h2]
  rw [h3] at hl hU
  match us, hl with
  | [u], _ =>
   refine run_part_plain w h1 ?_
   have := congrArg (fun l : List Value => l[0]?) hU
   simp only [List.getElem?_take, List.getElem?_drop] at this
   simpa using this
 ·unfold vOf
  rw [h3]
  obtain ⟨i, hi⟩ := info_of_underlying h1
  simp only [_root_.Go.part, isAgg, Sem.run_bind, run_underlying h1, Result.andThen_ok, Sem.run_pure, if_true, run_sizeOf w hi]
  congr 2
  apply Array.ext'
  have hi' : i.size = ty.sz := by rw [← h2]; simp [Program.cellsOf, hi]
  rw [Array.toList_extract]
  simp only [List.extract, List.toList_toArray]
  rw [← hU, h2]
  congr 1
  omega
mutual
theorem eqOKF_run {P : Program} : ∀ (d m : Nat) (fs : List Field) (off : Nat) (ty : Ty), eqOKF P d fs off ty = true → ∀ (w : World) (xs ys : List C) (us vs : List Value) (b : Bool) (U V : Array Value), eqTy ty xs ys = some b →
  All2 (fun c v => c = C.sc v) xs us → All2 (fun c v => c = C.sc v) ys vs → U.toList.drop off = us → V.toList.drop off = vs → (Op.eqFields (m + d) U V fs).run P w = .ok b w
 | 0, m, fs, off, ty, h => by simp [eqOKF] at h
 | d + 1, m, [], off, ty, h => by simp [eqOKF] at h
 | d + 1, m, [f], off, ty, h => by
  intro w xs ys us vs b U V hq hx hy hU hV
  unfold eqOKF at h
  simp only at h
  split at h
  ·cases h
  ·rename_i hn
   split at h
   ·rename_i ho
    have ho := Nat.eq_of_beq_eq_true ho
    have hl := eqTy_len ty hq
    have hxl : us.length = ty.sz := by rw [← hl.1]; exact (All2.length hx).symm
    have hyl : vs.length = ty.sz := by rw [← hl.2]; exact (All2.length hy).symm
    have p1 := run_part_eq h w U f.offset us hxl (by rw [ho, hU, List.take_of_length_le (by omega)])
    have p2 := run_part_eq h w V f.offset vs hyl (by rw [ho, hV, List.take_of_length_le (by omega)])
    have p3 := eqOK_run d (m + 1) f.type ty h w xs ys us vs b hq hx hy
    rw [show m + 1 + d = m + (d + 1) by omega] at p3
    have hn' : f.name ≠ "_" := by simpa using hn
    simp only [Op.eqFields, hn', ne_eq, not_false_eq_true, if_true, Sem.run_bind, p1, p2, p3, Result.andThen_ok, Sem.run_ite]
    cases b <;> simp
   ·cases h
 | d + 1, m, f :: g :: fs, off, ty, h => by
  intro w xs ys us vs b U V hq hx hy hU hV
  unfold eqOKF at h
  simp only at h
  cases ty with
  | pair a c =>
   simp only at h
   split at h
   ·cases h
   ·rename_i hn
    split at h
    ·rename_i ho
     split at h
     ·rename_i h1
      have ho := Nat.eq_of_beq_eq_true ho
      have hl := eqTy_len _ hq
      unfold eqTy at hq
      rw [ctake_eq, ctake_eq, cdrop_eq, cdrop_eq] at hq
      split at hq
      ·rename_i r1 q1
       split at hq
       ·rename_i r2 q2
        cases hq
        have hxl : us.length = a.sz + c.sz := by rw [← All2.length hx, hl.1]; rfl
        have hyl : vs.length = a.sz + c.sz := by rw [← All2.length hy, hl.2]; rfl
        have p1 := run_part_eq h1 w U f.offset (us.take a.sz) (by rw [List.length_take]; omega) (by rw [ho, hU])
        have p2 := run_part_eq h1 w V f.offset (vs.take a.sz) (by rw [List.length_take]; omega) (by rw [ho, hV])
        have p3 := eqOK_run d (m + 1) f.type a h1 w _ _ _ _ r1 q1 (hx.take a.sz) (hy.take a.sz)
        rw [show m + 1 + d = m + (d + 1) by omega] at p3
        have p4 := eqOKF_run d (m + 1) (g :: fs) (off + a.sz) c h w _ _ _ _ r2 U V q2 (hx.drop a.sz) (hy.drop a.sz) (by rw [← hU, List.drop_drop]) (by rw [← hV, List.drop_drop])
        rw [show m + 1 + d = m + (d + 1) by omega] at p4
        have hn' : f.name ≠ "_" := by simpa using hn
        rw [Op.eqFields]
        simp only [hn', ne_eq, not_false_eq_true, if_true, Sem.run_bind, p1, p2, p3, Result.andThen_ok, Sem.run_ite]
        cases r1
        ·simp
        ·simpa using p4
       ·cases hq
      ·cases hq
     ·cases h
    ·cases h
  | _ => cases h
theorem eqOK_run {P : Program} : ∀ (d m : Nat) (t : Nat) (ty : Ty), eqOK P d t ty = true → EqAt P (m + d) t ty
 | 0, m, t, ty, h => by simp [eqOK] at h
 | d + 1, m, t, ty, h => by
  intro w xs ys us vs b hq hx hy
  unfold eqOK at h
  cases hu : P.underlying t with
  | none => rw [hu] at h; cases h
  | some d' =>
   rw [hu] at h
   simp only at h
   rw [show m + (d + 1) = m + d + 1 by omega]
   cases ty with
   | int k =>
    cases d' <;> simp only at h <;> (try exact absurd h Bool.false_ne_true)
    rename_i k'
    unfold eqTy at hq
    split at hq
    ·split at hq
     ·split at hq
      ·rename_i k1 a k2 b' e1 e2
       subst e1; subst e2
       cases hq
       match us, vs, hx, hy with
       | [u], [v], hx, hy =>
        obtain ⟨e3, _⟩ := hx
        obtain ⟨e4, _⟩ := hy
        cases e3; cases e4
        exact run_equalIn_int w (m + d) t _ _ _ _ hu
      ·cases hq
     ·cases hq
    ·cases hq
   | bool =>
    cases d' <;> simp only at h <;> (try exact absurd h Bool.false_ne_true)
    unfold eqTy at hq
    split at hq
    ·cases hq
     match us, vs, hx, hy with
     | [u], [v], hx, hy =>
      obtain ⟨e3, _⟩ := hx
      obtain ⟨e4, _⟩ := hy
      cases e3; cases e4
      exact run_equalIn_bool w (m + d) t _ _ hu
    ·cases hq
   | str =>
    cases d' <;> simp only at h <;> (try exact absurd h Bool.false_ne_true)
    unfold eqTy at hq
    split at hq
    ·cases hq
     match us, vs, hx, hy with
     | [u], [v], hx, hy =>
      obtain ⟨e3, _⟩ := hx
      obtain ⟨e4, _⟩ := hy
      cases e3; cases e4
      exact run_equalIn_string w (m + d) t _ _ hu
    ·cases hq
   | unit => cases h
   | slice _ => cases h
   | pair a c =>
    cases d' <;> simp only at h <;> (try exact absurd h Bool.false_ne_true)
    rename_i fs
    split at h
    ·cases h
    ·rename_i hs
     split at h
     ·have hf : P.fieldsOf t = fs := by simp [Program.fieldsOf, hu]
      have := eqOKF_run d m fs.toList 0 (.pair a c) h w xs ys us vs b us.toArray vs.toArray hq hx hy (by simp) (by simp)
      show (Op.equalIn (m + d + 1) t (.agg us.toArray) (.agg vs.toArray)).run P w = _
      rw [run_equalIn_struct w (m + d) t _ _ (by rw [hf]; exact hu) (by simpa using hs), hf]
      exact this
     ·cases h
end
theorem eqOK_EqOk {P : Program} {t : Nat} {ty : Ty} (ha : ty.isAgg = true) (h : eqOK P 20 t ty = true) : EqOk P t ty := by
 intro w xs ys us vs b hq hx hy
 have := eqOK_run 20 9980 t ty h w xs ys us vs b hq hx hy
 unfold vOf at this
 rw [ha] at this
 exact this
def arrTyIs : Nat → Ty → Ty → Bool
 | 0, t, _ => match t with | .unit => true | _ => false
 | n + 1, t, e => match t with | .pair a b => (match decEq a e with | .isTrue _ => arrTyIs n b e | .isFalse _ => false) | _ => false
def eqArr (P : Program) (t : Nat) (ty : Ty) : Bool := match P.underlying t with
 | some (.array n e) => (match P.info? e with
  | some _ => (match ty with
   | .pair a b => (match eqOK P 19 e a with
    | true => (match Nat.beq (P.cellsOf e) a.sz with | true => arrTyIs n (.pair a b) a | false => false)
    | false => false)
   | _ => false)
  | none => false)
 | _ => false
theorem eqItems_run {P : Program} {d dd e : Nat} {a : Ty} (hE : EqAt P d e a) (hok : eqOK P dd e a = true) (hc : P.cellsOf e = a.sz) : ∀ (n : Nat) (ty : Ty), arrTyIs n ty a = true → ∀ (i : Nat) (w : World) (xs ys : List C) (us vs : List Value) (b : Bool) (U V : Array Value), eqTy ty xs ys = some b →
  All2 (fun c v => c = C.sc v) xs us → All2 (fun c v => c = C.sc v) ys vs → U.toList.drop (i * a.sz) = us → V.toList.drop (i * a.sz) = vs → (Op.eqItems d e (P.cellsOf e) U V (List.range' i n)).run P w = .ok b w
 | 0, ty, h => by
  intro i w xs ys us vs b U V hq hx hy hU hV
  cases ty with
  | unit =>
   unfold eqTy at hq
   split at hq
   ·cases hq
    simp [Op.eqItems]
   ·cases hq
  | _ => cases h
 | n + 1, ty, h => by
  intro i w xs ys us vs b U V hq hx hy hU hV
  cases ty with
  | pair a' c =>
   unfold arrTyIs at h
   simp only at h
   split at h
   ·rename_i ha _
    subst ha
    have hl := eqTy_len _ hq
    unfold eqTy at hq
    rw [ctake_eq, ctake_eq, cdrop_eq, cdrop_eq] at hq
    split at hq
    ·rename_i r1 q1
     split at hq
     ·rename_i r2 q2
      cases hq
      have hxl : us.length = a'.sz + c.sz := by rw [← All2.length hx, hl.1]; rfl
      have hyl : vs.length = a'.sz + c.sz := by rw [← All2.length hy, hl.2]; rfl
      have p1 := run_part_eq hok w U (i * a'.sz) (us.take a'.sz) (by rw [List.length_take]; omega) (by rw [hU])
      have p2 := run_part_eq hok w V (i * a'.sz) (vs.take a'.sz) (by rw [List.length_take]; omega) (by rw [hV])
      have p3 := hE w _ _ _ _ r1 q1 (hx.take a'.sz) (hy.take a'.sz)
      have p4 := eqItems_run hE hok hc n c h (i + 1) w _ _ _ _ r2 U V q2 (hx.drop a'.sz) (hy.drop a'.sz) (by rw [← hU, List.drop_drop, Nat.add_mul, Nat.one_mul]) (by rw [← hV, List.drop_drop, Nat.add_mul, Nat.one_mul])
      rw [List.range'_succ]
      rw [hc] at p4 ⊢
      simp only [Op.eqItems, Sem.run_bind, p1, p2, p3, Result.andThen_ok, Sem.run_ite]
      cases r1
      ·simp
      ·simpa using p4
     ·cases hq
    ·cases hq
   ·cases h
  | _ => cases h
theorem eqArr_EqOk {P : Program} {t : Nat} {ty : Ty} (h : eqArr P t ty = true) : EqOk P t ty := by
 unfold eqArr at h
 split at h
 ·rename_i n e hu
  split at h
  ·rename_i inf hi
   cases ty with
   | pair a b =>
    simp only at h
    split at h
    ·rename_i hok
     split at h
     ·rename_i hc
      intro w xs ys us vs bb hq hx hy
      have hE : EqAt P 9999 e a := eqOK_run 19 9980 e a hok
      have := eqItems_run hE hok (Nat.eq_of_beq_eq_true hc) n _ h 0 w xs ys us vs bb us.toArray vs.toArray hq hx hy (by simp) (by simp)
      rw [show (10000 : Nat) = 9999 + 1 from rfl, run_equalIn_array w 9999 us.toArray vs.toArray hu hi, List.range_eq_range']
      exact this
     ·cases h
    ·cases h
   | _ => cases h
  ·cases h
 ·cases h
def keyTy : Ty → Bool
 | .int _ => true
 | .bool => true
 | .str => true
 | .pair a b => match keyTy a with | true => keyTy b | false => false
 | _ => false
theorem keyTy_pair {a b : Ty} (h : keyTy (.pair a b) = true) : keyTy a = true ∧ keyTy b = true := by
 unfold keyTy at h
 cases ha : keyTy a with
 | false => rw [ha] at h; cases h
 | true => rw [ha] at h; exact ⟨rfl, h⟩
theorem keyTy_flat : ∀ (t : Ty), keyTy t = true → t.flat = true
 | .int _, _ => rfl
 | .bool, _ => rfl
 | .str, _ => rfl
 | .unit, h => by cases h
 | .slice _, h => by cases h
 | .pair a b, h => by
  obtain ⟨h1, h2⟩ := keyTy_pair h
  unfold Ty.flat
  rw [keyTy_flat a h1]
  exact keyTy_flat b h2
theorem eqTy_D {w w' : World} {R R' : Nat → Prop} : ∀ (t : Ty), keyTy t = true → ∀ {x y : t.den} {us vs : List Value}, Rep w R t x us → Rep w' R' t y vs → eqTy t (us.map .sc) (vs.map .sc) = some (eqD t x y)
 | .int k, _, x, y, _, _, h, h' => by
  cases h; cases h'
  simp [eqTy, eqD, eqI, eqO, eqS]
 | .bool, _, x, y, _, _, h, h' => by
  cases h; cases h'
  simp [eqTy, eqD, eqI, eqO, eqS]
 | .str, _, x, y, _, _, h, h' => by
  cases h; cases h'
  simp [eqTy, eqD, eqI, eqO, eqS]
 | .unit, h, _, _, _, _, _, _ => by cases h
 | .slice _, h, _, _, _, _, _, _ => by cases h
 | .pair a b, hk, x, y, _, _, ⟨u1, u2, e1, h1, h2⟩, ⟨v1, v2, e2, h3, h4⟩ => by
  subst e1; subst e2
  obtain ⟨k1, k2⟩ := keyTy_pair hk
  have l1 := Rep_len _ _ _ h1
  have l2 := Rep_len _ _ _ h3
  have t1 : ctake a.sz ((u1 ++ u2).map C.sc) = u1.map .sc := by rw [ctake_eq, List.map_append, List.take_left' (by simp [l1])]
  have t2 : ctake a.sz ((v1 ++ v2).map C.sc) = v1.map .sc := by rw [ctake_eq, List.map_append, List.take_left' (by simp [l2])]
  have t3 : cdrop a.sz ((u1 ++ u2).map C.sc) = u2.map .sc := by rw [cdrop_eq, List.map_append, List.drop_left' (by simp [l1])]
  have t4 : cdrop a.sz ((v1 ++ v2).map C.sc) = v2.map .sc := by rw [cdrop_eq, List.map_append, List.drop_left' (by simp [l2])]
  unfold eqTy eqD
  rw [t1, t2, t3, t4, eqTy_D a k1 h1 h3, eqTy_D b k2 h2 h4]
theorem eqS_eq {a b : ByteArray} (h : eqS a b = true) : a = b := by
 unfold eqS at h
 have h' := beq_iff_eq.1 h
 rw [ByteArray.toList_eq, ByteArray.toList_eq] at h'
 obtain ⟨⟨a⟩⟩ := a
 obtain ⟨⟨b⟩⟩ := b
 simpa using h'
theorem eqI_eq {a b : Int} (h : eqI a b = true) : a = b := beq_iff_eq.1 h
theorem eqO_eq {a b : Bool} (h : eqO a b = true) : a = b := beq_iff_eq.1 h
theorem eqD_eq : ∀ (t : Ty), keyTy t = true → ∀ {x y : t.den}, eqD t x y = true → x = y
 | .int _, _, x, y, h => eqI_eq h
 | .bool, _, x, y, h => eqO_eq h
 | .str, _, x, y, h => eqS_eq h
 | .unit, h, _, _, _ => by cases h
 | .slice _, h, _, _, _ => by cases h
 | .pair a b, hk, x, y, h => by
  obtain ⟨k1, k2⟩ := keyTy_pair hk
  unfold eqD at h
  simp only [Bool.and_eq_true] at h
  exact Prod.ext (eqD_eq a k1 h.1) (eqD_eq b k2 h.2)
theorem eqI_refl (a : Int) : eqI a a = true := beq_self_eq_true a
theorem eqO_refl (a : Bool) : eqO a a = true := beq_self_eq_true a
theorem eqS_refl (a : ByteArray) : eqS a a = true := beq_self_eq_true a.toList
theorem eqD_refl : ∀ (t : Ty), keyTy t = true → ∀ (x : t.den), eqD t x x = true
 | .int _, _, x => eqI_refl x
 | .bool, _, x => eqO_refl x
 | .str, _, x => eqS_refl x
 | .unit, h, _ => by cases h
 | .slice _, h, _ => by cases h
 | .pair a b, hk, x => by
  obtain ⟨k1, k2⟩ := keyTy_pair hk
  unfold eqD
  rw [eqD_refl a k1, eqD_refl b k2]; rfl
theorem Rep_fun {w w' : World} {R R' : Nat → Prop} : ∀ (t : Ty), keyTy t = true → ∀ {x : t.den} {us vs : List Value}, Rep w R t x us → Rep w' R' t x vs → us = vs
 | .int k, _, x, _, _, h, h' => by cases h; cases h'; rfl
 | .bool, _, x, _, _, h, h' => by cases h; cases h'; rfl
 | .str, _, x, _, _, h, h' => by cases h; cases h'; rfl
 | .unit, h, _, _, _, _, _ => by cases h
 | .slice _, h, _, _, _, _, _ => by cases h
 | .pair a b, hk, x, _, _, ⟨u1, u2, e1, h1, h2⟩, ⟨v1, v2, e2, h3, h4⟩ => by
  obtain ⟨k1, k2⟩ := keyTy_pair hk
  rw [e1, e2, Rep_fun a k1 h1 h3, Rep_fun b k2 h2 h4]
theorem TRep_fun {w w' : World} {R R' : Nat → Prop} {t : Ty} (hk : keyTy t = true) {x : t.den} {u v : Value} (h : TRep w R t x u) (h' : TRep w' R' t x v) : u = v := by
 obtain ⟨us, h1, rfl⟩ := TRep_ex h
 obtain ⟨vs, h2, rfl⟩ := TRep_ex h'
 rw [Rep_fun t hk h1 h2]
def plainV : Value → Bool
 | .int _ _ => true | .bool _ => true | .string _ => true | _ => false
theorem Rep_plain {w : World} {R : Nat → Prop} : ∀ (t : Ty), keyTy t = true → ∀ {x : t.den} {us : List Value}, Rep w R t x us → ∀ u ∈ us, plainV u = true
 | .int k, _, x, _, h => by cases h; simp [plainV]
 | .bool, _, x, _, h => by cases h; simp [plainV]
 | .str, _, x, _, h => by cases h; simp [plainV]
 | .unit, h, _, _, _ => by cases h
 | .slice _, h, _, _, _ => by cases h
 | .pair a b, hk, x, _, ⟨u1, u2, e1, h1, h2⟩ => by
  obtain ⟨k1, k2⟩ := keyTy_pair hk
  intro u hu
  rw [e1] at hu
  rcases List.mem_append.1 hu with hu | hu
  ·exact Rep_plain a k1 h1 u hu
  ·exact Rep_plain b k2 h2 u hu
theorem sameBits_plain (n : Nat) {u : Value} (h : plainV u = true) : Instr.sameBits n u u = true := by
 cases u <;> simp [plainV] at h <;> cases n <;> simp [Instr.sameBits] <;> (rw [beq_toListBytes]; exact beq_self_eq_true _)
theorem sameBits_self {w : World} {R : Nat → Prop} {t : Ty} (hk : keyTy t = true) {x : t.den} {u : Value} (h : TRep w R t x u) (n : Nat) : Instr.sameBits (n + 1) u u = true := by
 obtain ⟨us, h1, rfl⟩ := TRep_ex h
 have hp := Rep_plain t hk h1
 cases ht : t.isAgg with
 | true =>
  simp only
  unfold Instr.sameBits
  simp only [beq_self_eq_true, Bool.true_and, List.all_eq_true]
  rintro ⟨p, q⟩ hpq
  have hz : p = q ∧ p ∈ us := by
   rw [List.zip_eq_zipWith] at hpq
   clear h h1 hp
   induction us with
   | nil => simp at hpq
   | cons a us ih =>
    simp only [List.zipWith_cons_cons, List.mem_cons] at hpq
    rcases hpq with hpq | hpq
    ·cases hpq; exact ⟨rfl, List.mem_cons_self⟩
    ·exact ⟨(ih hpq).1, List.mem_cons_of_mem _ (ih hpq).2⟩
  obtain ⟨rfl, hm⟩ := hz
  exact sameBits_plain n (hp p hm)
 | false =>
  have hl := Rep_len _ _ _ h1
  have : us.headD undef ∈ us := by
   cases us with
   | nil =>
    exfalso
    cases t <;> simp [Ty.isAgg] at ht <;> simp [Ty.sz] at hl
   | cons a us => simp
  exact sameBits_plain _ (hp _ this)
def chkFields (em : Bool) (n : Nat) (U : Array Value) : List Field → Sem Unit
 | [] => pure ()
 | f :: fs => if f.name ≠ "_" then do
   let v ← _root_.Go.part f.type U f.offset
   Instr.checkKey em n f.type v
   chkFields em n U fs
  else chkFields em n U fs
theorem run_check_struct {P : Program} {t : Nat} {fs : Array Field} (hu : P.underlying t = some (.struct fs)) (em : Bool) (n : Nat) (U : Array Value) (w : World) :
  (Instr.checkKey em (n + 1) t (.agg U)).run P w = (chkFields em n U fs.toList).run P w := by
 unfold Instr.checkKey
 simp only [Sem.run_bind, run_underlying hu, Result.andThen_ok]
 rw [← Array.forIn_toList]
 generalize fs.toList = l
 clear hu
 induction l generalizing w with
 | nil => simp [chkFields]
 | cons f l ih =>
  simp only [List.forIn_cons, chkFields, Sem.run_bind, Sem.run_ite]
  split
  ·generalize (_root_.Go.part f.type U f.offset).run P w = r1
   cases r1 with
   | ok v w1 =>
    simp only [Result.andThen_ok]
    generalize (Instr.checkKey em n f.type v).run P w1 = r2
    cases r2 with
    | ok b w2 => simp only [Result.andThen_ok, Sem.run_pure]; exact ih w2
    | _ => rfl
   | _ => rfl
  ·simp only [Sem.run_pure, Result.andThen_ok]; exact ih w
mutual
theorem eqOKF_check {P : Program} : ∀ (d m : Nat) (fs : List Field) (off : Nat) (ty : Ty), eqOKF P d fs off ty = true → ∀ (wr w : World) (R : Nat → Prop) (em : Bool) (x : ty.den) (us : List Value) (U : Array Value), Rep w R ty x us →
  U.toList.drop off = us → (chkFields em (m + d) U fs).run P wr = .ok () wr
 | 0, m, fs, off, ty, h => by simp [eqOKF] at h
 | d + 1, m, [], off, ty, h => by simp [eqOKF] at h
 | d + 1, m, [f], off, ty, h => by
  intro wr w R em x us U hx hU
  unfold eqOKF at h
  simp only at h
  split at h
  ·cases h
  ·rename_i hn
   split at h
   ·rename_i ho
    have ho := Nat.eq_of_beq_eq_true ho
    have hl := Rep_len _ _ _ hx
    have p1 := run_part_eq h wr U f.offset us hl (by rw [ho, hU, List.take_of_length_le (by omega)])
    have p3 := eqOK_check d (m + 1) f.type ty h wr w R em x us hx
    rw [show m + 1 + d = m + (d + 1) by omega] at p3
    have hn' : f.name ≠ "_" := by simpa using hn
    simp only [chkFields, hn', ne_eq, not_false_eq_true, if_true, Sem.run_bind, p1, p3, Result.andThen_ok, Sem.run_ite, Sem.run_pure]
   ·cases h
 | d + 1, m, f :: g :: fs, off, ty, h => by
  intro wr w R em x us U hx hU
  unfold eqOKF at h
  simp only at h
  cases ty with
  | pair a c =>
   simp only at h
   split at h
   ·cases h
   ·rename_i hn
    split at h
    ·rename_i ho
     split at h
     ·rename_i h1
      have ho := Nat.eq_of_beq_eq_true ho
      obtain ⟨v1, v2, e, hx1, hx2⟩ := hx
      have l1 := Rep_len _ _ _ hx1
      subst e
      have p1 := run_part_eq h1 wr U f.offset v1 l1 (by rw [ho, hU, List.take_left' l1])
      have p3 := eqOK_check d (m + 1) f.type a h1 wr w R em x.1 v1 hx1
      rw [show m + 1 + d = m + (d + 1) by omega] at p3
      have p4 := eqOKF_check d (m + 1) (g :: fs) (off + a.sz) c h wr w R em x.2 v2 U hx2 (by rw [← List.drop_drop, hU, List.drop_left' l1])
      rw [show m + 1 + d = m + (d + 1) by omega] at p4
      have hn' : f.name ≠ "_" := by simpa using hn
      rw [chkFields]
      simp only [hn', ne_eq, not_false_eq_true, if_true, Sem.run_bind, p1, p3, Result.andThen_ok, Sem.run_ite]
      exact p4
     ·cases h
    ·cases h
  | _ => cases h
theorem eqOK_check {P : Program} : ∀ (d m : Nat) (t : Nat) (ty : Ty), eqOK P d t ty = true → ∀ (wr w : World) (R : Nat → Prop) (em : Bool) (x : ty.den) (us : List Value), Rep w R ty x us → (Instr.checkKey em (m + d) t (vOf ty us)).run P wr = .ok () wr
 | 0, m, t, ty, h => by simp [eqOK] at h
 | d + 1, m, t, ty, h => by
  intro wr w R em x us hx
  unfold eqOK at h
  cases hu : P.underlying t with
  | none => rw [hu] at h; cases h
  | some d' =>
   rw [hu] at h
   simp only at h
   rw [show m + (d + 1) = m + d + 1 by omega]
   cases ty with
   | int k =>
    cases d' <;> simp only at h <;> (try exact absurd h Bool.false_ne_true)
    cases hx
    simp [vOf, Ty.isAgg, Instr.checkKey, run_underlying hu]
   | bool =>
    cases d' <;> simp only at h <;> (try exact absurd h Bool.false_ne_true)
    cases hx
    simp [vOf, Ty.isAgg, Instr.checkKey, run_underlying hu]
   | str =>
    cases d' <;> simp only at h <;> (try exact absurd h Bool.false_ne_true)
    cases hx
    simp [vOf, Ty.isAgg, Instr.checkKey, run_underlying hu]
   | unit => cases h
   | slice _ => cases h
   | pair a c =>
    cases d' <;> simp only at h <;> (try exact absurd h Bool.false_ne_true)
    rename_i fs
    split at h
    ·cases h
    ·split at h
     ·have := eqOKF_check d m fs.toList 0 (.pair a c) h wr w R em x us us.toArray hx (by simp)
      show (Instr.checkKey em (m + d + 1) t (.agg us.toArray)).run P wr = _
      rw [run_check_struct hu]
      exact this
     ·cases h
end
theorem All2_sc' : ∀ (us : List Value), All2 (fun c v => c = C.sc v) (us.map C.sc) us
 | [] => trivial
 | _ :: us => ⟨rfl, All2_sc' us⟩
theorem eqOK_key {P : Program} {t : Nat} {ty : Ty} (hk : keyTy ty = true) (h : eqOK P 20 t ty = true) : KeyOk P t ty where
 flat := keyTy_flat ty hk
 desc := by
  rcases eqOK_form h with ⟨h1, _⟩ | ⟨fs, h1, _⟩
  ·unfold Program.plainKey at h1
   cases hu : P.underlying t with
   | none => rw [hu] at h1; cases h1
   | some d => exact ⟨d, rfl⟩
  ·exact ⟨_, h1⟩
 check wr w R em x v hx := by
  obtain ⟨us, h1, rfl⟩ := TRep_ex hx
  exact eqOK_check 20 9980 t ty h wr w R em x us h1
 equal wr w R w' R' x y u v hx hy := by
  obtain ⟨us, h1, rfl⟩ := TRep_ex hx
  obtain ⟨vs, h2, rfl⟩ := TRep_ex hy
  exact eqOK_run 20 9980 t ty h wr _ _ us vs _ (eqTy_D ty hk h1 h2) (All2_sc' us) (All2_sc' vs)
 now d hd := by
  unfold eqOK at h
  rw [hd] at h
  simp only at h
  cases ty with
  | int k =>
   left
   intro w R w' R' x y u v hx hy
   have hx' : [u] = [Value.int k x] := hx
   have hy' : [v] = [Value.int k y] := hy
   cases hx'; cases hy'
   cases d <;> simp only at h <;> first | exact absurd h Bool.false_ne_true | simp [Instr.sameNow, eqD, eqI, eqO]
  | bool =>
   left
   intro w R w' R' x y u v hx hy
   have hx' : [u] = [Value.bool x] := hx
   have hy' : [v] = [Value.bool y] := hy
   cases hx'; cases hy'
   cases d <;> simp only at h <;> first | exact absurd h Bool.false_ne_true | simp [Instr.sameNow, eqD, eqI, eqO]
  | str =>
   left
   intro w R w' R' x y u v hx hy
   have hx' : [u] = [Value.string x] := hx
   have hy' : [v] = [Value.string y] := hy
   cases hx'; cases hy'
   cases d <;> simp only at h <;> first | exact absurd h Bool.false_ne_true | exact congrArg some (beq_toListBytes x y)
  | unit => cases hk
  | slice _ => cases hk
  | pair a b =>
   right
   intro u v
   cases d <;> simp only at h <;> first | exact absurd h Bool.false_ne_true | simp [Instr.sameNow]
 same w R w' R' x y u v hx hy he := by
  have := eqD_eq ty hk he
  subst this
  have := TRep_fun hk hx hy
  subst this
  exact sameBits_self hk hx 9999
 eqd x y he := eqD_eq ty hk he
 refl x := eqD_refl ty hk x
def keyFlag (P : Program) (t : Nat) : Option Ty → Bool
 | some ty => match keyTy ty with
  | true => eqOK P 20 t ty
  | false => false
 | none => false
def zOk : Option Ty → Value → Bool
 | none, _ => true
 | some ty, z => match z with | .agg _ => ty.isAgg | .tuple _ => false | _ => match ty.isAgg with | true => false | false => true
def eqFlag (P : Program) (t : Nat) : Option Ty → Bool
 | some ty => match ty.isAgg with
  | true => match eqOK P 20 t ty with | true => !(P.eqGuardType P.depth t) | false => (match eqArr P t ty with | true => !(P.eqGuardType P.depth t) | false => false)
  | false => false
 | none => false
def mkTI (P : Program) (t : Nat) (ty : Option Ty) : Option TI :=
 match P.underlying t, P.info? t with
 | some d, some i => match i.zero with
  | some z => match tyD ty d with
   | true => match infosD P d with
    | true => match chkTy ty (aggD d) i.size z.cells.toList with
     | true => match zOk ty z with
      | true => some { ty := ty, agg := aggD d, size := i.size, bytes := i.bytes, zero := z.cells.toList, eq := eqFlag P t ty, key := keyFlag P t ty, sub := subD d }
      | false => none
     | false => none
    | false => none
   | false => none
  | none => none
 | _, _ => none
theorem beqB_eq {a b : Bool} (h : beqB a b = true) : a = b := by cases a <;> cases b <;> simp [beqB] at h ⊢
theorem mkTI_ok {P : Program} {t : Nat} {ty : Option Ty} {ti : TI} (h : mkTI P t ty = some ti) : TIok P t ti := by
 unfold mkTI at h
 split at h
 ·rename_i d i hd hi
  cases hz : i.zero with
  | none => rw [hz] at h; cases h
  | some z =>
  rw [hz] at h
  simp only at h
  cases h1 : tyD ty d with
  | false => rw [h1] at h; cases h
  | true =>
  rw [h1] at h
  simp only at h
  cases h2 : infosD P d with
  | false => rw [h2] at h; cases h
  | true =>
  rw [h2] at h
  simp only at h
  cases h3 : chkTy ty (aggD d) i.size z.cells.toList with
  | false => rw [h3] at h; cases h
  | true =>
  rw [h3] at h
  simp only at h
  cases h4 : zOk ty z with
  | false => rw [h4] at h; cases h
  | true =>
  rw [h4] at h
  simp only [Option.some.injEq] at h
  subst h
  have hty : ∀ ty', ty = some ty' → zeroRep ty' z.cells.toList = true ∧ aggD d = ty'.isAgg ∧ z.cells.toList.length = i.size := by
   rintro ty' rfl
   unfold chkTy at h3
   simp only at h3
   cases g1 : zeroRep ty' z.cells.toList with
   | false => rw [g1] at h3; cases h3
   | true =>
    rw [g1] at h3
    simp only at h3
    cases g2 : beqB (aggD d) ty'.isAgg with
    | false => rw [g2] at h3; cases h3
    | true =>
     rw [g2] at h3
     rw [clen_eq] at h3
     exact ⟨rfl, beqB_eq g2, Nat.eq_of_beq_eq_true h3⟩
  refine ⟨⟨i, z, hi, rfl, rfl, hz, rfl⟩, ⟨d, hd, ?_⟩, ?_, ?_, ?_, ?_, ?_, ?_, ?_, ?_, ?_, ?_, ?_, ?_, ?_, ?_, ?_⟩
  ·cases d <;> rfl
  ·intro e he
   have he' : subD d = .slice e := he
   cases d <;> simp [subD] at he'
   subst he'
   exact hd
  ·intro k e he
   have he' : subD d = .map k e := he
   cases d <;> simp [subD] at he'
   obtain ⟨rfl, rfl⟩ := he'
   exact hd
  ·intro n e he
   have he' : subD d = .arr n e := he
   cases d <;> simp [subD] at he'
   obtain ⟨rfl, rfl⟩ := he'
   exact hd
  ·intro he ty' hty'
   have hty'' : ty = some ty' := hty'
   subst hty''
   have he' : keyFlag P t (some ty') = true := he
   unfold keyFlag at he'
   simp only at he'
   split at he'
   ·rename_i ha
    exact eqOK_key ha he'
   ·cases he'
  ·intro e he
   have he' : subD d = .ptr e := he
   cases d <;> simp [subD] at he'
   subst he'
   exact hd
  ·intro u hty' w
   have hty'' : ty = some (.slice u) := hty'
   subst hty''
   have hr := (hty _ rfl).1
   unfold zOk at h4
   simp only [Ty.isAgg] at h4
   have hzv : z = .slice none 0 0 := by
    have hc : z.cells.toList = [z] := by cases z <;> first | rfl | simp at h4
    rw [hc] at hr
    unfold zeroRep at hr
    split at hr
    ·rename_i e
     simpa using e
    ·cases hr
   simp [zeroValue, typeInfo, hi, hz, hzv]
  ·intro ty' hty'
   have hty'' : ty = some ty' := hty'
   subst hty''
   refine ⟨z, fun w => by simp [zeroValue, typeInfo, hi, hz], fun w R => ?_⟩
   have hr := zeroRep_spec w R _ _ (hty ty' rfl).1
   unfold TRep
   unfold zOk at h4
   simp only at h4
   cases hag : ty'.isAgg with
   | true =>
    rw [hag] at h4
    cases z <;> simp at h4
    exact ⟨_, rfl, hr⟩
   | false =>
    rw [hag] at h4
    cases z <;> simp at h4 <;> exact hr
  ·intro fs he
   have he' : subD d = .struct fs := he
   cases d <;> simp [subD] at he'
   rename_i fields
   subst he'
   refine ⟨fields, hd, rfl, fun f hf => ?_⟩
   have h2' : (fields.toList.all fun f => (P.info? f.type).isSome) = true := h2
   have := List.all_eq_true.1 h2' f hf
   exact Option.isSome_iff_exists.1 this
  ·intro he
   have he' : ty = some .bool := he
   subst he'
   cases d <;> simp [tyD] at h1
   exact hd
  ·intro k he
   have he' : ty = some (.int k) := he
   subst he'
   cases d <;> simp [tyD] at h1
   rename_i k'
   split at h1
   ·rename_i e _
    subst e
    exact hd
   ·cases h1
  ·intro he
   have he' : ty = some .str := he
   subst he'
   cases d <;> simp [tyD] at h1
   exact hd
  ·intro ty' he
   obtain ⟨g1, g2, g3⟩ := hty ty' he
   have := Rep_len _ _ _ (zeroRep_spec default (fun _ => True) _ _ g1)
   rw [← this]; exact g3
  ·intro ty' he w R
   exact zeroRep_spec w R _ _ (hty ty' he).1
  ·intro ty' he
   have := (hty ty' he).2.1
   show aggD d = _
   rw [this]
   cases ty' <;> rfl
  ·intro he ty' hty'
   have hty'' : ty = some ty' := hty'
   subst hty''
   have he' : eqFlag P t (some ty') = true := he
   unfold eqFlag at he'
   simp only at he'
   split at he'
   ·rename_i ha
    split at he'
    ·rename_i hk
     exact ⟨eqOK_EqOk ha hk, by simpa using he'⟩
    ·split at he'
     ·rename_i hk
      exact ⟨eqArr_EqOk hk, by simpa using he'⟩
     ·cases he'
   ·cases he'
 ·cases h
def mkTT (P : Program) : List (Nat × Option Ty) → Option (List (Nat × TI))
 | [] => some []
 | (t, ty) :: ts => match mkTI P t ty with
  | some ti => match mkTT P ts with | some r => some ((t, ti) :: r) | none => none
  | none => none
theorem mkTT_ok {P : Program} : ∀ {ts : List (Nat × Option Ty)} {tt : List (Nat × TI)}, mkTT P ts = some tt → TTok P tt
 | [], tt, h, t, ti, hl => by cases h; cases hl
 | (t', ty) :: ts, tt, h, t, ti, hl => by
  unfold mkTT at h
  split at h
  ·rename_i ti' h1
   split at h
   ·rename_i r h2
    cases h
    rw [look_cons] at hl
    split at hl
    ·rename_i e
     simp only at e
     subst e
     cases hl
     exact mkTI_ok h1
    ·exact mkTT_ok h2 t ti hl
   ·cases h
  ·cases h
end Go.BB
set_option linter.unusedSimpArgs false
set_option linter.unusedVariables false
namespace Go.BB
open Go Go.ChangeShapes Go.WideShapes Go.RowKit Go.Deep
section
variable {O : ObjK} {P : Program} {H : Type} {enc : TypeId × Value → H} {W : World}

theorem block_of_cell {a : Addr} {v : Value} (h : W.cell? a = some v) : a.block < W.heap.size := by
 unfold World.cell? at h
 rcases Nat.lt_or_ge a.block W.heap.size with h1 | h1
 ·exact h1
 ·rw [Array.getElem?_eq_none h1] at h
  simp at h
def valsOf : List Ty → List (PK O)
 | [] => []
 | t :: ts => .val t :: valsOf ts
theorem carry_all (hl : laidOutB P = true) {W' : World} (hb : Below W.heap.size W W') : ∀ (ts : List Nat) (vs : List Value) (ds : List (DataW H)) (ps : List MemPlace), (∀ t ∈ ts, P.readableRec t = true ∧ t < P.types.size) → (∀ x ∈ ps, x.block < W.heap.size) →
  DataW.TrodAll enc P W 0 (fun _ => true) true ts vs ds ps → DataW.TrodAll enc P W' 0 (fun b => decide (b < W.heap.size)) true ts vs ds ps
 | [], vs, ds, ps, _, _, h => by
  obtain ⟨rfl, rfl, rfl⟩ := trodAll_nil h
  exact trodAll_mk0
 | t :: ts, vs, ds, ps, hr, hlt, h => by
  obtain ⟨v, vs', d, ds', p, q, rfl, rfl, rfl, h1, h2⟩ := trodAll_cons h
  obtain ⟨r1, r2⟩ := hr t List.mem_cons_self
  exact trodAll_cons_mk (Below.trod hl r1 r2 h1 hb fun x hx => hlt x (List.mem_append_left _ hx)) (carry_all hl hb ts vs' ds' q (fun t ht => hr t (List.mem_cons_of_mem _ ht)) (fun x hx => hlt x (List.mem_append_right _ hx)) h2)
theorem trodAll_len {base : Nat} {sp : Nat → Bool} {hd : Bool} : ∀ (ts : List Nat) (vs : List Value) (ds : List (DataW H)) (ps : List MemPlace), DataW.TrodAll enc P W base sp hd ts vs ds ps → ds.length = ts.length
 | [], vs, ds, ps, h => by
  obtain ⟨rfl, rfl, rfl⟩ := trodAll_nil h
  rfl
 | t :: ts, vs, ds, ps, h => by
  obtain ⟨v, vs', d, ds', p, q, rfl, rfl, rfl, h1, h2⟩ := trodAll_cons h
  simp [trodAll_len ts vs' ds' q h2]
theorem law_calls {g : Nat} {tys : List Ty} {F : dens (O := O) (valsOf tys) → Option (rdens (O := O) [.val .bool] × upds (valsOf tys))} (hV : Valid P g ⟨valsOf tys, [.val .bool], F⟩) {args : Array Value} {x : dens (O := O) (valsOf tys)} {u : upds (valsOf tys)}
  (hE : Entry W (fun b => b < W.heap.size) (valsOf tys) x args.toList []) (hF : F x = some ((true, ()), u)) : Calls P g args W fun e W' => e = .returned (.bool true) ∧ Below W.heap.size W W' := by
 refine Calls.mono (hV.calls W (fun b => b < W.heap.size) args [] x (true, ()) u hF ⟨hE, trivial, by simp, fun b h => h⟩) ?_
 rintro e W' ⟨vs, pls', rpl, rfl, hA⟩
 obtain ⟨v, vs', q, pls2, e1, e2, h1, h2⟩ := hA.res
 obtain ⟨e3, e4⟩ := h2
 subst e3
 subst e1
 have hv : [v] = [Value.bool true] := h1.1
 simp only [List.cons.injEq, and_true] at hv
 subst hv
 exact ⟨rfl, hA.ext.os, hA.ext.tape, hA.ext.output, hA.ext.size, fun k hk => hA.ext.keep k hk (by simp)⟩
end
end Go.BB
