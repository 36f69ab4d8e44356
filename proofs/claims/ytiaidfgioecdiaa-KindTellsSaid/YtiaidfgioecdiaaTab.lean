/- A symbolic machine for the model's code, and what it shows of this seat's functions. No conditions. -/
import Derived.Test.YtiaidfgioecdiaaMain
import Derived.Laws.Bits
set_option linter.unusedSimpArgs false
set_option linter.unusedVariables false
namespace Go.BB
open Go
/-- the cells of a type's zero -/
def zeroRep : Ty → List Value → Bool
  | .int k, vs => match vs with | [.int k' n] => (match decEq k k' with | .isTrue _ => (match n with | .ofNat 0 => true | _ => false) | .isFalse _ => false) | _ => false
  | .bool, vs => match vs with | [.bool b] => (match b with | true => false | false => true) | _ => false
  | .str, vs => match vs with | [.string s] => (match s with | ⟨⟨[]⟩⟩ => true | _ => false) | _ => false
  | .unit, vs => match vs with | [] => true | _ => false
  | .pair a b, vs => match zeroRep a (ctake a.sz vs) with | true => zeroRep b (cdrop a.sz vs) | false => false
  | .slice _, vs => match vs with | [.slice none 0 0] => true | _ => false
theorem zeroRep_spec (w : World) (R : Nat → Prop) : ∀ (t : Ty) (vs : List Value), zeroRep t vs = true → Rep w R t t.zero vs
  | .int k, vs, h => by
    unfold zeroRep at h
    split at h
    · split at h
      · rename_i e _
        subst e
        split at h
        · rfl
        · cases h
      · cases h
    · cases h
  | .bool, vs, h => by
    unfold zeroRep at h
    split at h
    · split at h
      · cases h
      · rfl
    · cases h
  | .str, vs, h => by
    unfold zeroRep at h
    split at h
    · split at h
      · rfl
      · cases h
    · cases h
  | .unit, vs, h => by
    unfold zeroRep at h
    split at h
    · rfl
    · cases h
  | .pair a b, vs, h => by
    unfold zeroRep at h
    cases ha : zeroRep a (ctake a.sz vs) with
    | false => rw [ha] at h; cases h
    | true =>
      rw [ha] at h
      rw [ctake_eq] at ha
      rw [cdrop_eq] at h
      exact ⟨vs.take a.sz, vs.drop a.sz, (List.take_append_drop _ _).symm, zeroRep_spec w R a _ ha, zeroRep_spec w R b _ h⟩
  | .slice t, vs, h => by
    unfold zeroRep at h
    split at h
    · exact ⟨none, 0, rfl, Nat.le_refl _, fun h => by cases h⟩
    · cases h
def aggD : TypeDesc → Bool
  | .struct _ => true
  | .array _ _ => true
  | _ => false
def subD : TypeDesc → Sub
  | .slice e => .slice e
  | .struct fs => .struct (fs.toList.map fun f => (f.type, f.offset))
  | .array n e => .arr n e
  | _ => .other
def tyD : Option Ty → TypeDesc → Bool
  | some (.int k), d => match d with | .int k' => (match decEq k k' with | .isTrue _ => true | .isFalse _ => false) | _ => false
  | some .bool, d => match d with | .bool => true | _ => false
  | some .str, d => match d with | .string => true | _ => false
  | _, _ => true
def infosD (P : Program) : TypeDesc → Bool
  | .struct fs => fs.toList.all fun f => (P.info? f.type).isSome
  | _ => true
def chkTy (ty : Option Ty) (agg : Bool) (size : Nat) (zero : List Value) : Bool :=
  match ty with
  | none => true
  | some ty => match zeroRep ty zero with
    | true => match beqB agg ty.isAgg with
      | true => Nat.beq (clen zero) size
      | false => false
    | false => false
/-- a type's row, as the program says -/
def mkTI (P : Program) (t : Nat) (ty : Option Ty) : Option TI :=
  match P.underlying t, P.info? t with
  | some d, some i => match i.zero with
    | some z => match tyD ty d with
      | true => match infosD P d with
        | true => match chkTy ty (aggD d) i.size z.cells.toList with
          | true => some { ty := ty, agg := aggD d, size := i.size, bytes := i.bytes, zero := z.cells.toList, eq := false, sub := subD d }
          | false => none
        | false => none
      | false => none
    | none => none
  | _, _ => none
theorem beqB_eq {a b : Bool} (h : beqB a b = true) : a = b := by cases a <;> cases b <;> simp [beqB] at h ⊢
theorem mkTI_ok {P : Program} {t : Nat} {ty : Option Ty} {ti : TI} (h : mkTI P t ty = some ti) : TIok P t ti := by
  unfold mkTI at h
  split at h
  · rename_i d i hd hi
    cases hz : i.zero with
    | none => rw [hz] at h; cases h
    | some z =>
    rw [hz] at h
    simp only at h
    cases h1 : tyD ty d with
    | false => rw [h1] at h; cases h
    | true =>
    rw [h1] at h
    simp only at h
    cases h2 : infosD P d with
    | false => rw [h2] at h; cases h
    | true =>
    rw [h2] at h
    simp only at h
    cases h3 : chkTy ty (aggD d) i.size z.cells.toList with
    | false => rw [h3] at h; cases h
    | true =>
    rw [h3] at h
    simp only [Option.some.injEq] at h
    subst h
    have hty : ∀ ty', ty = some ty' → zeroRep ty' z.cells.toList = true ∧ aggD d = ty'.isAgg ∧ z.cells.toList.length = i.size := by
      rintro ty' rfl
      unfold chkTy at h3
      simp only at h3
      cases g1 : zeroRep ty' z.cells.toList with
      | false => rw [g1] at h3; cases h3
      | true =>
        rw [g1] at h3
        simp only at h3
        cases g2 : beqB (aggD d) ty'.isAgg with
        | false => rw [g2] at h3; cases h3
        | true =>
          rw [g2] at h3
          rw [clen_eq] at h3
          exact ⟨rfl, beqB_eq g2, Nat.eq_of_beq_eq_true h3⟩
    refine ⟨⟨i, z, hi, rfl, rfl, hz, rfl⟩, ⟨d, hd, ?_⟩, ?_, ?_, ?_, ?_, ?_, ?_, ?_, ?_, ?_⟩
    · cases d <;> rfl
    · intro e he
      have he' : subD d = .slice e := he
      cases d <;> simp [subD] at he'
      subst he'
      exact hd
    · intro fs he
      have he' : subD d = .struct fs := he
      cases d <;> simp [subD] at he'
      rename_i fields
      subst he'
      refine ⟨fields, hd, rfl, fun f hf => ?_⟩
      have h2' : (fields.toList.all fun f => (P.info? f.type).isSome) = true := h2
      have := List.all_eq_true.1 h2' f hf
      exact Option.isSome_iff_exists.1 this
    · intro he
      have he' : ty = some .bool := he
      subst he'
      cases d <;> simp [tyD] at h1
      exact hd
    · intro k he
      have he' : ty = some (.int k) := he
      subst he'
      cases d <;> simp [tyD] at h1
      rename_i k'
      split at h1
      · rename_i e _
        subst e
        exact hd
      · cases h1
    · intro he
      have he' : ty = some .str := he
      subst he'
      cases d <;> simp [tyD] at h1
      exact hd
    · intro ty' he
      obtain ⟨g1, g2, g3⟩ := hty ty' he
      have := Rep_len _ _ _ (zeroRep_spec default (fun _ => True) _ _ g1)
      rw [← this]; exact g3
    · intro ty' he w R
      exact zeroRep_spec w R _ _ (hty ty' he).1
    · intro ty' he
      have := (hty ty' he).2.1
      show aggD d = _
      rw [this]
      cases ty' <;> rfl
    · intro he; cases he
  · cases h
/-- a table, as the program says -/
def mkTT (P : Program) : List (Nat × Option Ty) → Option (List (Nat × TI))
  | [] => some []
  | (t, ty) :: ts => match mkTI P t ty with
    | some ti => match mkTT P ts with | some r => some ((t, ti) :: r) | none => none
    | none => none
theorem mkTT_ok {P : Program} : ∀ {ts : List (Nat × Option Ty)} {tt : List (Nat × TI)}, mkTT P ts = some tt → TTok P tt
  | [], tt, h, t, ti, hl => by cases h; cases hl
  | (t', ty) :: ts, tt, h, t, ti, hl => by
    unfold mkTT at h
    split at h
    · rename_i ti' h1
      split at h
      · rename_i r h2
        cases h
        rw [look_cons] at hl
        split at hl
        · rename_i e
          simp only at e
          subst e
          cases hl
          exact mkTI_ok h1
        · exact mkTT_ok h2 t ti hl
      · cases h
    · cases h
end Go.BB
