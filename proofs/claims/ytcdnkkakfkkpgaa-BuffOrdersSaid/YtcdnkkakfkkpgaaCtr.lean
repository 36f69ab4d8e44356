/- A symbolic machine for the model's code, and what it shows of this seat's functions. No conditions. -/
import Derived.Test.YtcdnkkakfkkpgaaOps8
set_option linter.unusedSimpArgs false
set_option linter.unusedVariables false
namespace Go.BB
open Go
section
variable {O : ObjK}

/-! ### contracts -/
/-- a pure value, as a value -/
def TRep (w : World) (R : Nat → Prop) (t : Ty) (x : t.den) (v : Value) : Prop :=
  match t.isAgg with
  | true => ∃ arr, v = .agg arr ∧ Rep w R t x arr.toList
  | false => Rep w R t x [v]
/-- what is handed in; the places of the rows and objects among it -/
def Entry (w : World) (R : Nat → Prop) : (ps : List (PK O)) → dens ps → List Value → List Pl → Prop
  | [], _, [], [] => True
  | .val t :: ps, x, v :: vs, pls => TRep w R t x.1 v ∧ Entry w R ps x.2 vs pls
  | .fn g :: ps, x, v :: vs, pls => v = .func (.func g) #[] #[] ∧ Entry w R ps x.2 vs pls
  | .row t :: ps, x, v :: vs, p :: pls => (0 < t.sz ∧ RowAt w R p t x.1.1 ∧ subV p t.sz 0 x.1.2 v ∧ x.1.2 ≤ (x.1.1 : List t.den).length ∧ v.oneCell' = true) ∧ Entry w R ps x.2 vs pls
  | .obj k :: ps, x, v :: vs, p :: pls => ((∃ f, p = .obj v f ∧ O.rel k x.1 w v f) ∧ v.oneCell' = true) ∧ Entry w R ps x.2 vs pls
  | _, _, _, _ => False
/-- what became of the rows and objects -/
def Upd (w : World) (R : Nat → Prop) : (ps : List (PK O)) → upds ps → List Pl → Prop
  | [], _, [] => True
  | .val _ :: ps, u, pls => Upd w R ps u.2 pls
  | .fn _ :: ps, u, pls => Upd w R ps u.2 pls
  | .row t :: ps, u, p :: pls => RowAt w R p t u.1 ∧ Upd w R ps u.2 pls
  | .obj k :: ps, u, p :: pls => (∃ v f, p = .obj v f ∧ O.rel k u.1 w v f) ∧ Upd w R ps u.2 pls
  | _, _, _ => False
/-- as many elements as before -/
def Kept : (ps : List (PK O)) → dens ps → upds ps → Prop
  | [], _, _ => True
  | .val _ :: ps, x, u => Kept ps x.2 u.2
  | .fn _ :: ps, x, u => Kept ps x.2 u.2
  | .row t :: ps, x, u => (u.1 : List t.den).length = (x.1.1 : List t.den).length ∧ Kept ps x.2 u.2
  | .obj k :: ps, x, u => Kept ps x.2 u.2
/-- the results; the places of the rows and objects among them -/
def Res (w : World) (R : Nat → Prop) : (rs : List (RK O)) → rdens rs → List Value → List Pl → Prop
  | [], _, [], [] => True
  | .val t :: rs, x, v :: vs, pls => TRep w R t x.1 v ∧ Res w R rs x.2 vs pls
  | .own t :: rs, x, v :: vs, p :: pls => (0 < t.sz ∧ RowAt w R p t x.1 ∧ ownV p (x.1 : List t.den).length v ∧ v.oneCell' = true) ∧ Res w R rs x.2 vs pls
  | .sub t :: rs, x, v :: vs, p :: pls => (0 < t.sz ∧ RowAt w R p t x.1.1 ∧ subV p t.sz 0 x.1.2 v ∧ x.1.2 ≤ (x.1.1 : List t.den).length ∧ v.oneCell' = true) ∧ Res w R rs x.2 vs pls
  | .obj k :: rs, x, v :: vs, p :: pls => ((∃ f, p = .obj v f ∧ O.rel k x.1 w v f) ∧ v.oneCell' = true) ∧ Res w R rs x.2 vs pls
  | _, _, _, _ => False
/-- no two have a block in common -/
def Disj : List Pl → Prop
  | [] => True
  | p :: ps => (∀ q ∈ ps, ∀ b, p.fp b → ¬ q.fp b) ∧ Disj ps
/-- the same places, but for what was made since block n -/
def Grown (n : Nat) : List Pl → List Pl → Prop := All2 fun p q => p.same q ∧ ∀ b, q.fp b → p.fp b ∨ n ≤ b
structure Before (w : World) (R : Nat → Prop) (ps : List (PK O)) (x : dens ps) (vs : List Value) (pls : List Pl) : Prop where
  entry : Entry w R ps x vs pls
  disj : Disj pls
  bound : ∀ p ∈ pls, ∀ b, p.fp b → b < w.heap.size ∧ ¬ R b
  read : ∀ b, R b → b < w.heap.size
def R' (w w' : World) (R : Nat → Prop) (pls : List Pl) (b : Nat) : Prop := (R b ∨ w.heap.size ≤ b) ∧ b < w'.heap.size ∧ ∀ p ∈ pls, ¬ p.fp b
structure After (w w' : World) (R : Nat → Prop) (ps : List (PK O)) (rs : List (RK O)) (x : dens ps) (r : rdens rs) (u : upds ps) (vs : List Value) (pls pls' rpl : List Pl) : Prop where
  grown : Grown w.heap.size pls pls'
  ext : Ext (fun b => ∀ p ∈ pls, ¬ p.fp b) w w'
  disj : Disj (pls' ++ rpl)
  bound : ∀ p ∈ pls' ++ rpl, ∀ b, p.fp b → b < w'.heap.size
  new : ∀ p ∈ rpl, ∀ b, p.fp b → w.heap.size ≤ b
  upd : Upd w' (R' w w' R (pls' ++ rpl)) ps u pls'
  kept : Kept ps x u
  res : Res w' (R' w w' R (pls' ++ rpl)) rs r vs rpl
/-- several results are one value -/
def resV : List Value → Value
  | [v] => v
  | vs => .tuple vs.toArray
/-- The function does what the contract says. -/
structure Valid (P : Program) (g : Nat) (c : Ctr O) : Prop where
  fn : ∃ f, P.funcs[g]? = some f ∧ (f.name == "runtime.NumGoroutine") = false ∧ f.body.isNone = false
  calls : ∀ (w : World) (R : Nat → Prop) (args : Array Value) (pls : List Pl) (x : dens c.ins) (r : rdens c.outs) (u : upds c.ins), c.F x = some (r, u) → Before w R c.ins x args.toList pls →
    Calls P g args w fun e w' => ∃ vs pls' rpl, e = .returned (resV vs) ∧ After w w' R c.ins c.outs x r u vs pls pls' rpl
def Γok (P : Program) (Γ : List (Nat × Ctr O)) : Prop := ∀ g c, look Γ g = some c → Valid P g c

/-! what needs no memory -/
theorem Rep_flat {w w' : World} {R R' : Nat → Prop} : ∀ (t : Ty) (x : t.den) (vs : List Value), t.flat = true → Rep w R t x vs → Rep w' R' t x vs
  | .int _, _, _, _, h => h
  | .bool, _, _, _, h => h
  | .str, _, _, _, h => h
  | .unit, _, _, _, h => h
  | .pair a b, x, vs, hf, ⟨v1, v2, e, h1, h2⟩ => by
    unfold Ty.flat at hf
    cases ha : a.flat with
    | false => rw [ha] at hf; cases hf
    | true =>
      rw [ha] at hf
      exact ⟨v1, v2, e, Rep_flat a x.1 v1 ha h1, Rep_flat b x.2 v2 hf h2⟩
  | .slice t, _, _, hf, _ => by simp [Ty.flat] at hf
theorem TRep_mono {w w' : World} {R R' : Nat → Prop} (hR : ∀ b, R b → R' b) (hw : ∀ b, R b → w'.heap[b]? = w.heap[b]?) {t : Ty} {x : t.den} {v : Value} (h : TRep w R t x v) : TRep w' R' t x v := by
  unfold TRep at h ⊢
  cases ht : t.isAgg with
  | true =>
    rw [ht] at h
    obtain ⟨arr, e, h⟩ := h
    exact ⟨arr, e, Rep_mono hR hw _ _ _ h⟩
  | false => rw [ht] at h; exact Rep_mono hR hw _ _ _ h
theorem TRep_flat {w w' : World} {R R' : Nat → Prop} {t : Ty} (hf : t.flat = true) {x : t.den} {v : Value} (h : TRep w R t x v) : TRep w' R' t x v := by
  unfold TRep at h ⊢
  cases ht : t.isAgg with
  | true =>
    rw [ht] at h
    obtain ⟨arr, e, h⟩ := h
    exact ⟨arr, e, Rep_flat _ _ _ hf h⟩
  | false => rw [ht] at h; exact Rep_flat _ _ _ hf h
theorem RowAt_flat {w : World} {R R' : Nat → Prop} {p : Pl} {t : Ty} (hf : t.flat = true) {xs : List t.den} (h : RowAt w R p t xs) : RowAt w R' p t xs := by
  cases p with
  | nil => exact h
  | obj v f => exact h.elim
  | «at» b c =>
    obtain ⟨arr, e, h1, h2, h3, h4, h5⟩ := h
    refine ⟨arr, e, h1, h2, h3, h4, fun j x hj => ?_⟩
    obtain ⟨cs, h6, h7⟩ := h5 j x hj
    exact ⟨cs, Rep_flat _ _ _ hf h6, h7⟩
theorem RowAt_R {w : World} {R R' : Nat → Prop} {p : Pl} {t : Ty} {xs : List t.den} (hR : ∀ b, R b → R' b) (h : RowAt w R p t xs) : RowAt w R' p t xs :=
  RowAt_mono hR (fun _ _ => rfl) (Pl.same_refl _) (fun _ _ => rfl) h
/-- the reading sets may be exchanged where nothing is read by them, or the one lies in the other -/
theorem Res_R {w : World} {R R2 : Nat → Prop} : ∀ (rs : List (RK O)) (r : rdens rs) (vs : List Value) (pls : List Pl), (flats rs = true ∨ ∀ b, R b → R2 b) → Res w R rs r vs pls → Res w R2 rs r vs pls
  | [], _, [], [], _, _ => trivial
  | [], _, _ :: _, _, _, h => by cases h
  | [], _, [], _ :: _, _, h => by cases h
  | .val t :: rs, x, [], _, _, h => by cases h
  | .own t :: rs, x, [], _, _, h => by cases h
  | .sub t :: rs, x, [], _, _, h => by cases h
  | .obj k :: rs, x, [], _, _, h => by cases h
  | .own t :: rs, x, _ :: _, [], _, h => by cases h
  | .sub t :: rs, x, _ :: _, [], _, h => by cases h
  | .obj k :: rs, x, _ :: _, [], _, h => by cases h
  | .val t :: rs, x, v :: vs, pls, hf, h => by
    have hf' : (t.flat = true ∧ flats rs = true) ∨ ∀ b, R b → R2 b := by
      rcases hf with hf | hf
      · left
        unfold flats at hf
        cases ht : (RK.val t : RK O).flat with
        | false => rw [ht] at hf; cases hf
        | true => rw [ht] at hf; exact ⟨ht, hf⟩
      · exact .inr hf
    refine ⟨?_, Res_R rs _ _ _ (hf'.imp (·.2) id) h.2⟩
    rcases hf' with hf' | hf'
    · exact TRep_flat hf'.1 h.1
    · exact TRep_mono hf' (fun _ _ => rfl) h.1
  | .own t :: rs, x, v :: vs, p :: pls, hf, h => by
    have hf' : (t.flat = true ∧ flats rs = true) ∨ ∀ b, R b → R2 b := by
      rcases hf with hf | hf
      · left
        unfold flats at hf
        cases ht : (RK.own t : RK O).flat with
        | false => rw [ht] at hf; cases hf
        | true => rw [ht] at hf; exact ⟨ht, hf⟩
      · exact .inr hf
    refine ⟨⟨h.1.1, ?_, h.1.2.2⟩, Res_R rs _ _ _ (hf'.imp (·.2) id) h.2⟩
    rcases hf' with hf' | hf'
    · exact RowAt_flat hf'.1 h.1.2.1
    · exact RowAt_R hf' h.1.2.1
  | .sub t :: rs, x, v :: vs, p :: pls, hf, h => by
    have hf' : (t.flat = true ∧ flats rs = true) ∨ ∀ b, R b → R2 b := by
      rcases hf with hf | hf
      · left
        unfold flats at hf
        cases ht : (RK.sub t : RK O).flat with
        | false => rw [ht] at hf; cases hf
        | true => rw [ht] at hf; exact ⟨ht, hf⟩
      · exact .inr hf
    refine ⟨⟨h.1.1, ?_, h.1.2.2⟩, Res_R rs _ _ _ (hf'.imp (·.2) id) h.2⟩
    rcases hf' with hf' | hf'
    · exact RowAt_flat hf'.1 h.1.2.1
    · exact RowAt_R hf' h.1.2.1
  | .obj k :: rs, x, v :: vs, p :: pls, hf, h => by
    have hf' : flats rs = true ∨ ∀ b, R b → R2 b := by
      rcases hf with hf | hf
      · left; exact hf
      · exact .inr hf
    exact ⟨h.1, Res_R rs _ _ _ hf' h.2⟩
theorem Upd_R {w : World} {R R2 : Nat → Prop} : ∀ (ps : List (PK O)) (u : upds ps) (pls : List Pl), (flatR ps = true ∨ ∀ b, R b → R2 b) → Upd w R ps u pls → Upd w R2 ps u pls
  | [], _, [], _, _ => trivial
  | [], _, _ :: _, _, h => by cases h
  | .val t :: ps, u, pls, hf, h => Upd_R ps u.2 pls hf h
  | .fn g :: ps, u, pls, hf, h => Upd_R ps u.2 pls hf h
  | .row t :: ps, u, [], _, h => by cases h
  | .obj k :: ps, u, [], _, h => by cases h
  | .row t :: ps, u, p :: pls, hf, h => by
    have hf' : (t.flat = true ∧ flatR ps = true) ∨ ∀ b, R b → R2 b := by
      rcases hf with hf | hf
      · left
        unfold flatR at hf
        cases ht : t.flat with
        | false => rw [ht] at hf; cases hf
        | true => rw [ht] at hf; exact ⟨rfl, hf⟩
      · exact .inr hf
    refine ⟨?_, Upd_R ps u.2 pls (hf'.imp (·.2) id) h.2⟩
    rcases hf' with hf' | hf'
    · exact RowAt_flat hf'.1 h.1
    · exact RowAt_R hf' h.1
  | .obj k :: ps, u, p :: pls, hf, h => ⟨h.1, Upd_R ps u.2 pls hf h.2⟩
end
end Go.BB
