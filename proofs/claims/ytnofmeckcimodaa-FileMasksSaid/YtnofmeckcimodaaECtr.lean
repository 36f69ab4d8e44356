/- A symbolic machine for the model's code, and what it shows of this seat's functions. No conditions. -/
import Derived.Test.YtnofmeckcimodaaEOps8
set_option linter.unusedSimpArgs false
set_option linter.unusedVariables false
namespace Go.BB
open Go
section
variable {O : ObjK} {σ : St O} {pl : Nat → Pl}

/-! ### labels and places -/
/-! what goes out -/
abbrev REnt := Pl × Option Nat
def rids (E : List REnt) : List Nat := E.filterMap (·.2)
def ROk (σ : St O) (pl : Nat → Pl) (E : List REnt) : Prop := ∀ e ∈ E, match e.2 with | some i => e.1 = pl i ∧ liveAt σ.bk i | none => e.1 = .nil
def Rds (σ : St O) (rd : List Nat) : Prop := ∀ i ∈ rd, ∃ (t : Ty) (xs : List t.den), look σ.bk i = some (.row t xs) ∨ look σ.bk i = some (.fro t xs)
theorem Rds.append {x y : List Nat} (h : Rds σ x) (h' : Rds σ y) : Rds σ (capp x y) := by
  rw [capp_eq]
  intro i hi
  rcases List.mem_append.1 hi with hi | hi
  · exact h i hi
  · exact h' i hi
theorem rids_append (E F : List REnt) : rids (E ++ F) = rids E ++ rids F := by simp [rids]
/-- a shape whose label may be given -/
def Sh.pinned : Sh → Bool
  | .sub _ => true | .map _ => true | .ptr _ => true | _ => false
theorem labs_append (nb m n : Nat) : labs nb (m + n) = labs nb m ++ labs (nb + m) n := by
  induction m generalizing nb with
  | zero => simp [labs]
  | succ m ih =>
    rw [show m + 1 + n = (m + n) + 1 by omega]
    simp only [labs, List.cons_append, Nat.add_eq]
    rw [ih (nb + 1), show nb + 1 + m = nb + (m + 1) by omega]
theorem labs_length (nb n : Nat) : (labs nb n).length = n := by
  induction n generalizing nb with
  | zero => rfl
  | succ n ih => simp [labs, ih]
theorem labs_mem {nb n i : Nat} : i ∈ labs nb n ↔ nb ≤ i ∧ i < nb + n := by
  induction n generalizing nb with
  | zero => simp [labs]
  | succ n ih =>
    simp only [labs, List.mem_cons, ih, Nat.add_eq]
    omega
theorem labs_nodup (nb n : Nat) : (labs nb n).Nodup := by
  induction n generalizing nb with
  | zero => exact List.nodup_nil
  | succ n ih => exact List.nodup_cons.2 ⟨fun h => by have := labs_mem.1 h; simp only [Nat.add_eq] at this; omega, ih _⟩
theorem mem_zip_left {α β : Type} {a a' : List α} {b b' : List β} (h : a.length = b.length) {x : α × β} : x ∈ a.zip b → x ∈ (a ++ a').zip (b ++ b') := fun hx => by
  rw [List.zip_append h]; exact List.mem_append_left _ hx
theorem mem_zip_right {α β : Type} {a a' : List α} {b b' : List β} (h : a.length = b.length) {x : α × β} : x ∈ a'.zip b' → x ∈ (a ++ a').zip (b ++ b') := fun hx => by
  rw [List.zip_append h]; exact List.mem_append_right _ hx
theorem zip_right_map {α β γ : Type} {f : β → γ} : ∀ {a : List α} {b : List β} {x : α} {y : β}, (x, y) ∈ a.zip b → (x, f y) ∈ a.zip (b.map f)
  | _ :: _, _ :: _, x, y, h => by
    rcases List.mem_cons.1 h with h | h
    · cases h; exact List.mem_cons_self
    · exact List.mem_cons_of_mem _ (zip_right_map h)
theorem rids_mem {E : List REnt} {i : Nat} : i ∈ rids E ↔ ∃ p, (p, some i) ∈ E := by
  unfold rids
  rw [List.mem_filterMap]
  constructor
  · rintro ⟨⟨p, o⟩, h1, h2⟩
    simp only at h2
    subst h2
    exact ⟨p, h1⟩
  · rintro ⟨p, h⟩; exact ⟨_, h, rfl⟩
theorem zip_mem_right {α β : Type} : ∀ {a : List α} {b : List β} {x : α}, a.length = b.length → x ∈ a → ∃ y, (x, y) ∈ a.zip b
  | [], _, _, _, h => by cases h
  | _ :: _, [], _, h, _ => by simp at h
  | y :: a, z :: b, x, h, hx => by
    rcases List.mem_cons.1 hx with rfl | hx
    · exact ⟨z, List.mem_cons_self⟩
    · obtain ⟨q, hq⟩ := zip_mem_right (b := b) (by simpa using h) hx
      exact ⟨q, List.mem_cons_of_mem _ hq⟩
theorem zip_keys_eq {α β : Type} : ∀ {a : List α} {b : List β}, a.length = b.length → (a.zip b).map (·.1) = a
  | [], _, _ => by simp
  | _ :: _, [], h => by simp at h
  | x :: a, y :: b, h => by simp [zip_keys_eq (a := a) (b := b) (by simpa using h)]
theorem rids_pair : ∀ {ls : List Nat} {E : List REnt}, (rids E).Nodup → ls.length = E.length → ∀ l e m f i, (l, e) ∈ ls.zip E → (m, f) ∈ ls.zip E → e.2 = some i → f.2 = some i → l ≠ m → False
  | [], E, _, _, l, e, m, f, i, h, _, _, _, _ => by simp at h
  | _ :: _, [], _, h, _, _, _, _, _, _, _, _, _, _ => by simp at h
  | y :: ls, g :: E, hn, hlen, l, e, m, f, i, h1, h2, he, hf, hlm => by
    have hn' : (rids E).Nodup := by
      unfold rids at hn ⊢
      rw [List.filterMap_cons] at hn
      split at hn
      · exact hn
      · exact (List.nodup_cons.1 hn).2
    have hg : g.2 = some i → ∀ q f, (q, f) ∈ ls.zip E → f.2 = some i → False := by
      intro hgi q f hq hfi
      unfold rids at hn
      rw [List.filterMap_cons, hgi] at hn
      exact (List.nodup_cons.1 hn).1 (List.mem_filterMap.2 ⟨f, (List.of_mem_zip hq).2, hfi⟩)
    rcases List.mem_cons.1 h1 with h1 | h1
    · cases h1
      rcases List.mem_cons.1 h2 with h2 | h2
      · cases h2; exact hlm rfl
      · exact hg he m f h2 hf
    · rcases List.mem_cons.1 h2 with h2 | h2
      · cases h2; exact hg hf l e h1 he
      · exact rids_pair hn' (by simpa using hlen) l e m f i h1 h2 he hf hlm
/-! ### contracts -/
def PK.asSh : (p : PK O) → p.den → p.sh.den
  | .val _, x => x | .fn _, x => x | .row _, x => x | .obj _, x => x | .box _, x => x | .rop _, x => x
def RK.asSh : (r : RK O) → r.den → r.sh.den
  | .val _, x => x | .own _, x => x | .sub _, x => x | .obj _, x => x | .box _, x => x
/-- what is handed in; the places of what is its own -/
def Entry (w : World) (R : Nat → Prop) : (ps : List (PK O)) → dens ps → List Value → List Pl → Prop
  | [], _, vs, pls => vs = [] ∧ pls = []
  | p :: ps, x, vs, pls => ∃ v vs' q pls', vs = v :: vs' ∧ pls = q ++ pls' ∧ VRel w R p.sh (p.asSh x.1) v q ∧ Entry w R ps x.2 vs' pls'
/-- what became of one thing that was handed in: where it lay, where it lies -/
def UpdR (w : World) (R : Nat → Prop) : (p : PK O) → p.upd → List Pl → List Pl → Prop
  | .val _, _, o, n => o = [] ∧ n = []
  | .fn _, _, o, n => o = [] ∧ n = []
  | .rop _, _, o, n => o = [] ∧ n = []
  | .row t, u, o, n => ∃ p q, o = [p] ∧ n = [q] ∧ p.same q ∧ RowAt w R q t u
  | .obj k, u, o, n => ∃ p v f, o = [p] ∧ n = [.obj v f] ∧ p.same (.obj v f) ∧ MapRel w R k u v f
  | .box b, u, o, n => ∃ bb c so sn arr e, o = .at bb c :: so ∧ so.length = b.wid ∧ n = .at bb c :: sn ∧ w.heap[bb]? = some (.cells arr e (0, 0)) ∧ ShRel w R b u arr.toList sn
def Upd (w : World) (R : Nat → Prop) : (ps : List (PK O)) → upds ps → List Pl → List Pl → Prop
  | [], _, o, n => o = [] ∧ n = []
  | p :: ps, u, o, n => ∃ qo o' qn n', o = qo ++ o' ∧ n = qn ++ n' ∧ UpdR w R p u.1 qo qn ∧ Upd w R ps u.2 o' n'
/-- as many elements as before -/
def Kept : (ps : List (PK O)) → dens ps → upds ps → Prop
  | [], _, _ => True
  | .val _ :: ps, x, u => Kept ps x.2 u.2
  | .fn _ :: ps, x, u => Kept ps x.2 u.2
  | .rop _ :: ps, x, u => Kept ps x.2 u.2
  | .row t :: ps, x, u => (u.1 : List t.den).length = (x.1.1 : List t.den).length ∧ Kept ps x.2 u.2
  | .obj k :: ps, x, u => Kept ps x.2 u.2
  | .box b :: ps, x, u => Kept ps x.2 u.2
/-- the results; the places of what is their own -/
def Res (w : World) (R : Nat → Prop) : (rs : List (RK O)) → rdens rs → List Value → List Pl → Prop
  | [], _, vs, pls => vs = [] ∧ pls = []
  | r :: rs, x, vs, pls => ∃ v vs' q pls', vs = v :: vs' ∧ pls = q ++ pls' ∧ VRel w R r.sh (r.asSh x.1) v q ∧ Res w R rs x.2 vs' pls'
structure Before (w : World) (R : Nat → Prop) (ps : List (PK O)) (x : dens ps) (vs : List Value) (pls : List Pl) : Prop where
  entry : Entry w R ps x vs pls
  disj : Disj pls
  bound : ∀ p ∈ pls, ∀ b, p.fp b → b < w.heap.size ∧ ¬ R b
  read : ∀ b, R b → b < w.heap.size
/-- what may be read behind a call: what might be ahead of it, what was handed in, what was made, but for the blocks of places -/
def R' (w w' : World) (R : Nat → Prop) (old pls : List Pl) (b : Nat) : Prop := (R b ∨ (∃ p ∈ old, p.fp b) ∨ w.heap.size ≤ b) ∧ b < w'.heap.size ∧ ∀ p ∈ pls, ¬ p.fp b
structure After (w w' : World) (R : Nat → Prop) (ps : List (PK O)) (rs : List (RK O)) (x : dens ps) (r : rdens rs) (u : upds ps) (vs : List Value) (pls pls' rpl : List Pl) : Prop where
  ext : Ext (fun b => ∀ p ∈ pls, ¬ p.fp b) w w'
  disj : Disj (pls' ++ rpl)
  bound : ∀ p ∈ pls' ++ rpl, ∀ b, p.fp b → b < w'.heap.size
  new : ∀ p ∈ pls' ++ rpl, ∀ b, p.fp b → (∃ q ∈ pls, q.fp b) ∨ w.heap.size ≤ b
  upd : Upd w' (R' w w' R pls (pls' ++ rpl)) ps u pls pls'
  kept : Kept ps x u
  res : Res w' (R' w w' R pls (pls' ++ rpl)) rs r vs rpl
/-- several results are one value -/
def resV : List Value → Value
  | [v] => v
  | vs => .tuple vs.toArray
/-- The function does what the contract says. -/
structure Valid (P : Program) (g : Nat) (c : Ctr O) : Prop where
  fn : ∃ f, P.funcs[g]? = some f ∧ (f.name == "runtime.NumGoroutine") = false ∧ f.body.isNone = false
  calls : ∀ (w : World) (R : Nat → Prop) (args : Array Value) (pls : List Pl) (x : dens c.ins) (r : rdens c.outs) (u : upds c.ins), c.F x = some (r, u) → Before w R c.ins x args.toList pls →
    Calls P g args w fun e w' => ∃ vs pls' rpl, e = .returned (resV vs) ∧ After w w' R c.ins c.outs x r u vs pls pls' rpl
def Γok (P : Program) (Γ : List (Nat × Ctr O)) : Prop := ∀ g c, look Γ g = some c → Valid P g c

/-! what needs no memory -/
theorem RowAt_R {w : World} {R R' : Nat → Prop} {p : Pl} {t : Ty} {xs : List t.den} (hR : ∀ b, R b → R' b) (h : RowAt w R p t xs) : RowAt w R' p t xs :=
  RowAt_mono hR (fun _ _ => rfl) (Pl.same_refl _) (fun _ _ => rfl) h
theorem flat_sh {r : RK O} (h : r.flat = true) : r.sh.flat = true := by cases r <;> exact h
/-- the reading sets may be exchanged where nothing is read by them, or the one lies in the other -/
theorem Res_R {w : World} {R R2 : Nat → Prop} : ∀ (rs : List (RK O)) (r : rdens rs) (vs : List Value) (pls : List Pl), (flats rs = true ∨ ∀ b, R b → R2 b) → Res w R rs r vs pls → Res w R2 rs r vs pls
  | [], _, _, _, _, h => h
  | r :: rs, x, vs, pls, hf, ⟨v, vs', q, pls', e1, e2, h1, h2⟩ => by
    have hf' : (r.flat = true ∧ flats rs = true) ∨ ∀ b, R b → R2 b := by
      rcases hf with hf | hf
      · left
        unfold flats at hf
        cases ht : r.flat with
        | false => rw [ht] at hf; cases hf
        | true => rw [ht] at hf; exact ⟨rfl, hf⟩
      · exact .inr hf
    refine ⟨v, vs', q, pls', e1, e2, ?_, Res_R rs _ _ _ (hf'.imp (·.2) id) h2⟩
    rcases hf' with hf' | hf'
    · exact VRel_flat (flat_sh hf'.1) h1
    · exact VRel_R hf' h1
theorem Entry_R {w : World} {R R2 : Nat → Prop} (hR : ∀ b, R b → R2 b) : ∀ (ps : List (PK O)) (x : dens ps) (vs : List Value) (pls : List Pl), Entry w R ps x vs pls → Entry w R2 ps x vs pls
  | [], _, _, _, h => h
  | p :: ps, x, vs, pls, ⟨v, vs', q, pls', e1, e2, h1, h2⟩ => ⟨v, vs', q, pls', e1, e2, VRel_R hR h1, Entry_R hR ps _ _ _ h2⟩
theorem flatR_cons {p : PK O} {ps : List (PK O)} (h : flatR (p :: ps) = true) : (∀ {w : World} {R R2 : Nat → Prop} {u : p.upd} {o n : List Pl}, UpdR w R p u o n → UpdR w R2 p u o n) ∧ flatR ps = true := by
  cases p with
  | val t => exact ⟨fun h => h, h⟩
  | fn g => exact ⟨fun h => h, h⟩
  | rop t => exact ⟨fun h => h, h⟩
  | row t =>
    unfold flatR at h
    cases ht : t.flat with
    | false => rw [ht] at h; cases h
    | true => rw [ht] at h; exact ⟨fun ⟨p, q, e1, e2, h1, h2⟩ => ⟨p, q, e1, e2, h1, RowAt_flat ht h2⟩, h⟩
  | obj k =>
    unfold flatR at h
    cases ht : MapK.flat k with
    | false => rw [ht] at h; cases h
    | true => rw [ht] at h; exact ⟨fun ⟨p, v, f, e1, e2, h1, h2⟩ => ⟨p, v, f, e1, e2, h1, MapRel_flat ht h2⟩, h⟩
  | box b =>
    unfold flatR at h
    cases ht : b.flat with
    | false => rw [ht] at h; cases h
    | true => rw [ht] at h; exact ⟨fun ⟨bb, c, so, sn, arr, e, e1, e2, e3, h1, h2⟩ => ⟨bb, c, so, sn, arr, e, e1, e2, e3, h1, ShRel_flat ht h2⟩, h⟩
theorem UpdR_R {w : World} {R R2 : Nat → Prop} (hR : ∀ b, R b → R2 b) : ∀ {p : PK O} {u : p.upd} {o n : List Pl}, UpdR w R p u o n → UpdR w R2 p u o n
  | .val _, _, _, _, h => h
  | .fn _, _, _, _, h => h
  | .rop _, _, _, _, h => h
  | .row t, _, _, _, ⟨p, q, e1, e2, h1, h2⟩ => ⟨p, q, e1, e2, h1, RowAt_R hR h2⟩
  | .obj k, _, _, _, ⟨p, v, f, e1, e2, h1, h2⟩ => ⟨p, v, f, e1, e2, h1, MapRel_R hR h2⟩
  | .box b, _, _, _, ⟨bb, c, so, sn, arr, e, e1, e2, e3, h1, h2⟩ => ⟨bb, c, so, sn, arr, e, e1, e2, e3, h1, ShRel_R hR h2⟩
theorem Upd_R {w : World} {R R2 : Nat → Prop} : ∀ (ps : List (PK O)) (u : upds ps) (o n : List Pl), (flatR ps = true ∨ ∀ b, R b → R2 b) → Upd w R ps u o n → Upd w R2 ps u o n
  | [], _, _, _, _, h => h
  | p :: ps, u, o, n, hf, ⟨qo, o', qn, n', e1, e2, h1, h2⟩ => by
    rcases hf with hf | hf
    · obtain ⟨g1, g2⟩ := flatR_cons hf
      exact ⟨qo, o', qn, n', e1, e2, g1 h1, Upd_R ps _ _ _ (.inl g2) h2⟩
    · exact ⟨qo, o', qn, n', e1, e2, UpdR_R hf h1, Upd_R ps _ _ _ (.inr hf) h2⟩
end
end Go.BB
