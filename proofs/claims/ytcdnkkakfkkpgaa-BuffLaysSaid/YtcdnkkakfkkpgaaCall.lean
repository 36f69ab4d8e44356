/- A symbolic machine for the model's code, and what it shows of this seat's functions. No conditions. -/
import Derived.Test.YtcdnkkakfkkpgaaCtr
set_option linter.unusedSimpArgs false
set_option linter.unusedVariables false
namespace Go.BB
open Go
section
variable {O : ObjK} {cx : Cx} {σ : St O} {a : Act} {w : World} {pl : Nat → Pl} {cfg : Cfg O} {P : Program} {o : Oper} {wr : Wr O}

/-! the arguments -/
def IdsAre (bk : List (Nat × Blk O)) : (ps : List (PK O)) → dens ps → List Nat → Prop
  | [], _, [] => True
  | .val _ :: ps, x, ids => IdsAre bk ps x.2 ids
  | .fn _ :: ps, x, ids => IdsAre bk ps x.2 ids
  | .row t :: ps, x, i :: ids => look bk i = some (.row t x.1.1) ∧ IdsAre bk ps x.2 ids
  | .obj k :: ps, x, i :: ids => look bk i = some (.obj k x.1) ∧ IdsAre bk ps x.2 ids
  | _, _, _ => False
theorem Entry_R {R R2 : Nat → Prop} (hR : ∀ b, R b → R2 b) : ∀ (ps : List (PK O)) (x : dens ps) (vs : List Value) (pls : List Pl), Entry w R ps x vs pls → Entry w R2 ps x vs pls
  | [], _, [], [], _ => trivial
  | [], _, [], _ :: _, h => by cases h
  | [], _, _ :: _, _, h => by cases h
  | .val t :: ps, x, [], _, h => by cases h
  | .fn t :: ps, x, [], _, h => by cases h
  | .row t :: ps, x, [], _, h => by cases h
  | .obj t :: ps, x, [], _, h => by cases h
  | .row t :: ps, x, _ :: _, [], h => by cases h
  | .obj t :: ps, x, _ :: _, [], h => by cases h
  | .val t :: ps, x, v :: vs, pls, h => ⟨TRep_mono hR (fun _ _ => rfl) h.1, Entry_R hR ps _ _ _ h.2⟩
  | .fn g :: ps, x, v :: vs, pls, h => ⟨h.1, Entry_R hR ps _ _ _ h.2⟩
  | .row t :: ps, x, v :: vs, p :: pls, h => ⟨⟨h.1.1, RowAt_R hR h.1.2.1, h.1.2.2⟩, Entry_R hR ps _ _ _ h.2⟩
  | .obj k :: ps, x, v :: vs, p :: pls, h => ⟨h.1, Entry_R hR ps _ _ _ h.2⟩
theorem TRep_of {R R2 : Nat → Prop} {bk : List (Nat × Blk O)} {ty : Ty} {y : ty.den} {t : T} {v : Value} (ht : TR w R bk pl t v)
    (h : ∀ vs, All2 (CR w R bk pl) t.cells vs → Rep w R2 ty y vs) (hag : beqB (T.isAg t) ty.isAgg = true) : TRep w R2 ty y v := by
  unfold TRep
  cases t with
  | ag cs =>
    have : ty.isAgg = true := by simpa [T.isAg, beqB] using hag
    rw [this]
    obtain ⟨va, e1, e2⟩ := ht
    exact ⟨va, e1, h _ e2⟩
  | one c =>
    have : ty.isAgg = false := by
      cases hh : ty.isAgg with
      | false => rfl
      | true => rw [hh] at hag; simp [T.isAg, beqB] at hag
    rw [this]
    exact h [v] ⟨ht, trivial⟩
theorem R2_left {f g : List (Nat × Blk O)} {b : Nat} (h : R2 cx w σ pl f b) : R2 cx w σ pl (capp f g) b := by
  rcases h with h | ⟨p, hp, hb⟩
  · exact .inl h
  · exact .inr ⟨p, by rw [capp_eq]; exact List.mem_append_left _ hp, hb⟩
theorem R2_right {f g : List (Nat × Blk O)} {b : Nat} (h : R2 cx w σ pl g b) : R2 cx w σ pl (capp f g) b := by
  rcases h with h | ⟨p, hp, hb⟩
  · exact .inl h
  · exact .inr ⟨p, by rw [capp_eq]; exact List.mem_append_right _ hp, hb⟩
theorem Fz_append {f g : List (Nat × Blk O)} (hf : Fz σ f) (hg : Fz σ g) : Fz σ (capp f g) := by
  rw [capp_eq]
  intro p hp
  rcases List.mem_append.1 hp with hp | hp
  · exact hf p hp
  · exact hg p hp
theorem fnOf_some {v : Value} {g : Nat} (h : fnOf v = some g) : v = .func (.func g) #[] #[] := by
  unfold fnOf at h
  split at h
  · rename_i g' x y
    split at h
    · rename_i h1 h2
      cases h
      have e1 : x = #[] := by cases x; simp at h1; subst h1; rfl
      have e2 : y = #[] := by cases y; simp at h2; subst h2; rfl
      rw [e1, e2]
    · cases h
  · cases h
theorem gather_to (hR : Rel cx σ a w pl) : ∀ (ps : List (PK O)) (xs : List Operand) (k : dens ps → List Nat → List (Nat × Blk O) → RM O), (gather ps xs k).to σ wr →
    ∃ as ids fz, (k as ids fz).to σ wr ∧ Fz σ fz ∧ Entry w (R2 cx w σ pl fz) ps as (xs.map a.eval) (ids.map pl) ∧ IdsAre σ.bk ps as ids
  | [], [], k, h => ⟨(), [], [], h, by simp [Fz], trivial, trivial⟩
  | [], _ :: _, k, h => by cases h
  | .val t :: ps, [], k, h => by cases h
  | .fn t :: ps, [], k, h => by cases h
  | .row t :: ps, [], k, h => by cases h
  | .obj t :: ps, [], k, h => by cases h
  | .val t :: ps, x :: xs, k, h => by
    unfold gather at h
    obtain ⟨v, h1, h2⟩ := evT_to h
    cases hb : beqB (T.isAg v) t.isAgg with
    | false => rw [hb] at h2; exact h2.elim
    | true =>
      rw [hb] at h2
      simp only at h2
      obtain ⟨y, f, h3, h4, h5⟩ := ofCells_to hR _ _ _ _ h2
      obtain ⟨as, ids, g, h6, h7, h8, h9⟩ := gather_to hR ps xs _ h3
      exact ⟨(y, as), ids, capp f g, h6, Fz_append h4 h7, ⟨TRep_mono (fun b hb => R2_left hb) (fun _ _ => rfl) (TRep_of (opd_TR hR h1) h5 hb), Entry_R (fun b hb => R2_right hb) _ _ _ _ h8⟩, h9⟩
  | .fn g :: ps, x :: xs, k, h => by
    unfold gather at h
    obtain ⟨v, h1, h2⟩ := evV_to h
    have hv := opd_sc hR h1
    cases hf : fnOf v with
    | none => rw [hf] at h2; exact h2.elim
    | some g' =>
      rw [hf] at h2
      simp only at h2
      cases hg : Nat.beq g g' with
      | false => rw [hg] at h2; exact h2.elim
      | true =>
        rw [hg] at h2
        have := Nat.eq_of_beq_eq_true hg
        subst this
        obtain ⟨as, ids, f, h6, h7, h8, h9⟩ := gather_to hR ps xs _ h2
        exact ⟨((), as), ids, f, h6, h7, ⟨hv.trans (fnOf_some hf), h8⟩, h9⟩
  | .row t :: ps, x :: xs, k, h => by
    unfold gather at h
    obtain ⟨c, h1, h2⟩ := evC_to h
    have hc := opd_CR hR h1
    split at h2
    · rename_i i
      simp only [RM.to] at h2
      cases hr : rowW t (look σ.bk i) with
      | none => rw [hr] at h2; exact h2.elim
      | some ys =>
        rw [hr] at h2
        have hl := rowW_some hr
        obtain ⟨as, ids, f, h6, h7, h8, h9⟩ := gather_to hR ps xs _ h2
        have hov := own_of hR (.inl hl) hc
        obtain ⟨hz, hrow⟩ := row_of hR (.inl hl)
        refine ⟨((ys, ys.length), as), i :: ids, f, h6, h7, ⟨⟨hz, RowAt_R (fun b hb => .inl hb) hrow, ?_, Nat.le_refl _, hc.1⟩, h8⟩, ⟨hl, h9⟩⟩
        cases hp : pl i with
        | nil => rw [hp] at hov; exact ⟨hov.1, rfl, hov.2⟩
        | obj v f => rw [hp] at hov; exact hov.elim
        | «at» b cap =>
          rw [hp] at hov hrow
          obtain ⟨arr, e', g1, g2, g3, g4, g5⟩ := hrow
          exact ⟨⟨b, 0, none⟩, hov, by simpa using g3, rfl, fun _ => by simp⟩
    · rename_i i n
      simp only [RM.to] at h2
      cases hr : rowW t (look σ.bk i) with
      | none => rw [hr] at h2; exact h2.elim
      | some ys =>
        rw [hr] at h2
        have hl := rowW_some hr
        obtain ⟨as, ids, f, h6, h7, h8, h9⟩ := gather_to hR ps xs _ h2
        obtain ⟨hov, hln⟩ := sub_of (.inl hl) hc
        obtain ⟨hz, hrow⟩ := row_of hR (.inl hl)
        exact ⟨((ys, n), as), i :: ids, f, h6, h7, ⟨⟨hz, RowAt_R (fun b hb => .inl hb) hrow, hov, by simpa using hln, hc.1⟩, h8⟩, ⟨hl, h9⟩⟩
    · exact h2.elim
  | .obj kk :: ps, x :: xs, k, h => by
    unfold gather at h
    obtain ⟨c, h1, h2⟩ := evC_to h
    have hc := opd_CR hR h1
    split at h2
    · rename_i i
      simp only [RM.to] at h2
      cases hl : look σ.bk i with
      | none => rw [hl] at h2; exact h2.elim
      | some B =>
        rw [hl] at h2
        cases B with
        | obj k' y =>
          simp only at h2
          cases hq : O.deq k' kk with
          | isFalse hne => rw [hq] at h2; exact h2.elim
          | isTrue heq =>
            rw [hq] at h2
            subst heq
            obtain ⟨as, ids, f, h6, h7, h8, h9⟩ := gather_to hR ps xs _ h2
            obtain ⟨v, fp, g1, g2⟩ := hR.mem.blocks i _ hl
            obtain ⟨g3, B', g4, g5⟩ := hc
            rw [hl] at g4
            cases g4
            obtain ⟨fp', g6⟩ := g5 ⟨_, _, rfl⟩
            rw [g1] at g6
            cases g6
            exact ⟨(y, as), i :: ids, f, h6, h7, ⟨⟨⟨fp, g1, g2⟩, g3⟩, h8⟩, ⟨hl, h9⟩⟩
        | _ => exact h2.elim
    · exact h2.elim
/-! what a call leaves, under labels -/
def resL (nb : Nat) : List (RK O) → List Nat
  | [] => []
  | .val _ :: rs => resL (Nat.add nb 1) rs
  | .own _ :: rs => nb :: resL (Nat.add nb 1) rs
  | .sub _ :: rs => nb :: resL (Nat.add nb 1) rs
  | .obj _ :: rs => nb :: resL (Nat.add nb 1) rs
theorem resL_ge : ∀ (rs : List (RK O)) (nb i : Nat), i ∈ resL nb rs → nb ≤ i ∧ i < nb + rs.length
  | [], nb, i, h => by cases h
  | .val _ :: rs, nb, i, h => by
    have := resL_ge rs (nb + 1) i h
    simp only [List.length_cons]; omega
  | .own _ :: rs, nb, i, h => by
    simp only [List.length_cons]
    rcases List.mem_cons.1 h with rfl | h
    · omega
    · have := resL_ge rs (nb + 1) i h; omega
  | .sub _ :: rs, nb, i, h => by
    simp only [List.length_cons]
    rcases List.mem_cons.1 h with rfl | h
    · omega
    · have := resL_ge rs (nb + 1) i h; omega
  | .obj _ :: rs, nb, i, h => by
    simp only [List.length_cons]
    rcases List.mem_cons.1 h with rfl | h
    · omega
    · have := resL_ge rs (nb + 1) i h; omega
theorem resL_nodup : ∀ (rs : List (RK O)) (nb : Nat), (resL nb rs).Nodup
  | [], nb => List.nodup_nil
  | .val _ :: rs, nb => resL_nodup rs (nb + 1)
  | .own _ :: rs, nb => List.nodup_cons.2 ⟨fun h => by have := resL_ge rs (nb + 1) nb h; omega, resL_nodup rs (nb + 1)⟩
  | .sub _ :: rs, nb => List.nodup_cons.2 ⟨fun h => by have := resL_ge rs (nb + 1) nb h; omega, resL_nodup rs (nb + 1)⟩
  | .obj _ :: rs, nb => List.nodup_cons.2 ⟨fun h => by have := resL_ge rs (nb + 1) nb h; omega, resL_nodup rs (nb + 1)⟩
theorem freshes_to : ∀ {n nb : Nat} {k : RM O}, (freshes nb n k).to σ wr → (∀ i, nb ≤ i → i < nb + n → look σ.bk i = none ∧ 64 ≤ i) ∧ k.to σ wr
  | 0, nb, k, h => ⟨fun i h1 h2 => by omega, h⟩
  | n + 1, nb, k, h => by
    obtain ⟨h1, h2, h3⟩ := fresh_to h
    obtain ⟨h4, h5⟩ := freshes_to h3
    refine ⟨fun i h6 h7 => ?_, h5⟩
    by_cases e : i = nb
    · subst e; exact ⟨h1, h2⟩
    · exact h4 i (show nb + 1 ≤ i by omega) (show i < nb + 1 + n by omega)
/-- a block at a place -/
def BQ (w : World) (R : Nat → Prop) (p : Pl) : Blk O → Prop
  | .row t xs => 0 < t.sz ∧ RowAt w R p t xs
  | .obj k x => ∃ v f, p = .obj v f ∧ O.rel k x w v f
  | _ => False
theorem BQ_live {R : Nat → Prop} {p : Pl} {B : Blk O} (h : BQ w R p B) : B.live := by cases B <;> first | trivial | exact h.elim
theorem BQ_BR {R : Nat → Prop} {bk : List (Nat × Blk O)} {i : Nat} {B : Blk O} (h : BQ w R (pl i) B) : BR w R bk pl i B := by
  cases B with
  | row t xs => exact h
  | obj k x => exact h
  | _ => exact h.elim
theorem BQ_R {R R2 : Nat → Prop} {p : Pl} {B : Blk O} (hR : ∀ b, R b → R2 b) (h : BQ w R p B) : BQ w R2 p B := by
  cases B with
  | row t xs => exact ⟨h.1, RowAt_R hR h.2⟩
  | obj k x => exact h
  | _ => exact h.elim
/-- the blocks of the results -/
theorem resW_blocks {R : Nat → Prop} : ∀ (rs : List (RK O)) (r : rdens rs) (vs : List Value) (rpl : List Pl) (nb : Nat), Res w R rs r vs rpl →
    ((resW nb rs r).2.map (·.1) = resL nb rs) ∧ (resL nb rs).length = rpl.length ∧ ∀ i B, (i, B) ∈ (resW nb rs r).2 → ∃ p, (i, p) ∈ (resL nb rs).zip rpl ∧ BQ w R p B
  | [], _, [], [], nb, _ => ⟨rfl, rfl, by simp [resW]⟩
  | [], _, _ :: _, _, _, h => by cases h
  | [], _, [], _ :: _, _, h => by cases h
  | .val t :: rs, x, [], _, _, h => by cases h
  | .own t :: rs, x, [], _, _, h => by cases h
  | .sub t :: rs, x, [], _, _, h => by cases h
  | .obj k :: rs, x, [], _, _, h => by cases h
  | .own t :: rs, x, _ :: _, [], _, h => by cases h
  | .sub t :: rs, x, _ :: _, [], _, h => by cases h
  | .obj k :: rs, x, _ :: _, [], _, h => by cases h
  | .val t :: rs, x, v :: vs, rpl, nb, h => resW_blocks rs x.2 vs rpl (nb + 1) h.2
  | .own t :: rs, x, v :: vs, p :: rpl, nb, h => by
    obtain ⟨h1, h2, h3⟩ := resW_blocks rs x.2 vs rpl (nb + 1) h.2
    refine ⟨?_, ?_, fun i B hi => ?_⟩
    · show nb :: (resW (nb + 1) rs x.2).2.map (·.1) = nb :: resL (nb + 1) rs
      rw [h1]
    · show (resL (nb + 1) rs).length + 1 = rpl.length + 1
      rw [h2]
    · rcases List.mem_cons.1 hi with hi | hi
      · cases hi
        exact ⟨p, List.mem_cons_self, h.1.1, h.1.2.1⟩
      · obtain ⟨q, g1, g2⟩ := h3 i B hi
        exact ⟨q, List.mem_cons_of_mem _ g1, g2⟩
  | .sub t :: rs, x, v :: vs, p :: rpl, nb, h => by
    obtain ⟨h1, h2, h3⟩ := resW_blocks rs x.2 vs rpl (nb + 1) h.2
    refine ⟨?_, ?_, fun i B hi => ?_⟩
    · show nb :: (resW (nb + 1) rs x.2).2.map (·.1) = nb :: resL (nb + 1) rs
      rw [h1]
    · show (resL (nb + 1) rs).length + 1 = rpl.length + 1
      rw [h2]
    · rcases List.mem_cons.1 hi with hi | hi
      · cases hi
        exact ⟨p, List.mem_cons_self, h.1.1, h.1.2.1⟩
      · obtain ⟨q, g1, g2⟩ := h3 i B hi
        exact ⟨q, List.mem_cons_of_mem _ g1, g2⟩
  | .obj k :: rs, x, v :: vs, p :: rpl, nb, h => by
    obtain ⟨h1, h2, h3⟩ := resW_blocks rs x.2 vs rpl (nb + 1) h.2
    refine ⟨?_, ?_, fun i B hi => ?_⟩
    · show nb :: (resW (nb + 1) rs x.2).2.map (·.1) = nb :: resL (nb + 1) rs
      rw [h1]
    · show (resL (nb + 1) rs).length + 1 = rpl.length + 1
      rw [h2]
    · rcases List.mem_cons.1 hi with hi | hi
      · cases hi
        obtain ⟨f, g1, g2⟩ := h.1.1
        exact ⟨p, List.mem_cons_self, v, f, g1, g2⟩
      · obtain ⟨q, g1, g2⟩ := h3 i B hi
        exact ⟨q, List.mem_cons_of_mem _ g1, g2⟩
/-- the results' values -/
theorem tOf_TR {R : Nat → Prop} {bk : List (Nat × Blk O)} {t : Ty} {x : t.den} {v : Value} (h : TRep w R t x v) : TR w R bk pl (tOf t x) v := by
  cases t with
  | pair ta tb =>
    obtain ⟨arr, e, h⟩ := h
    exact ⟨arr, e, cellsOf_CR (fun _ h => h) _ _ _ h⟩
  | unit =>
    obtain ⟨arr, e, h⟩ := h
    exact ⟨arr, e, by rw [show arr.toList = [] from h]; trivial⟩
  | int k =>
    have h' : [v] = [Value.int k x] := h
    simp only [List.cons.injEq, and_true] at h'
    exact h'
  | bool =>
    have h' : [v] = [Value.bool x] := h
    simp only [List.cons.injEq, and_true] at h'
    exact h'
  | str =>
    have h' : [v] = [Value.string x] := h
    simp only [List.cons.injEq, and_true] at h'
    exact h'
  | slice t => exact h
theorem resW_vals {R : Nat → Prop} {bk : List (Nat × Blk O)} : ∀ (rs : List (RK O)) (r : rdens rs) (vs : List Value) (rpl : List Pl) (nb : Nat), Res w R rs r vs rpl →
    (∀ i B, (i, B) ∈ (resW nb rs r).2 → look bk i = some B) → (∀ i p, (i, p) ∈ (resL nb rs).zip rpl → pl i = p) → All2 (TR w R bk pl) (resW nb rs r).1 vs
  | [], _, [], [], nb, _, _, _ => trivial
  | [], _, _ :: _, _, _, h, _, _ => by cases h
  | [], _, [], _ :: _, _, h, _, _ => by cases h
  | .val t :: rs, x, [], _, _, h, _, _ => by cases h
  | .own t :: rs, x, [], _, _, h, _, _ => by cases h
  | .sub t :: rs, x, [], _, _, h, _, _ => by cases h
  | .obj k :: rs, x, [], _, _, h, _, _ => by cases h
  | .own t :: rs, x, _ :: _, [], _, h, _, _ => by cases h
  | .sub t :: rs, x, _ :: _, [], _, h, _, _ => by cases h
  | .obj k :: rs, x, _ :: _, [], _, h, _, _ => by cases h
  | .val t :: rs, x, v :: vs, rpl, nb, h, hb, hp => ⟨tOf_TR h.1, resW_vals rs x.2 vs rpl (nb + 1) h.2 hb hp⟩
  | .own t :: rs, x, v :: vs, p :: rpl, nb, h, hb, hp => by
    refine ⟨?_, resW_vals rs x.2 vs rpl (nb + 1) h.2 (fun i B hi => hb i B (List.mem_cons_of_mem _ hi)) (fun i q hi => hp i q (List.mem_cons_of_mem _ hi))⟩
    have h1 := hb nb _ List.mem_cons_self
    have h2 := hp nb p List.mem_cons_self
    refine ⟨h.1.2.2.2, _, h1, fun t' n hn => ?_⟩
    obtain ⟨zs, g1 | g1, g2⟩ := hn <;> cases g1
    subst g2
    rw [h2]
    exact h.1.2.2.1
  | .sub t :: rs, x, v :: vs, p :: rpl, nb, h, hb, hp => by
    refine ⟨?_, resW_vals rs x.2 vs rpl (nb + 1) h.2 (fun i B hi => hb i B (List.mem_cons_of_mem _ hi)) (fun i q hi => hp i q (List.mem_cons_of_mem _ hi))⟩
    have h1 := hb nb _ List.mem_cons_self
    have h2 := hp nb p List.mem_cons_self
    refine ⟨h.1.2.2.2.2, _, h1, fun t' n hn => ?_⟩
    obtain ⟨zs, g1 | g1, g2⟩ := hn <;> cases g1
    subst g2
    rw [h2]
    exact ⟨h.1.2.2.1, by have := h.1.2.2.2.1; omega⟩
  | .obj k :: rs, x, v :: vs, p :: rpl, nb, h, hb, hp => by
    refine ⟨?_, resW_vals rs x.2 vs rpl (nb + 1) h.2 (fun i B hi => hb i B (List.mem_cons_of_mem _ hi)) (fun i q hi => hp i q (List.mem_cons_of_mem _ hi))⟩
    have h1 := hb nb _ List.mem_cons_self
    have h2 := hp nb p List.mem_cons_self
    obtain ⟨⟨f, g1, g2⟩, g3⟩ := h.1
    exact ⟨g3, _, h1, fun _ => ⟨f, by rw [h2, g1]⟩⟩
/-- the blocks that were handed in -/
theorem updW_blocks {R : Nat → Prop} {bk : List (Nat × Blk O)} : ∀ (ps : List (PK O)) (x : dens ps) (u : upds ps) (ids : List Nat) (pls : List Pl) (vs : List Value) (R0 : Nat → Prop) (w0 : World) (pls0 : List Pl),
    IdsAre bk ps x ids → Upd w R ps u pls → Kept ps x u → Entry w0 R0 ps x vs pls0 →
    ((updW ps u ids).map (·.1) = ids) ∧ ids.length = pls.length ∧ ∀ i B, (i, B) ∈ updW ps u ids → (∃ p, (i, p) ∈ ids.zip pls ∧ BQ w R p B) ∧
      ∃ B0, look bk i = some B0 ∧ B0.live ∧ (∀ t n, isRow B t n → isRow B0 t n) ∧ (isBox B → isBox B0) ∧ (isObj B → isObj B0)
  | [], _, _, [], [], _, _, _, _, _, _, _, _ => ⟨rfl, rfl, by simp [updW]⟩
  | [], _, _, _ :: _, _, _, _, _, _, h, _, _, _ => by cases h
  | [], _, _, [], _ :: _, _, _, _, _, _, h, _, _ => by cases h
  | .val t :: ps, x, u, ids, pls, [], R0, w0, pls0, h1, h2, h3, h4 => by cases h4
  | .val t :: ps, x, u, ids, pls, v :: vs, R0, w0, pls0, h1, h2, h3, h4 => updW_blocks ps x.2 u.2 ids pls vs R0 w0 pls0 h1 h2 h3 h4.2
  | .fn t :: ps, x, u, ids, pls, [], R0, w0, pls0, h1, h2, h3, h4 => by cases h4
  | .fn t :: ps, x, u, ids, pls, v :: vs, R0, w0, pls0, h1, h2, h3, h4 => updW_blocks ps x.2 u.2 ids pls vs R0 w0 pls0 h1 h2 h3 h4.2
  | .row t :: ps, x, u, [], pls, vs, R0, w0, pls0, h1, h2, h3, h4 => by cases h1
  | .row t :: ps, x, u, i :: ids, [], vs, R0, w0, pls0, h1, h2, h3, h4 => by cases h2
  | .row t :: ps, x, u, i :: ids, p :: pls, [], R0, w0, pls0, h1, h2, h3, h4 => by cases h4
  | .row t :: ps, x, u, i :: ids, p :: pls, v :: vs, R0, w0, [], h1, h2, h3, h4 => by cases h4
  | .row t :: ps, x, u, i :: ids, p :: pls, v :: vs, R0, w0, p0 :: pls0, h1, h2, h3, h4 => by
    obtain ⟨g1, g2, g3⟩ := updW_blocks ps x.2 u.2 ids pls vs R0 w0 pls0 h1.2 h2.2 h3.2 h4.2
    refine ⟨?_, by simp [g2], fun j B hj => ?_⟩
    · show i :: (updW ps u.2 ids).map (·.1) = i :: ids
      rw [g1]
    · rcases List.mem_cons.1 hj with hj | hj
      · cases hj
        refine ⟨⟨p, List.mem_cons_self, h4.1.1, h2.1⟩, _, h1.1, trivial, fun t' n hn => ?_, (fun ⟨_, e⟩ => by cases e), (fun ⟨_, _, e⟩ => by cases e)⟩
        obtain ⟨zs, e | e, hl⟩ := hn
        · cases e
          exact ⟨x.1.1, .inl rfl, by rw [← hl]; exact h3.1.symm⟩
        · cases e
      · obtain ⟨⟨q, e1, e2⟩, e3⟩ := g3 j B hj
        exact ⟨⟨q, List.mem_cons_of_mem _ e1, e2⟩, e3⟩
  | .obj k :: ps, x, u, [], pls, vs, R0, w0, pls0, h1, h2, h3, h4 => by cases h1
  | .obj k :: ps, x, u, i :: ids, [], vs, R0, w0, pls0, h1, h2, h3, h4 => by cases h2
  | .obj k :: ps, x, u, i :: ids, p :: pls, [], R0, w0, pls0, h1, h2, h3, h4 => by cases h4
  | .obj k :: ps, x, u, i :: ids, p :: pls, v :: vs, R0, w0, [], h1, h2, h3, h4 => by cases h4
  | .obj k :: ps, x, u, i :: ids, p :: pls, v :: vs, R0, w0, p0 :: pls0, h1, h2, h3, h4 => by
    obtain ⟨g1, g2, g3⟩ := updW_blocks ps x.2 u.2 ids pls vs R0 w0 pls0 h1.2 h2.2 h3 h4.2
    refine ⟨?_, by simp [g2], fun j B hj => ?_⟩
    · show i :: (updW ps u.2 ids).map (·.1) = i :: ids
      rw [g1]
    · rcases List.mem_cons.1 hj with hj | hj
      · cases hj
        refine ⟨⟨p, List.mem_cons_self, h2.1⟩, _, h1.1, trivial, fun t' n hn => ?_, (fun ⟨_, e⟩ => by cases e), (fun _ => ⟨_, _, rfl⟩)⟩
        obtain ⟨zs, e | e, hl⟩ := hn <;> cases e
      · obtain ⟨⟨q, e1, e2⟩, e3⟩ := g3 j B hj
        exact ⟨⟨q, List.mem_cons_of_mem _ e1, e2⟩, e3⟩
end
end Go.BB
