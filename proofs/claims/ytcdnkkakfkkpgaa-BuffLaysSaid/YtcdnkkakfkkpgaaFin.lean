/- A symbolic machine for the model's code, and what it shows of this seat's functions. No conditions. -/
import Derived.Test.YtcdnkkakfkkpgaaRun
set_option linter.unusedSimpArgs false
set_option linter.unusedVariables false
namespace Go.BB
open Go
section
variable {O : ObjK} {cx : Cx} {σ τ : St O} {a : Act} {w : World} {pl : Nat → Pl} {cfg : Cfg O} {P : Program}

/-- the value of a result's variable -/
def RV1 (P : Program) (tmps : Array Value) (w : World) (v : ResultVar) (u : Value) : Prop :=
  (match v with | .tmp t => (pure (tmps.getD t undef) : Sem Value) | .cell b t => do loadVar t (← asAddr (tmps.getD b undef))).run P w = .ok u w
theorem results_run {fn : Func} {tmps : Array Value} {us : List Value} (h : All2 (RV1 P tmps w) fn.results.toList us) : (results fn tmps).run P w = .ok (resV us) w := by
  have hm : ∀ (f : ResultVar → Sem Value), (∀ v u, RV1 P tmps w v u → (f v).run P w = .ok u w) → ∀ (vs : List ResultVar) (us : List Value), All2 (RV1 P tmps w) vs us → (vs.mapM f).run P w = .ok us w := by
    intro f hf vs
    induction vs with
    | nil =>
      intro us h
      match us, h with
      | [], _ => rfl
    | cons v vs ih =>
      intro us h
      match us, h with
      | u :: us, h =>
        simp only [List.mapM_cons, Sem.run_bind, hf v u h.1, Result.andThen_ok, ih us h.2, Sem.run_pure]
  have e : fn.results = fn.results.toList.toArray := by simp
  unfold results
  rw [e, List.mapM_toArray]
  simp only [Sem.run_bind, Sem.run_map]
  rw [hm _ ?_ _ _ h]
  · match us with
    | [] => rfl
    | [t] => rfl
    | t :: t' :: ts => simp [resV]
  · intro v u hv
    cases v <;> exact hv

/-! what goes out -/
abbrev REnt := Pl × Option Nat
def rids (E : List REnt) : List Nat := E.filterMap (·.2)
def ROk (σ : St O) (pl : Nat → Pl) (E : List REnt) : Prop := ∀ e ∈ E, match e.2 with | some i => e.1 = pl i ∧ liveAt σ.bk i | none => e.1 = .nil
def Rds (σ : St O) (rd : List Nat) : Prop := ∀ i ∈ rd, ∃ (t : Ty) (xs : List t.den), look σ.bk i = some (.row t xs) ∨ look σ.bk i = some (.fro t xs)
theorem Rds.append {x y : List Nat} (h : Rds σ x) (h' : Rds σ y) : Rds σ (capp x y) := by
  rw [capp_eq]
  intro i hi
  rcases List.mem_append.1 hi with hi | hi
  · exact h i hi
  · exact h' i hi
theorem valOf_to {R : Type} (hR : Rel cx σ a w pl) : ∀ (t : Ty) (cs : List C) (k : t.den → List Nat → Option R) (r : R), valOf σ t cs k = some r →
    ∃ x rd, k x rd = some r ∧ Rds σ rd ∧ ∀ R', (∀ b, RO cx w σ.bk pl b → R' b) → (∀ i ∈ rd, ∀ b, (pl i).fp b → R' b) → ∀ vs, All2 (CR w (RO cx w σ.bk pl) σ.bk pl) cs vs → Rep w R' t x vs
  | .int kd, cs, k, r, h => by
    unfold valOf at h
    split at h
    · split at h
      · rename_i k' n e
        subst e
        refine ⟨n, [], h, by simp [Rds], fun R' _ _ vs hv => ?_⟩
        match vs, hv with
        | [v], hv => rw [show v = _ from hv.1]; rfl
      · cases h
    · cases h
  | .bool, cs, k, r, h => by
    unfold valOf at h
    split at h
    · rename_i b
      refine ⟨b, [], h, by simp [Rds], fun R' _ _ vs hv => ?_⟩
      match vs, hv with
      | [v], hv => rw [show v = _ from hv.1]; rfl
    · cases h
  | .str, cs, k, r, h => by
    unfold valOf at h
    split at h
    · rename_i b
      refine ⟨b, [], h, by simp [Rds], fun R' _ _ vs hv => ?_⟩
      match vs, hv with
      | [v], hv => rw [show v = _ from hv.1]; rfl
    · cases h
  | .unit, cs, k, r, h => by
    unfold valOf at h
    split at h
    · refine ⟨(), [], h, by simp [Rds], fun R' _ _ vs hv => ?_⟩
      match vs, hv with
      | [], hv => rfl
    · cases h
  | .pair t u, cs, k, r, h => by
    unfold valOf at h
    obtain ⟨x, f, h1, h2, h3⟩ := valOf_to hR t _ _ _ h
    obtain ⟨y, g, h4, h5, h6⟩ := valOf_to hR u _ _ _ h1
    refine ⟨(x, y), capp f g, h4, h2.append h5, fun R' hRR hrd vs hv => ?_⟩
    rw [capp_eq] at hrd
    rw [ctake_eq] at h3
    rw [cdrop_eq] at h6
    exact ⟨vs.take t.sz, vs.drop t.sz, (List.take_append_drop _ _).symm, h3 R' hRR (fun i hi => hrd i (List.mem_append_left _ hi)) _ (hv.take _), h6 R' hRR (fun i hi => hrd i (List.mem_append_right _ hi)) _ (hv.drop _)⟩
  | .slice t, cs, k, r, h => by
    unfold valOf at h
    split at h
    · rename_i t' xs
      cases hc : castL t ⟨t', xs⟩ with
      | none => rw [hc] at h; cases h
      | some ys =>
        rw [hc] at h
        have := castL_some hc
        cases this
        refine ⟨_, [], h, by simp [Rds], fun R' hRR _ vs hv => ?_⟩
        match vs, hv with
        | [v], hv => exact Rep_mono hRR (fun _ _ => rfl) _ _ _ hv.1
    · rename_i i
      cases hc : rowAs t (look σ.bk i) with
      | none => rw [hc] at h; cases h
      | some xs =>
        rw [hc] at h
        have hl := rowAs_some hc
        obtain ⟨hz, hrow⟩ := row_of hR hl
        refine ⟨xs, [i], h, fun j hj => ?_, fun R' hRR hrd vs hv => ?_⟩
        · rw [List.mem_singleton.1 hj]; exact ⟨t, xs, hl⟩
        · match vs, hv with
          | [v], hv => exact rep_own hz hrow (own_of hR hl hv.1) hRR (fun b hb => hrd i List.mem_cons_self b hb)
    · rename_i i lo n
      cases hc : rowAs t (look σ.bk i) with
      | none => rw [hc] at h; cases h
      | some xs =>
        rw [hc] at h
        have hl := rowAs_some hc
        obtain ⟨hz, hrow⟩ := row_of hR hl
        refine ⟨_, [i], h, fun j hj => ?_, fun R' hRR hrd vs hv => ?_⟩
        · rw [List.mem_singleton.1 hj]; exact ⟨t, xs, hl⟩
        · match vs, hv with
          | [v], hv =>
            obtain ⟨hs, hn⟩ := sub_of hl hv.1
            exact rep_sub hz hrow hs hn hRR (fun b hb => hrd i List.mem_cons_self b hb)
    · refine ⟨[], [], h, by simp [Rds], fun R' _ _ vs hv => ?_⟩
      match vs, hv with
      | [v], hv =>
        rw [show v = _ from hv.1]
        exact ⟨none, 0, rfl, by simp, fun h => by simp at h⟩
    · cases h
/-- one result -/
structure Out1 (cx : Cx) (σ : St O) (w : World) (pl : Nat → Pl) (r : RK O) (x : r.den) (v : Value) (rd ow : List Nat) (E : List REnt) : Prop where
  eow : ow = rids E
  ok : ROk σ pl E
  erd : Rds σ rd
  res : ∀ R', (∀ b, RO cx w σ.bk pl b → R' b) → (∀ i ∈ rd, ∀ b, (pl i).fp b → R' b) → ∀ (rs : List (RK O)) (xs : rdens rs) (vs : List Value) (ps : List Pl), Res w R' rs xs vs ps → Res w R' (r :: rs) (x, xs) (v :: vs) (E.map (·.1) ++ ps)
theorem fins1_to {R : Type} (hR : Rel cx σ a w pl) {x : T} {v : Value} (hx : TR w (RO cx w σ.bk pl) σ.bk pl x v) : ∀ (rk : RK O) (k : rk.den → List Nat → List Nat → Option R) (r : R), fins.fins1 σ rk x k = some r →
    ∃ y rd ow E, k y rd ow = some r ∧ Out1 cx σ w pl rk y v rd ow E
  | .val t, k, r, h => by
    dsimp only [fins.fins1] at h
    cases hag : beqB (T.isAg x) t.isAgg with
    | false => rw [hag] at h; cases h
    | true =>
      rw [hag] at h
      simp only at h
      obtain ⟨y, rd, h1, h2, h3⟩ := valOf_to hR t _ _ _ h
      exact ⟨y, rd, [], [], h1, rfl, by simp [ROk], h2, fun R' hRR hrd rs xs vs ps hr => ⟨TRep_of hx (h3 R' hRR hrd) hag, hr⟩⟩
  | .own t, k, r, h => by
    dsimp only [fins.fins1] at h
    split at h
    · rename_i i
      cases hr : rowW t (look σ.bk i) with
      | none => rw [hr] at h; cases h
      | some xs =>
        rw [hr] at h
        have hl := rowW_some hr
        obtain ⟨hz, hrow⟩ := row_of hR (.inl hl)
        have ho := own_of hR (.inl hl) hx
        refine ⟨xs, [], [i], [(pl i, some i)], h, rfl, ?_, by simp [Rds], fun R' hRR hrd rs ys vs ps hr => ⟨⟨hz, RowAt_R hRR hrow, ho, hx.1⟩, hr⟩⟩
        intro e he
        rw [List.mem_singleton.1 he]
        exact ⟨rfl, _, hl, trivial⟩
    · cases hz : Nat.blt 0 t.sz with
      | false => rw [hz] at h; cases h
      | true =>
        rw [hz] at h
        have hz' : 0 < t.sz := Nat.le_of_ble_eq_true hz
        have hx' : v = .slice none 0 0 := hx
        subst hx'
        refine ⟨[], [], [], [(.nil, none)], h, rfl, ?_, by simp [Rds], fun R' hRR hrd rs ys vs ps hr => ⟨⟨hz', rfl, ⟨rfl, rfl⟩, rfl⟩, hr⟩⟩
        intro e he
        rw [List.mem_singleton.1 he]
    · cases h
  | .sub t, k, r, h => by
    dsimp only [fins.fins1] at h
    split at h
    · rename_i i n
      cases hr : rowW t (look σ.bk i) with
      | none => rw [hr] at h; cases h
      | some xs =>
        rw [hr] at h
        have hl := rowW_some hr
        obtain ⟨hz, hrow⟩ := row_of hR (.inl hl)
        obtain ⟨ho, hn⟩ := sub_of (cx := cx) (w := w) (.inl hl) hx
        refine ⟨(xs, n), [], [i], [(pl i, some i)], h, rfl, ?_, by simp [Rds], fun R' hRR hrd rs ys vs ps hr => ⟨⟨hz, RowAt_R hRR hrow, ho, by simpa using hn, hx.1⟩, hr⟩⟩
        intro e he
        rw [List.mem_singleton.1 he]
        exact ⟨rfl, _, hl, trivial⟩
    · cases h
  | .obj kk, k, r, h => by
    dsimp only [fins.fins1] at h
    split at h
    · rename_i i
      split at h
      · rename_i k' y hl
        cases hq : O.deq k' kk with
        | isFalse hne => rw [hq] at h; cases h
        | isTrue heq =>
          rw [hq] at h
          subst heq
          obtain ⟨v', f, g1, g2⟩ := hR.mem.blocks i _ hl
          obtain ⟨g3, B', g4, g5⟩ := hx
          rw [hl] at g4
          cases g4
          obtain ⟨f', g6⟩ := g5 ⟨_, _, rfl⟩
          rw [g1] at g6
          cases g6
          refine ⟨y, [], [i], [(pl i, some i)], h, rfl, ?_, by simp [Rds], fun R' hRR hrd rs ys vs ps hr => ⟨⟨⟨f, g1, g2⟩, g3⟩, hr⟩⟩
          intro e he
          rw [List.mem_singleton.1 he]
          exact ⟨rfl, _, hl, trivial⟩
      · cases h
    · cases h
theorem rids_append (E F : List REnt) : rids (E ++ F) = rids E ++ rids F := by simp [rids]
theorem cellOf_to {R : Type} {tt : List (Nat × TI)} (hT : TTok P tt) (hR : Rel cx σ a w pl) {v : Tmp} {t : Nat} {k : T → Option R} {r : R} (h : cellOf tt σ t (look σ.sl v) k = some r) :
    ∃ x u, k x = some r ∧ TR w (RO cx w σ.bk pl) σ.bk pl x u ∧ RV1 P a.tmps w (.cell v t) u := by
  unfold cellOf at h
  split at h
  · rename_i i off hl
    have hv := (hR.slots v _ hl).2
    split at h
    · rename_i cs hB
      split at h
      · rename_i ti hti
        cases hb : Nat.ble (Nat.add off ti.size) (clen cs) with
        | false => rw [hb] at h; cases h
        | true =>
          rw [hb, ] at h
          simp only [forceL_eq] at h
          split at h
          · rename_i x hx
            rw [ctake_eq, cdrop_eq] at hx
            have hle := Nat.le_of_ble_eq_true hb
            rw [clen_eq] at hle
            obtain ⟨_, B', hB', hB2⟩ := hv
            rw [hB] at hB'
            cases hB'
            obtain ⟨b, c, arr, e, h5, h6, h7⟩ := hR.mem.blocks i _ hB
            obtain ⟨b', c', h8, h9⟩ := hB2 ⟨cs, rfl⟩
            rw [h5] at h8
            cases h8
            have h4 := (h7.drop off).take ti.size
            obtain ⟨u, q5, q6⟩ := SR_ofList hx h4
            have hlen : ((arr.toList.drop off).take ti.size).length = ti.size := by
              rw [List.length_take, List.length_drop, ← h7.length]; simp only [Nat.add_eq] at hle; omega
            have hrun := loadVar_run (P := P) (w := w) (hT t ti hti) (ad := (⟨b, 0, none⟩ : Addr).add off) hlen (fun j v hj => by
              rw [add_add]
              rw [List.getElem?_take] at hj
              split at hj
              · rw [List.getElem?_drop] at hj
                rw [add_at, cell_of_row w b _ arr e (0, 0) h6]
                simpa using hj
              · simp at hj) q5
            refine ⟨x, u, h, q6, ?_⟩
            show (asAddr (a.tmps.getD v undef) >>= fun ad => loadVar t ad).run P w = _
            rw [h9]
            rw [add_at] at hrun
            simpa [asAddr] using hrun
          · cases h
      · cases h
    · cases h
  · cases h
theorem fins_one {R : Type} {tt : List (Nat × TI)} (hR : Rel cx σ a w pl) {rk : RK O} {rs : List (RK O)} {vs : List ResultVar} {v : ResultVar} {x : T} {u : Value} (hx : TR w (RO cx w σ.bk pl) σ.bk pl x u) (hu : RV1 P a.tmps w v u)
    {k : rdens (rk :: rs) → List Nat → List Nat → Option R} {r : R}
    (ih : ∀ (k : rdens rs → List Nat → List Nat → Option R) (r : R), fins tt σ rs vs k = some r →
      ∃ (x : rdens rs) (rd ow : List Nat) (E : List REnt) (us : List Value), k x rd ow = some r ∧ ow = rids E ∧ ROk σ pl E ∧ Rds σ rd ∧ All2 (RV1 P a.tmps w) vs us ∧
        ∀ R', (∀ b, RO cx w σ.bk pl b → R' b) → (∀ i ∈ rd, ∀ b, (pl i).fp b → R' b) → Res w R' rs x us (E.map (·.1)))
    (h : (fins.fins1 σ rk x fun a rd ow => fins tt σ rs vs fun as rds ows => k (a, as) (capp rd rds) (capp ow ows)) = some r) :
    ∃ (x : rdens (rk :: rs)) (rd ow : List Nat) (E : List REnt) (us : List Value), k x rd ow = some r ∧ ow = rids E ∧ ROk σ pl E ∧ Rds σ rd ∧ All2 (RV1 P a.tmps w) (v :: vs) us ∧
      ∀ R', (∀ b, RO cx w σ.bk pl b → R' b) → (∀ i ∈ rd, ∀ b, (pl i).fp b → R' b) → Res w R' (rk :: rs) x us (E.map (·.1)) := by
  obtain ⟨y, rd, ow, E, h1, h2⟩ := fins1_to hR hx rk _ r h
  obtain ⟨ys, rds, ows, F, us, h3, h4, h5, h6, h7, h8⟩ := ih _ r h1
  refine ⟨(y, ys), capp rd rds, capp ow ows, E ++ F, u :: us, h3, by rw [capp_eq, rids_append, h2.eow, h4], ?_, h2.erd.append h6, ⟨hu, h7⟩, fun R' hRR hrd => ?_⟩
  · intro e he
    rcases List.mem_append.1 he with he | he
    · exact h2.ok e he
    · exact h5 e he
  · rw [capp_eq] at hrd
    rw [List.map_append]
    exact h2.res R' hRR (fun i hi => hrd i (List.mem_append_left _ hi)) rs ys _ _ (h8 R' hRR (fun i hi => hrd i (List.mem_append_right _ hi)))
theorem fins_to {R : Type} {tt : List (Nat × TI)} (hT : TTok P tt) (hR : Rel cx σ a w pl) : ∀ (rs : List (RK O)) (vs : List ResultVar) (k : rdens rs → List Nat → List Nat → Option R) (r : R), fins tt σ rs vs k = some r →
    ∃ (x : rdens rs) (rd ow : List Nat) (E : List REnt) (us : List Value), k x rd ow = some r ∧ ow = rids E ∧ ROk σ pl E ∧ Rds σ rd ∧ All2 (RV1 P a.tmps w) vs us ∧
      ∀ R', (∀ b, RO cx w σ.bk pl b → R' b) → (∀ i ∈ rd, ∀ b, (pl i).fp b → R' b) → Res w R' rs x us (E.map (·.1))
  | [], [], k, r, h => ⟨(), [], [], [], [], h, rfl, by simp [ROk], by simp [Rds], trivial, fun _ _ _ => trivial⟩
  | [], _ :: _, k, r, h => by cases h
  | _ :: _, [], k, r, h => by cases h
  | rk :: rs, .cell v t :: vs, k, r, h => by
    unfold fins at h
    obtain ⟨x, u, h0, hx, hu⟩ := cellOf_to hT hR h
    exact fins_one hR hx hu (fins_to hT hR rs vs) h0
  | rk :: rs, .tmp v :: vs, k, r, h => by
    unfold fins at h
    split at h
    · rename_i x hl
      exact fins_one hR (v := .tmp v) (hR.slots v _ hl).2 (show RV1 P a.tmps w (.tmp v) _ from rfl) (fins_to hT hR rs vs) h
    · cases h

theorem finU_to {R : Type} (hR : Rel cx σ a w pl) : ∀ (ps : List (PK O)) (j : Nat) (k : upds ps → Option R) (r : R), finU σ j ps k = some r →
    ∃ u, k u = some r ∧ (∀ i ∈ parIds j ps, liveAt σ.bk i) ∧ ∀ R', (∀ b, RO cx w σ.bk pl b → R' b) → Upd w R' ps u ((parIds j ps).map pl)
  | [], j, k, r, h => ⟨(), h, by simp [parIds], fun _ _ => trivial⟩
  | .val _ :: ps, j, k, r, h => by
    obtain ⟨u, h1, h2, h3⟩ := finU_to hR ps (j + 1) _ r h
    exact ⟨((), u), h1, h2, h3⟩
  | .fn _ :: ps, j, k, r, h => by
    obtain ⟨u, h1, h2, h3⟩ := finU_to hR ps (j + 1) _ r h
    exact ⟨((), u), h1, h2, h3⟩
  | .row t :: ps, j, k, r, h => by
    unfold finU at h
    cases hr : rowW t (look σ.bk j) with
    | none => rw [hr] at h; cases h
    | some xs =>
      rw [hr] at h
      have hl := rowW_some hr
      obtain ⟨u, h1, h2, h3⟩ := finU_to hR ps (j + 1) _ r h
      refine ⟨(xs, u), h1, fun i hi => ?_, fun R' hRR => ⟨RowAt_R hRR (row_of hR (.inl hl)).2, h3 R' hRR⟩⟩
      rcases List.mem_cons.1 hi with rfl | hi
      · exact ⟨_, hl, trivial⟩
      · exact h2 i hi
  | .obj kk :: ps, j, k, r, h => by
    unfold finU at h
    split at h
    · rename_i k' y hl
      cases hq : O.deq k' kk with
      | isFalse hne => rw [hq] at h; cases h
      | isTrue heq =>
        rw [hq] at h
        subst heq
        obtain ⟨v', f, g1, g2⟩ := hR.mem.blocks j _ hl
        obtain ⟨u, h1, h2, h3⟩ := finU_to hR ps (j + 1) _ r h
        refine ⟨(y, u), h1, fun i hi => ?_, fun R' hRR => ⟨⟨v', f, g1, g2⟩, h3 R' hRR⟩⟩
        rcases List.mem_cons.1 hi with rfl | hi
        · exact ⟨_, hl, trivial⟩
        · exact h2 i hi
    · cases h
theorem all64_spec : ∀ {l : List Nat}, all64 l = true → ∀ i ∈ l, 64 ≤ i
  | i :: l, h, j, hj => by
    unfold all64 at h
    cases hb : Nat.ble 64 i with
    | false => rw [hb] at h; cases h
    | true =>
      rw [hb] at h
      rcases List.mem_cons.1 hj with rfl | hj
      · exact Nat.le_of_ble_eq_true hb
      · exact all64_spec h j hj

/-! what comes in -/
theorem parIds_ge : ∀ (ps : List (PK O)) (j i : Nat), i ∈ parIds j ps → j ≤ i ∧ i < j + ps.length
  | [], j, i, h => by cases h
  | .val _ :: ps, j, i, h => by
    have := parIds_ge ps (j + 1) i h
    simp only [List.length_cons]; omega
  | .fn _ :: ps, j, i, h => by
    have := parIds_ge ps (j + 1) i h
    simp only [List.length_cons]; omega
  | .row _ :: ps, j, i, h => by
    simp only [List.length_cons]
    rcases List.mem_cons.1 h with rfl | h
    · omega
    · have := parIds_ge ps (j + 1) i h; omega
  | .obj _ :: ps, j, i, h => by
    simp only [List.length_cons]
    rcases List.mem_cons.1 h with rfl | h
    · omega
    · have := parIds_ge ps (j + 1) i h; omega
theorem parIds_nodup : ∀ (ps : List (PK O)) (j : Nat), (parIds j ps).Nodup
  | [], j => List.nodup_nil
  | .val _ :: ps, j => parIds_nodup ps (j + 1)
  | .fn _ :: ps, j => parIds_nodup ps (j + 1)
  | .row _ :: ps, j => List.nodup_cons.2 ⟨fun h => by have := parIds_ge ps (j + 1) j h; omega, parIds_nodup ps (j + 1)⟩
  | .obj _ :: ps, j => List.nodup_cons.2 ⟨fun h => by have := parIds_ge ps (j + 1) j h; omega, parIds_nodup ps (j + 1)⟩
theorem initS_to {R : Nat → Prop} : ∀ (ps : List (PK O)) (x : dens ps) (vs : List Value) (pls : List Pl) (j : Nat), Entry w R ps x vs pls →
    (initS j ps x).2.map (·.1) = parIds j ps ∧ (parIds j ps).length = pls.length ∧ ps.length = vs.length ∧ (∀ i B, (i, B) ∈ (initS j ps x).2 → ∃ p, (i, p) ∈ (parIds j ps).zip pls ∧ BQ w R p B) ∧
    ∀ R' bk' pl', (∀ b, R b → R' b) → (∀ p ∈ (initS j ps x).2, look bk' p.1 = some p.2) → (∀ i p, (i, p) ∈ (parIds j ps).zip pls → pl' i = p) →
      ∀ t s, (t, s) ∈ (initS j ps x).1 → ∃ v, j ≤ t ∧ vs[t - j]? = some v ∧ SR w R' bk' pl' s v
  | [], _, [], [], j, _ => ⟨rfl, rfl, rfl, by simp [initS], by simp [initS]⟩
  | [], _, _ :: _, _, _, h => by cases h
  | [], _, [], _ :: _, _, h => by cases h
  | .val t :: ps, x, [], _, _, h => by cases h
  | .fn t :: ps, x, [], _, _, h => by cases h
  | .row t :: ps, x, [], _, _, h => by cases h
  | .obj k :: ps, x, [], _, _, h => by cases h
  | .row t :: ps, x, _ :: _, [], _, h => by cases h
  | .obj k :: ps, x, _ :: _, [], _, h => by cases h
  | .val t :: ps, x, v :: vs, pls, j, h => by
    obtain ⟨h1, h2, h3, h4, h5⟩ := initS_to ps x.2 vs pls (j + 1) h.2
    refine ⟨h1, h2, by simp [h3], h4, fun R' bk' pl' hR hb hp t' s hs => ?_⟩
    rcases List.mem_cons.1 hs with hs | hs
    · cases hs
      exact ⟨v, Nat.le_refl _, by simp, tOf_TR (TRep_mono hR (fun _ _ => rfl) h.1)⟩
    · obtain ⟨v', g1, g2, g3⟩ := h5 R' bk' pl' hR hb hp t' s hs
      refine ⟨v', by omega, ?_, g3⟩
      rw [show t' - j = (t' - (j + 1)) + 1 by omega]; simpa using g2
  | .fn g :: ps, x, v :: vs, pls, j, h => by
    obtain ⟨h1, h2, h3, h4, h5⟩ := initS_to ps x.2 vs pls (j + 1) h.2
    refine ⟨h1, h2, by simp [h3], h4, fun R' bk' pl' hR hb hp t' s hs => ?_⟩
    rcases List.mem_cons.1 hs with hs | hs
    · cases hs
      exact ⟨v, Nat.le_refl _, by simp, h.1⟩
    · obtain ⟨v', g1, g2, g3⟩ := h5 R' bk' pl' hR hb hp t' s hs
      refine ⟨v', by omega, ?_, g3⟩
      rw [show t' - j = (t' - (j + 1)) + 1 by omega]; simpa using g2
  | .row t :: ps, x, v :: vs, p :: pls, j, h => by
    obtain ⟨h1, h2, h3, h4, h5⟩ := initS_to ps x.2 vs pls (j + 1) h.2
    refine ⟨?_, ?_, by simp [h3], fun i B hi => ?_, fun R' bk' pl' hR hb hp t' s hs => ?_⟩
    · show j :: (initS (j + 1) ps x.2).2.map (·.1) = j :: parIds (j + 1) ps
      rw [h1]
    · show (parIds (j + 1) ps).length + 1 = pls.length + 1
      rw [h2]
    · rcases List.mem_cons.1 hi with hi | hi
      · cases hi
        exact ⟨p, List.mem_cons_self, h.1.1, h.1.2.1⟩
      · obtain ⟨q, g1, g2⟩ := h4 i B hi
        exact ⟨q, List.mem_cons_of_mem _ g1, g2⟩
    · rcases List.mem_cons.1 hs with hs | hs
      · cases hs
        exact ⟨v, Nat.le_refl _, by simp, show CR w R' bk' pl' (.sub j 0 x.1.2) v from sub_single h.1.2.2.2.2 (hb _ List.mem_cons_self) (hp _ _ List.mem_cons_self) h.1.2.2.1 h.1.2.2.2.1⟩
      · obtain ⟨v', g1, g2, g3⟩ := h5 R' bk' pl' hR (fun q hq => hb q (List.mem_cons_of_mem _ hq)) (fun i q hq => hp i q (List.mem_cons_of_mem _ hq)) t' s hs
        refine ⟨v', by omega, ?_, g3⟩
        rw [show t' - j = (t' - (j + 1)) + 1 by omega]; simpa using g2
  | .obj k :: ps, x, v :: vs, p :: pls, j, h => by
    obtain ⟨h1, h2, h3, h4, h5⟩ := initS_to ps x.2 vs pls (j + 1) h.2
    obtain ⟨f, e1, e2⟩ := h.1.1
    refine ⟨?_, ?_, by simp [h3], fun i B hi => ?_, fun R' bk' pl' hR hb hp t' s hs => ?_⟩
    · show j :: (initS (j + 1) ps x.2).2.map (·.1) = j :: parIds (j + 1) ps
      rw [h1]
    · show (parIds (j + 1) ps).length + 1 = pls.length + 1
      rw [h2]
    · rcases List.mem_cons.1 hi with hi | hi
      · cases hi
        exact ⟨p, List.mem_cons_self, v, f, e1, e2⟩
      · obtain ⟨q, g1, g2⟩ := h4 i B hi
        exact ⟨q, List.mem_cons_of_mem _ g1, g2⟩
    · rcases List.mem_cons.1 hs with hs | hs
      · cases hs
        exact ⟨v, Nat.le_refl _, by simp, show CR w R' bk' pl' (.obj j) v from obj_single h.1.2 (hb _ List.mem_cons_self) (hp _ _ List.mem_cons_self) ⟨f, e1⟩⟩
      · obtain ⟨v', g1, g2, g3⟩ := h5 R' bk' pl' hR (fun q hq => hb q (List.mem_cons_of_mem _ hq)) (fun i q hq => hp i q (List.mem_cons_of_mem _ hq)) t' s hs
        refine ⟨v', by omega, ?_, g3⟩
        rw [show t' - j = (t' - (j + 1)) + 1 by omega]; simpa using g2
end
end Go.BB
