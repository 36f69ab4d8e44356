/- A symbolic machine for the model's code, and what it shows of this seat's functions. No conditions. -/
import Derived.Test.YtnofmeckcimodaaFRun
set_option linter.unusedSimpArgs false
set_option linter.unusedVariables false
namespace Go.BB
open Go
section
variable {O : ObjK} {cx : Cx} {σ τ : St O} {a : Act} {w : World} {pl : Nat → Pl} {cfg : Cfg O} {P : Program}

def RV1 (P : Program) (tmps : Array Value) (w : World) (v : ResultVar) (u : Value) : Prop :=
 (match v with | .tmp t => (pure (tmps.getD t undef) : Sem Value) | .cell b t => do loadVar t (← asAddr (tmps.getD b undef))).run P w = .ok u w
theorem results_run {fn : Func} {tmps : Array Value} {us : List Value} (h : All2 (RV1 P tmps w) fn.results.toList us) : (results fn tmps).run P w = .ok (resV us) w := by
 have hm : ∀ (f : ResultVar → Sem Value), (∀ v u, RV1 P tmps w v u → (f v).run P w = .ok u w) → ∀ (vs : List ResultVar) (us : List Value), All2 (RV1 P tmps w) vs us → (vs.mapM f).run P w = .ok us w := by
  intro f hf vs
  induction vs with
  | nil =>
   intro us h
   match us, h with
   | [], _ => rfl
  | cons v vs ih =>
   intro us h
   match us, h with
   | u :: us, h =>
    simp only [List.mapM_cons, Sem.run_bind, hf v u h.1, Result.andThen_ok, ih us h.2, Sem.run_pure]
 have e : fn.results = fn.results.toList.toArray := by simp
 unfold results
 rw [e, List.mapM_toArray]
 simp only [Sem.run_bind, Sem.run_map]
 rw [hm _ ?_ _ _ h]
 ·match us with
  | [] => rfl
  | [t] => rfl
  | t :: t' :: ts => simp [resV]
 ·intro v u hv
  cases v <;> exact hv

theorem RowAt_take {R : Nat → Prop} {p : Pl} {t : Ty} {xs : List t.den} (h : RowAt w R p t xs) (n : Nat) : RowAt w R p t (xs.take n) := by
 cases p with
 | nil => rw [show xs = [] from h]; simp [RowAt]
 | obj v f => exact h.elim
 | «at» b c =>
  obtain ⟨arr, e, h1, h2, h3, h4, h5⟩ := h
  refine ⟨arr, e, h1, h2, by simp; omega, h4, fun j x hj => h5 j x ?_⟩
  rw [List.getElem?_take] at hj
  split at hj
  ·exact hj
  ·cases hj
structure Out1 (cx : Cx) (σ : St O) (w : World) (pl : Nat → Pl) (r : RK O) (x : r.den) (v : Value) (rd ow : List Nat) (E : List REnt) : Prop where
 eow : ow = rids E
 ok : ROk σ pl E
 erd : Rds σ rd
 res : ∀ R', (∀ b, RO cx w σ.bk pl b → R' b) → (∀ i ∈ rd, ∀ b, (pl i).fp b → R' b) → VRel w R' r.sh (r.asSh x) v (E.map (·.1))
theorem fins1_to {R : Type} (hR : Rel cx σ a w pl) {x : T} {v : Value} (hx : TR w (RO cx w σ.bk pl) σ.bk pl x v) : ∀ (rk : RK O) (k : rk.den → List Nat → List Nat → Option R) (r : R), fins.fins1 σ rk x k = some r →
  ∃ y rd ow E, k y rd ow = some r ∧ Out1 cx σ w pl rk y v rd ow E
 | .val t, k, r, h => by
  dsimp only [fins.fins1] at h
  cases hag : beqB (T.isAg x) t.isAgg with
  | false => rw [hag] at h; cases h
  | true =>
   rw [hag] at h
   simp only at h
   obtain ⟨y, rd, h1, h2, h3⟩ := valOf_to hR t _ _ _ h
   exact ⟨y, rd, [], [], h1, rfl, by simp [ROk], h2, fun R' hRR hrd => VRel_val (TRep_of hx (h3 R' hRR hrd) hag)⟩
 | .own t, k, r, h => by
  dsimp only [fins.fins1] at h
  split at h
  ·rename_i i
   cases hr : rowW t (look σ.bk i) with
   | none => rw [hr] at h; cases h
   | some xs =>
    rw [hr] at h
    have hl := rowW_some hr
    obtain ⟨hz, hrow⟩ := row_of hR (.inl hl)
    have ho := own_of hR (.inl hl) hx
    refine ⟨xs, [], [i], [(pl i, some i)], h, rfl, ?_, by simp [Rds], fun R' hRR hrd => ⟨v, pl i, rfl, rfl, hz, RowAt_R hRR hrow, ho, hx.1⟩⟩
    intro e he
    rw [List.mem_singleton.1 he]
    exact ⟨rfl, _, hl, trivial⟩
  ·rename_i i lo n
   obtain _ | lo := lo
   rotate_left
   ·cases h
   cases hr : rowW t (look σ.bk i) with
   | none => rw [hr] at h; cases h
   | some xs =>
    rw [hr] at h
    have hl := rowW_some hr
    obtain ⟨hz, hrow⟩ := row_of hR (.inl hl)
    obtain ⟨ho, hn⟩ := sub_of (cx := cx) (w := w) (.inl hl) hx
    rcases br_some h with ⟨hp, h⟩ | ⟨_, h⟩
    rotate_left
    ·cases h
    have hp : 0 < xs.length := of_decide_eq_true hp
    have hlen : (xs.take n).length = n := by simp; omega
    refine ⟨xs.take n, [], [i], [(pl i, some i)], h, rfl, ?_, by simp [Rds], fun R' hRR hrd => ⟨v, pl i, rfl, rfl, hz, RowAt_R hRR (RowAt_take hrow n), ?_, hx.1⟩⟩
    ·intro e he
     rw [List.mem_singleton.1 he]
     exact ⟨rfl, _, hl, trivial⟩
    ·show ownV (pl i) (xs.take n).length v
     rw [hlen]
     cases hq : pl i with
     | nil => rw [hq] at hrow; rw [show xs = [] from hrow] at hp; cases hp
     | obj v f => rw [hq] at hrow; exact hrow.elim
     | «at» bb cap =>
      rw [hq] at hrow ho
      obtain ⟨arr, e, _, _, g3, _⟩ := hrow
      obtain ⟨ad, q1, _, _, q4⟩ := ho
      rw [q1, q4 (by omega), Nat.zero_mul]
      rfl
  ·cases hz : Nat.blt 0 t.sz with
   | false => rw [hz] at h; cases h
   | true =>
    rw [hz] at h
    have hz' : 0 < t.sz := Nat.le_of_ble_eq_true hz
    have hx' : v = .slice none 0 0 := hx
    subst hx'
    refine ⟨[], [], [], [(.nil, none)], h, rfl, ?_, by simp [Rds], fun R' hRR hrd => ⟨_, .nil, rfl, rfl, hz', rfl, ⟨rfl, rfl⟩, rfl⟩⟩
    intro e he
    rw [List.mem_singleton.1 he]
    exact fun b hb => hb.elim
  ·cases h
 | .sub t, k, r, h => by
  dsimp only [fins.fins1] at h
  split at h
  ·rename_i i lo n
   obtain _ | lo := lo
   rotate_left
   ·cases h
   cases hr : rowW t (look σ.bk i) with
   | none => rw [hr] at h; cases h
   | some xs =>
    rw [hr] at h
    have hl := rowW_some hr
    obtain ⟨hz, hrow⟩ := row_of hR (.inl hl)
    obtain ⟨ho, hn⟩ := sub_of (cx := cx) (w := w) (.inl hl) hx
    refine ⟨(xs, n), [], [i], [(pl i, some i)], h, rfl, ?_, by simp [Rds], fun R' hRR hrd => ⟨v, pl i, rfl, rfl, hz, RowAt_R hRR hrow, ho, (by simpa using hn : n ≤ xs.length), hx.1⟩⟩
    intro e he
    rw [List.mem_singleton.1 he]
    exact ⟨rfl, _, hl, trivial⟩
  ·cases h
 | .obj kk, k, r, h => by
  dsimp only [fins.fins1] at h
  split at h
  ·rename_i c
   obtain ⟨y, rd, ids, E, h1, h2⟩ := packSh_to hR _ _ _ _ _ h
   exact ⟨y, rd, somes ids, E, h1, by rw [h2.eids, somes_map], h2.ok, h2.erd, fun R' hRR hrd => h2.rel R' hRR hrd [v] ⟨hx, trivial⟩⟩
  ·cases h
 | .box b, k, r, h => by
  dsimp only [fins.fins1] at h
  split at h
  ·rename_i c
   obtain ⟨y, rd, ids, E, h1, h2⟩ := packSh_to hR _ _ _ _ _ h
   exact ⟨y, rd, somes ids, E, h1, by rw [h2.eids, somes_map], h2.ok, h2.erd, fun R' hRR hrd => h2.rel R' hRR hrd [v] ⟨hx, trivial⟩⟩
  ·cases h
theorem arrLoad (hR : Rel cx σ a w pl) {i n t e : Nat} {ty : Ty} {ti ei : TI} {xs : List ty.den} {u : Value} (g2 : TIok P t ti) (g3 : P.underlying t = some (.array n e)) (g4 : TIok P e ei) (g5 : ei.ty = some ty)
  (hl : look σ.bk i = some (.row ty xs) ∨ look σ.bk i = some (.fro ty xs)) (hc : CR w (RO cx w σ.bk pl) σ.bk pl (.arr i n) u) (hsz : n * ei.size = ti.size) :
  ∃ (b : Nat) (arr : Array Value), u = .pointer (some ⟨b, 0, none⟩) ∧ (loadVar t ⟨b, 0, none⟩).run P w = .ok (.agg arr.toList.toArray) w ∧ All2 (CR w (RO cx w σ.bk pl) σ.bk pl) (cellsN ty xs 0 n) arr.toList.toArray.toList := by
 have hes := g4.size ty g5
 obtain ⟨hz, hrow⟩ := row_of hR hl
 obtain ⟨q1, b, q2, q3⟩ := arr_of hl hc
 rw [q2] at hrow
 obtain ⟨arr, e', k1, k2, k3, k4, k5⟩ := hrow
 have hall : arr.toList.length = n * ty.sz := by simpa using k2
 have hrep : ∀ j, 0 ≤ j → j < 0 + n → Rep w (RO cx w σ.bk pl) ty (xs.getD j ty.zero) ((arr.toList.drop (j * ty.sz)).take ty.sz) := by
  intro j _ hj
  have hx : xs[j]? = some (xs.getD j ty.zero) := by rw [List.getD_eq_getElem?_getD, List.getElem?_eq_getElem (by omega)]; rfl
  obtain ⟨cs, p1, p2⟩ := k5 j _ hx
  have l1 := Rep_len _ _ _ p1
  have hmul : (j + 1) * ty.sz ≤ n * ty.sz := Nat.mul_le_mul_right _ (by omega)
  rw [Nat.add_mul, Nat.one_mul] at hmul
  have : (arr.toList.drop (j * ty.sz)).take ty.sz = cs := by
   apply List.ext_getElem?
   intro q
   rw [List.getElem?_take]
   split
   ·rename_i hq
    rw [List.getElem?_drop]
    rw [List.getElem?_eq_getElem (by omega : q < cs.length)]
    have := p2 q _ (List.getElem?_eq_getElem (by omega))
    simpa using this
   ·rw [List.getElem?_eq_none (by omega)]
  rw [this]; exact p1
 have hcs := cellsN_CR (bk := σ.bk) (pl := pl) n 0 hrep
 rw [Nat.zero_mul, List.drop_zero, ← hall, List.take_length] at hcs
 have hagg : ti.agg = true := by
  obtain ⟨d, d1, d2⟩ := g2.agg
  rw [g3] at d1
  cases d1
  exact d2
 have hrun := loadVar_run (P := P) (w := w) g2 (ad := ⟨b, 0, none⟩) (vs := arr.toList) (by rw [hall, hes, hsz]) (fun j v hj => by
  rw [add_at, cell_of_row w b _ arr e' (0, 0) k1]
  simpa using hj) (.inl ⟨hagg, rfl⟩)
 exact ⟨b, arr, q3, hrun, by simpa using hcs⟩
theorem cellOf_to {R : Type} {tt : List (Nat × TI)} (hT : TTok P tt) (hR : Rel cx σ a w pl) {v : Tmp} {t : Nat} {k : T → Option R} {r : R} (h : cellOf tt σ t (look σ.sl v) k = some r) :
  ∃ x u, k x = some r ∧ TR w (RO cx w σ.bk pl) σ.bk pl x u ∧ RV1 P a.tmps w (.cell v t) u := by
 unfold cellOf at h
 split at h
 ·rename_i i off hl
  have hv := (hR.slots v _ hl).2
  split at h
  ·rename_i cs hB
   split at h
   ·rename_i ti hti
    cases hb : Nat.ble (Nat.add off ti.size) (clen cs) with
    | false => rw [hb] at h; cases h
    | true =>
     rw [hb, ] at h
     simp only [forceL_eq] at h
     split at h
     ·rename_i x hx
      rw [ctake_eq, cdrop_eq] at hx
      have hle := Nat.le_of_ble_eq_true hb
      rw [clen_eq] at hle
      obtain ⟨_, B', hB', hB2⟩ := hv
      rw [hB] at hB'
      cases hB'
      obtain ⟨b, c, arr, e, h5, h6, h7⟩ := hR.mem.blocks i _ hB
      obtain ⟨b', c', h8, h9⟩ := hB2 ⟨cs, rfl⟩
      rw [h5] at h8
      cases h8
      have h4 := (h7.drop off).take ti.size
      obtain ⟨u, q5, q6⟩ := SR_ofList hx h4
      have hlen : ((arr.toList.drop off).take ti.size).length = ti.size := by
       rw [List.length_take, List.length_drop, ← h7.length]; simp only [Nat.add_eq] at hle; omega
      have hrun := loadVar_run (P := P) (w := w) (hT t ti hti) (ad := (⟨b, 0, none⟩ : Addr).add off) hlen (fun j v hj => by
       rw [add_add]
       rw [List.getElem?_take] at hj
       split at hj
       ·rw [List.getElem?_drop] at hj
        rw [add_at, cell_of_row w b _ arr e (0, 0) h6]
        simpa using hj
       ·simp at hj) q5
      refine ⟨x, u, h, q6, ?_⟩
      show (asAddr (a.tmps.getD v undef) >>= fun ad => loadVar t ad).run P w = _
      rw [h9]
      rw [add_at] at hrun
      simpa [asAddr] using hrun
     ·cases h
   ·cases h
  ·cases h
 ·rename_i i n hl
  have hv := (hR.slots v _ hl).2
  split at h
  ·rename_i ti hti
   split at h
   ·rename_i n' e hs
    cases hb : Nat.beq n n' with
    | false => rw [hb] at h; cases h
    | true =>
     rw [hb] at h
     have := Nat.eq_of_beq_eq_true hb
     subst this
     simp only at h
     split at h
     ·rename_i ei hei
      split at h
      ·rename_i ty hty
       cases hr : rowAs ty (look σ.bk i) with
       | none => rw [hr] at h; cases h
       | some xs =>
        rw [hr] at h
        simp only at h
        cases hq : Nat.beq (Nat.mul n ei.size) ti.size with
        | false => rw [hq] at h; cases h
        | true =>
         rw [hq] at h
         simp only [forceL_eq] at h
         obtain ⟨b, arr, r1, r2, r3⟩ := arrLoad (P := P) hR (hT t ti hti) ((hT t ti hti).arr n e hs) (hT e ei hei) hty (rowAs_some hr) hv (Nat.eq_of_beq_eq_true hq)
         refine ⟨_, _, h, ⟨_, rfl, r3⟩, ?_⟩
         show (asAddr (a.tmps.getD v undef) >>= fun ad => loadVar t ad).run P w = _
         rw [r1]
         simpa [asAddr] using r2
      ·cases h
     ·cases h
   ·cases h
  ·cases h
 ·cases h
theorem fins_one {R : Type} {tt : List (Nat × TI)} (hR : Rel cx σ a w pl) {rk : RK O} {rs : List (RK O)} {vs : List ResultVar} {v : ResultVar} {x : T} {u : Value} (hx : TR w (RO cx w σ.bk pl) σ.bk pl x u) (hu : RV1 P a.tmps w v u)
  {k : rdens (rk :: rs) → List Nat → List Nat → Option R} {r : R}
  (ih : ∀ (k : rdens rs → List Nat → List Nat → Option R) (r : R), fins tt σ rs vs k = some r →
   ∃ (x : rdens rs) (rd ow : List Nat) (E : List REnt) (us : List Value), k x rd ow = some r ∧ ow = rids E ∧ ROk σ pl E ∧ Rds σ rd ∧ All2 (RV1 P a.tmps w) vs us ∧
    ∀ R', (∀ b, RO cx w σ.bk pl b → R' b) → (∀ i ∈ rd, ∀ b, (pl i).fp b → R' b) → Res w R' rs x us (E.map (·.1)))
  (h : (fins.fins1 σ rk x fun a rd ow => fins tt σ rs vs fun as rds ows => k (a, as) (capp rd rds) (capp ow ows)) = some r) :
  ∃ (x : rdens (rk :: rs)) (rd ow : List Nat) (E : List REnt) (us : List Value), k x rd ow = some r ∧ ow = rids E ∧ ROk σ pl E ∧ Rds σ rd ∧ All2 (RV1 P a.tmps w) (v :: vs) us ∧
   ∀ R', (∀ b, RO cx w σ.bk pl b → R' b) → (∀ i ∈ rd, ∀ b, (pl i).fp b → R' b) → Res w R' (rk :: rs) x us (E.map (·.1)) := by
 obtain ⟨y, rd, ow, E, h1, h2⟩ := fins1_to hR hx rk _ r h
 obtain ⟨ys, rds, ows, F, us, h3, h4, h5, h6, h7, h8⟩ := ih _ r h1
 refine ⟨(y, ys), capp rd rds, capp ow ows, E ++ F, u :: us, h3, by rw [capp_eq, rids_append, h2.eow, h4], ?_, h2.erd.append h6, ⟨hu, h7⟩, fun R' hRR hrd => ?_⟩
 ·intro e he
  rcases List.mem_append.1 he with he | he
  ·exact h2.ok e he
  ·exact h5 e he
 ·rw [capp_eq] at hrd
  rw [List.map_append]
  exact ⟨u, us, _, _, rfl, rfl, h2.res R' hRR (fun i hi => hrd i (List.mem_append_left _ hi)), h8 R' hRR (fun i hi => hrd i (List.mem_append_right _ hi))⟩
theorem fins_to {R : Type} {tt : List (Nat × TI)} (hT : TTok P tt) (hR : Rel cx σ a w pl) : ∀ (rs : List (RK O)) (vs : List ResultVar) (k : rdens rs → List Nat → List Nat → Option R) (r : R), fins tt σ rs vs k = some r →
  ∃ (x : rdens rs) (rd ow : List Nat) (E : List REnt) (us : List Value), k x rd ow = some r ∧ ow = rids E ∧ ROk σ pl E ∧ Rds σ rd ∧ All2 (RV1 P a.tmps w) vs us ∧
   ∀ R', (∀ b, RO cx w σ.bk pl b → R' b) → (∀ i ∈ rd, ∀ b, (pl i).fp b → R' b) → Res w R' rs x us (E.map (·.1))
 | [], [], k, r, h => ⟨(), [], [], [], [], h, rfl, by simp [ROk], by simp [Rds], trivial, fun _ _ _ => ⟨rfl, rfl⟩⟩
 | [], _ :: _, k, r, h => by cases h
 | _ :: _, [], k, r, h => by cases h
 | rk :: rs, .cell v t :: vs, k, r, h => by
  unfold fins at h
  obtain ⟨x, u, h0, hx, hu⟩ := cellOf_to hT hR h
  exact fins_one hR hx hu (fins_to hT hR rs vs) h0
 | rk :: rs, .tmp v :: vs, k, r, h => by
  unfold fins at h
  split at h
  ·rename_i x hl
   exact fins_one hR (v := .tmp v) (hR.slots v _ hl).2 (show RV1 P a.tmps w (.tmp v) _ from rfl) (fins_to hT hR rs vs) h
  ·cases h

def Olds (pins : Nat → Option Pl) : Nat → List (PK O) → List Pl → Prop
 | _, [], o => o = []
 | j, .val _ :: ps, o => Olds pins (j + 1) ps o
 | j, .fn _ :: ps, o => Olds pins (j + 1) ps o
 | j, .rop _ :: ps, o => Olds pins (j + 1) ps o
 | j, .row _ :: ps, o => ∃ p o', o = p :: o' ∧ pins j = some p ∧ Olds pins (j + 1) ps o'
 | j, .obj _ :: ps, o => ∃ p o', o = p :: o' ∧ pins j = some p ∧ Olds pins (j + 1) ps o'
 | j, .box b :: ps, o => ∃ p so o', o = p :: (so ++ o') ∧ so.length = b.wid ∧ pins j = some p ∧ Olds pins (j + 1) ps o'
theorem same_at {p : Pl} {b c : Nat} (h : p.same (.at b c)) : p = .at b c := by
 cases p with
 | nil => cases h
 | «at» b' c' => cases h; rfl
 | obj v f => obtain ⟨g, e⟩ := h; cases e
theorem finU_to {R : Type} (hR : Rel cx σ a w pl) : ∀ (ps : List (PK O)) (j : Nat) (old : List Pl) (k : upds ps → List Nat → List Nat → Option R) (r : R), Olds cx.pins j ps old → finU σ j ps k = some r →
  ∃ u rd is F, k u rd is = some r ∧ Rds σ rd ∧ ROk σ pl F ∧ (rids F).Perm (parIds j ps ++ is) ∧
   ∀ R', (∀ b, RO cx w σ.bk pl b → R' b) → (∀ i ∈ rd, ∀ b, (pl i).fp b → R' b) → Upd w R' ps u old (F.map (·.1))
 | [], j, old, k, r, ho, h => ⟨(), [], [], [], h, by simp [Rds], by simp [ROk], .nil, fun _ _ _ => ⟨ho, rfl⟩⟩
 | .val _ :: ps, j, old, k, r, ho, h => by
  obtain ⟨u, rd, is, F, h1, h2, h3, h4, h5⟩ := finU_to hR ps (j + 1) old _ r ho h
  exact ⟨((), u), rd, is, F, h1, h2, h3, h4, fun R' hRR hrd => ⟨[], old, [], F.map (·.1), rfl, rfl, ⟨rfl, rfl⟩, h5 R' hRR hrd⟩⟩
 | .fn _ :: ps, j, old, k, r, ho, h => by
  obtain ⟨u, rd, is, F, h1, h2, h3, h4, h5⟩ := finU_to hR ps (j + 1) old _ r ho h
  exact ⟨((), u), rd, is, F, h1, h2, h3, h4, fun R' hRR hrd => ⟨[], old, [], F.map (·.1), rfl, rfl, ⟨rfl, rfl⟩, h5 R' hRR hrd⟩⟩
 | .rop _ :: ps, j, old, k, r, ho, h => by
  obtain ⟨u, rd, is, F, h1, h2, h3, h4, h5⟩ := finU_to hR ps (j + 1) old _ r ho h
  exact ⟨((), u), rd, is, F, h1, h2, h3, h4, fun R' hRR hrd => ⟨[], old, [], F.map (·.1), rfl, rfl, ⟨rfl, rfl⟩, h5 R' hRR hrd⟩⟩
 | .row t :: ps, j, old, k, r, ho, h => by
  unfold finU at h
  obtain ⟨p, o', rfl, hp, ho⟩ := ho
  cases hr : rowW t (look σ.bk j) with
  | none => rw [hr] at h; cases h
  | some xs =>
   rw [hr] at h
   have hl := rowW_some hr
   obtain ⟨u, rd, is, F, h1, h2, h3, h4, h5⟩ := finU_to hR ps (j + 1) o' _ r ho h
   refine ⟨(xs, u), rd, is, (pl j, some j) :: F, h1, h2, fun e he => ?_, h4.cons j, fun R' hRR hrd => ⟨[p], o', [pl j], F.map (·.1), rfl, rfl, ⟨p, pl j, rfl, rfl, hR.mem.pin j p _ hp hl, RowAt_R hRR (row_of hR (.inl hl)).2⟩, h5 R' hRR hrd⟩⟩
   rcases List.mem_cons.1 he with rfl | he
   ·exact ⟨rfl, _, hl, trivial⟩
   ·exact h3 e he
 | .obj kk :: ps, j, old, k, r, ho, h => by
  unfold finU at h
  obtain ⟨p, o', rfl, hp, ho⟩ := ho
  split at h
  ·rename_i k' y hl
   cases hq : O.deq k' kk with
   | isFalse hne => rw [hq] at h; cases h
   | isTrue heq =>
    rw [hq] at h
    subst heq
    obtain ⟨v', f, g1, g2⟩ := hR.mem.blocks j _ hl
    have hs := hR.mem.pin j p _ hp hl
    rw [g1] at hs
    obtain ⟨u, rd, is, F, h1, h2, h3, h4, h5⟩ := finU_to hR ps (j + 1) o' _ r ho h
    refine ⟨(y, u), rd, is, (pl j, some j) :: F, h1, h2, fun e he => ?_, h4.cons j, fun R' hRR hrd => ⟨[p], o', [pl j], F.map (·.1), rfl, rfl, ⟨p, v', f, rfl, by rw [g1], hs, MapRel_R hRR g2⟩, h5 R' hRR hrd⟩⟩
    rcases List.mem_cons.1 he with rfl | he
    ·exact ⟨rfl, _, hl, trivial⟩
    ·exact h3 e he
  ·cases h
 | .box b :: ps, j, old, k, r, ho, h => by
  unfold finU at h
  obtain ⟨p, so, o', rfl, hso, hp, ho⟩ := ho
  split at h
  ·rename_i cs hl
   obtain ⟨y, rd, ids, E, g0, hP⟩ := packSh_to hR b none cs _ r h
   obtain ⟨bb, c, arr, e, g1, g2, g3⟩ := hR.mem.blocks j _ hl
   have hs := hR.mem.pin j p _ hp hl
   rw [g1] at hs
   have hpe := same_at hs
   subst hpe
   obtain ⟨u, rd', is', F, h1, h2, h3, h4, h5⟩ := finU_to hR ps (j + 1) o' _ r ho g0
   refine ⟨(y, u), capp rd rd', capp (somes ids) is', (pl j, some j) :: (E ++ F), h1, hP.erd.append h2, fun e he => ?_, ?_, fun R' hRR hrd => ?_⟩
   ·rcases List.mem_cons.1 he with rfl | he
    ·exact ⟨rfl, _, hl, trivial⟩
    ·rcases List.mem_append.1 he with he | he
     ·exact hP.ok e he
     ·exact h3 e he
   ·rw [capp_eq, hP.eids, somes_map]
    show (j :: rids (E ++ F)).Perm (j :: (parIds (j + 1) ps ++ (rids E ++ is')))
    rw [rids_append]
    refine .cons j ?_
    refine (List.Perm.append_left _ h4).trans ?_
    rw [← List.append_assoc, ← List.append_assoc]
    exact (List.perm_append_comm).append_right _
   ·rw [capp_eq] at hrd
    refine ⟨.at bb c :: so, o', pl j :: E.map (·.1), F.map (·.1), rfl, by simp, ⟨bb, c, so, E.map (·.1), arr, e, rfl, hso, by rw [g1], g2, hP.rel R' hRR (fun i hi => hrd i (List.mem_append_left _ hi)) _ g3⟩, h5 R' hRR fun i hi => hrd i (List.mem_append_right _ hi)⟩
  ·cases h

def initLs (j nb : Nat) : List (PK O) → List Nat
 | [] => []
 | .val _ :: ps => initLs (j + 1) nb ps
 | .fn _ :: ps => initLs (j + 1) nb ps
 | .rop _ :: ps => initLs (j + 1) nb ps
 | .row _ :: ps => j :: initLs (j + 1) nb ps
 | .obj _ :: ps => j :: initLs (j + 1) nb ps
 | .box b :: ps => j :: (labs nb b.wid ++ initLs (j + 1) (nb + b.wid) ps)
theorem initLs_mem : ∀ {ps : List (PK O)} {j nb l : Nat}, l ∈ initLs j nb ps → (j ≤ l ∧ l < j + ps.length) ∨ (nb ≤ l ∧ l < nb + updN ps)
 | [], j, nb, l, h => by cases h
 | .val _ :: ps, j, nb, l, h => by
  have := initLs_mem (ps := ps) h
  simp only [List.length_cons, updN]; omega
 | .fn _ :: ps, j, nb, l, h => by
  have := initLs_mem (ps := ps) h
  simp only [List.length_cons, updN]; omega
 | .rop _ :: ps, j, nb, l, h => by
  have := initLs_mem (ps := ps) h
  simp only [List.length_cons, updN]; omega
 | .row _ :: ps, j, nb, l, h => by
  simp only [List.length_cons, updN]
  rcases List.mem_cons.1 h with rfl | h
  ·omega
  ·have := initLs_mem (ps := ps) h; omega
 | .obj _ :: ps, j, nb, l, h => by
  simp only [List.length_cons, updN]
  rcases List.mem_cons.1 h with rfl | h
  ·omega
  ·have := initLs_mem (ps := ps) h; omega
 | .box b :: ps, j, nb, l, h => by
  simp only [List.length_cons, updN, Nat.add_eq]
  rcases List.mem_cons.1 h with rfl | h
  ·omega
  ·rcases List.mem_append.1 h with h | h
   ·have := labs_mem.1 h; omega
   ·have := initLs_mem (ps := ps) h; omega
theorem initLs_nodup : ∀ (ps : List (PK O)) (j nb : Nat), j + ps.length ≤ nb → (initLs j nb ps).Nodup
 | [], j, nb, _ => List.nodup_nil
 | .val _ :: ps, j, nb, h => initLs_nodup ps (j + 1) nb (by simp only [List.length_cons] at h; omega)
 | .fn _ :: ps, j, nb, h => initLs_nodup ps (j + 1) nb (by simp only [List.length_cons] at h; omega)
 | .rop _ :: ps, j, nb, h => initLs_nodup ps (j + 1) nb (by simp only [List.length_cons] at h; omega)
 | .row _ :: ps, j, nb, h => by
  simp only [List.length_cons] at h
  exact List.nodup_cons.2 ⟨fun hm => by have := initLs_mem (ps := ps) hm; omega, initLs_nodup ps (j + 1) nb (by omega)⟩
 | .obj _ :: ps, j, nb, h => by
  simp only [List.length_cons] at h
  exact List.nodup_cons.2 ⟨fun hm => by have := initLs_mem (ps := ps) hm; omega, initLs_nodup ps (j + 1) nb (by omega)⟩
 | .box b :: ps, j, nb, h => by
  simp only [List.length_cons] at h
  refine List.nodup_cons.2 ⟨fun hm => ?_, List.nodup_append.2 ⟨labs_nodup _ _, initLs_nodup ps (j + 1) (nb + b.wid) (by omega), fun i hi k hk e => ?_⟩⟩
  ·rcases List.mem_append.1 hm with hm | hm
   ·have := labs_mem.1 hm; omega
   ·have := initLs_mem (ps := ps) hm; omega
  ·subst e
   have h1 := labs_mem.1 hi
   have h2 := initLs_mem (ps := ps) hk
   omega
structure Inits (w : World) (R : Nat → Prop) (j : Nat) (ls : List Nat) (sl : List (Nat × S)) (bs : List (Nat × Blk O)) (vs : List Value) (ps : List Pl) : Prop where
 keys : bs.map (·.1) = ls
 len : ls.length = ps.length
 notfro : ∀ q ∈ bs, ∀ t xs, q.2 ≠ .fro t xs
 good : ∀ R' bk' pl', (∀ b, R b → R' b) → (∀ q ∈ bs, look bk' q.1 = some q.2) → (∀ i p, (i, p) ∈ ls.zip ps → pl' i = p) →
  (∀ t s, (t, s) ∈ sl → ∃ v, j ≤ t ∧ vs[t - j]? = some v ∧ SR w R' bk' pl' s v) ∧ ∀ q ∈ bs, BR w R' bk' pl' q.1 q.2
theorem Inits.cons {R : Nat → Prop} {j : Nat} {ls ls' : List Nat} {s : S} {sl : List (Nat × S)} {bs bs' : List (Nat × Blk O)} {cs : List C} {v : Value} {vs vs1 : List Value} {ps ps' : List Pl} (h : Unpacked w R ls (cs, bs) vs1 ps)
  (hs : ∀ R' (bk' : List (Nat × Blk O)) pl', (∀ b, R b → R' b) → All2 (CR w R' bk' pl') cs vs1 → SR w R' bk' pl' s v) (h' : Inits w R (j + 1) ls' sl bs' vs ps') : Inits w R j (ls ++ ls') ((j, s) :: sl) (bs ++ bs') (v :: vs) (ps ++ ps') := by
 refine ⟨by simp [h.keys, h'.keys], by simp [h.len, h'.len], fun q hq => ?_, fun R' bk' pl' hR hb hp => ?_⟩
 ·rcases List.mem_append.1 hq with hq | hq
  ·exact h.notfro q hq
  ·exact h'.notfro q hq
 ·obtain ⟨g1, g2⟩ := h.good R' bk' pl' hR (fun q hq => hb q (List.mem_append_left _ hq)) (fun i p hm => hp i p (mem_zip_left h.len hm))
  obtain ⟨g3, g4⟩ := h'.good R' bk' pl' hR (fun q hq => hb q (List.mem_append_right _ hq)) (fun i p hm => hp i p (mem_zip_right h.len hm))
  refine ⟨fun t s' hts => ?_, fun q hq => ?_⟩
  ·rcases List.mem_cons.1 hts with hts | hts
   ·cases hts
    exact ⟨v, Nat.le_refl _, by simp, hs R' bk' pl' hR g1⟩
   ·obtain ⟨v', k1, k2, k3⟩ := g3 t s' hts
    refine ⟨v', by omega, ?_, k3⟩
    rw [show t - j = (t - (j + 1)) + 1 by omega]; simpa using k2
  ·rcases List.mem_append.1 hq with hq | hq
   ·exact g2 q hq
   ·exact g4 q hq
theorem Unpacked.nothing {R : Nat → Prop} : Unpacked (O := O) w R [] ([], []) [] [] := .none fun _ _ _ _ => trivial
theorem initS_to {R : Nat → Prop} : ∀ (ps : List (PK O)) (x : dens ps) (vs : List Value) (pls : List Pl) (j nb : Nat), Entry w R ps x vs pls →
  ps.length = vs.length ∧ Inits w R j (initLs j nb ps) (initS j nb ps x).1 (initS j nb ps x).2 vs pls
 | [], _, vs, pls, j, nb, ⟨e1, e2⟩ => by
  subst e1; subst e2
  exact ⟨rfl, rfl, rfl, by simp [initS], fun _ _ _ _ _ _ => ⟨by simp [initS], by simp [initS]⟩⟩
 | .val t :: ps, x, _, _, j, nb, ⟨v, vs, q, pls, e1, e2, h1, h2⟩ => by
  subst e1; subst e2
  obtain ⟨g1, g2⟩ := initS_to ps x.2 vs pls (j + 1) nb h2
  have h1' : TRep w R t x.1 v ∧ q = [] := by
   unfold VRel at h1
   unfold TRep
   change (match t.isAgg with | true => _ | false => _) at h1
   cases ht : t.isAgg with
   | true => rw [ht] at h1; obtain ⟨arr, e, h, hq⟩ := h1; exact ⟨⟨arr, e, h⟩, hq⟩
   | false => rw [ht] at h1; exact ⟨h1.1, h1.2⟩
  obtain ⟨h1', rfl⟩ := h1'
  exact ⟨by simp [g1], .cons .nothing (fun R' bk' pl' hR _ => tOf_TR (TRep_mono hR (fun _ _ => rfl) h1')) g2⟩
 | .fn g :: ps, x, _, _, j, nb, ⟨v, vs, q, pls, e1, e2, h1, h2⟩ => by
  subst e1; subst e2
  obtain ⟨g1, g2⟩ := initS_to ps x.2 vs pls (j + 1) nb h2
  obtain ⟨e3, e4⟩ := h1
  simp only [List.cons.injEq, and_true] at e3
  subst e4
  exact ⟨by simp [g1], .cons .nothing (fun R' bk' pl' hR _ => e3) g2⟩
 | .rop t :: ps, x, _, _, j, nb, ⟨v, vs, q, pls, e1, e2, h1, h2⟩ => by
  subst e1; subst e2
  obtain ⟨g1, g2⟩ := initS_to ps x.2 vs pls (j + 1) nb h2
  have hq : q = [] := by obtain ⟨ad, cs, _, e, _⟩ := h1; exact e
  subst hq
  exact ⟨by simp [g1], .cons (unpackSh_to (.rop t) x.1 nb _ _ h1) (fun R' bk' pl' hR h => h.1) g2⟩
 | .row t :: ps, x, _, _, j, nb, ⟨v, vs, q, pls, e1, e2, h1, h2⟩ => by
  subst e1; subst e2
  obtain ⟨g1, g2⟩ := initS_to ps x.2 vs pls (j + 1) nb h2
  exact ⟨by simp [g1], .cons (unpackP_to (some j) (.sub t) x.1 nb _ _ h1) (fun R' bk' pl' hR h => h.1) g2⟩
 | .obj k :: ps, x, _, _, j, nb, ⟨v, vs, q, pls, e1, e2, h1, h2⟩ => by
  subst e1; subst e2
  obtain ⟨g1, g2⟩ := initS_to ps x.2 vs pls (j + 1) nb h2
  exact ⟨by simp [g1], .cons (unpackP_to (some j) (.map k) x.1 nb _ _ h1) (fun R' bk' pl' hR h => h.1) g2⟩
 | .box b :: ps, x, _, _, j, nb, ⟨v, vs, q, pls, e1, e2, h1, h2⟩ => by
  subst e1; subst e2
  obtain ⟨g1, g2⟩ := initS_to ps x.2 vs pls (j + 1) (nb + b.wid) h2
  have := Inits.cons (j := j) (s := .t (.one (.ptr j 0))) (unpackP_to (some j) (.ptr b) x.1 nb _ _ h1) (fun R' bk' pl' hR h => h.1) g2
  have e : (initS j nb (.box b :: ps) x).2 = (unpackP (O := O) (some j) nb (.ptr b) x.1).2 ++ (initS (j + 1) (nb + b.wid) ps x.2).2 := by
   show _ :: capp _ _ = _
   rw [capp_eq]; rfl
  rw [e]
  exact ⟨by simp [g1], this⟩
theorem Olds_of {R : Nat → Prop} {pins : Nat → Option Pl} : ∀ (ps : List (PK O)) (x : dens ps) (vs : List Value) (pls : List Pl) (j nb : Nat), Entry w R ps x vs pls →
  (∀ i p, (i, p) ∈ (initLs j nb ps).zip pls → i < j + ps.length → pins i = some p) → j + ps.length ≤ nb → Olds pins j ps pls
 | [], _, vs, pls, j, nb, ⟨e1, e2⟩, _, _ => e2
 | .val t :: ps, x, _, _, j, nb, ⟨v, vs, q, pls, e1, e2, h1, h2⟩, hp, hj => by
  subst e1; subst e2
  have hq : q = [] := by
   unfold VRel at h1
   change (match t.isAgg with | true => _ | false => _) at h1
   cases ht : t.isAgg with
   | true => rw [ht] at h1; obtain ⟨arr, e, h, hq⟩ := h1; exact hq
   | false => rw [ht] at h1; exact h1.2
  subst hq
  simp only [List.length_cons] at hp hj
  exact Olds_of ps x.2 vs pls (j + 1) nb h2 (fun i p hm hlt => hp i p hm (by omega)) (by omega)
 | .fn g :: ps, x, _, _, j, nb, ⟨v, vs, q, pls, e1, e2, h1, h2⟩, hp, hj => by
  subst e1; subst e2
  obtain ⟨_, e4⟩ := h1
  subst e4
  simp only [List.length_cons] at hp hj
  exact Olds_of ps x.2 vs pls (j + 1) nb h2 (fun i p hm hlt => hp i p hm (by omega)) (by omega)
 | .rop t :: ps, x, _, _, j, nb, ⟨v, vs, q, pls, e1, e2, h1, h2⟩, hp, hj => by
  subst e1; subst e2
  have hq : q = [] := by obtain ⟨ad, cs, _, e, _⟩ := h1; exact e
  subst hq
  simp only [List.length_cons] at hp hj
  exact Olds_of ps x.2 vs pls (j + 1) nb h2 (fun i p hm hlt => hp i p hm (by omega)) (by omega)
 | .row t :: ps, x, _, _, j, nb, ⟨v, vs, q, pls, e1, e2, h1, h2⟩, hp, hj => by
  subst e1; subst e2
  obtain ⟨v', p, e3, e4, _⟩ := h1
  subst e4
  simp only [List.length_cons] at hp hj
  exact ⟨p, pls, rfl, hp j p List.mem_cons_self (by omega), Olds_of ps x.2 vs pls (j + 1) nb h2 (fun i p hm hlt => hp i p (List.mem_cons_of_mem _ hm) (by omega)) (by omega)⟩
 | .obj k :: ps, x, _, _, j, nb, ⟨v, vs, q, pls, e1, e2, h1, h2⟩, hp, hj => by
  subst e1; subst e2
  obtain ⟨v', f, e3, e4, _⟩ := h1
  subst e4
  simp only [List.length_cons] at hp hj
  exact ⟨_, pls, rfl, hp j _ List.mem_cons_self (by omega), Olds_of ps x.2 vs pls (j + 1) nb h2 (fun i p hm hlt => hp i p (List.mem_cons_of_mem _ hm) (by omega)) (by omega)⟩
 | .box b :: ps, x, _, _, j, nb, ⟨v, vs, q, pls, e1, e2, h1, h2⟩, hp, hj => by
  subst e1; subst e2
  have hlen := (ShRel_len _ _ _ _ h1).2
  obtain ⟨bb, c, arr, e, qs, e3, e4, _⟩ := h1
  subst e4
  have hlen : qs.length = b.wid := by simpa [PK.sh, Sh.wid, Nat.add_eq] using hlen
  simp only [List.length_cons] at hp hj
  refine ⟨.at bb c, qs, pls, rfl, hlen, hp j _ List.mem_cons_self (by omega), Olds_of ps x.2 vs pls (j + 1) (nb + b.wid) h2 (fun i p hm hlt => hp i p (List.mem_cons_of_mem _ ?_) (by omega)) (by omega)⟩
  exact mem_zip_right (by rw [labs_length, hlen]) hm
end
end Go.BB
set_option linter.unusedSimpArgs false
set_option linter.unusedVariables false
namespace Go.BB
open Go
section
variable {O : ObjK} {σ τ : St O} {a : Act} {w : World} {pl : Nat → Pl} {cfg : Cfg O} {P : Program}

theorem valid_of_run (hm : P.follows .mixedOrders = true) {g : Nat} {f : Func} {c : Code} (hf : P.funcs[g]? = some f) (hname : (f.name == "runtime.NumGoroutine") = false) (hb : f.body = some c)
  (hT : TTok P cfg.tt) (hΓ : Γok P cfg.Γ) {tms : List Tm} {ct : Ctr O}
  (hps : ct.ins.length ≤ 61) (hpn : ct.ins.length ≤ f.ntmps) (hk : ∀ x r u, ct.F x = some (r, u) → Kept ct.ins x u)
  (hrun : ∀ x r u, ct.F x = some (r, u) → ∃ K, runF cfg K f tms ct.ins ct.outs x = some (r, u)) : Valid P g ct := by
 refine ⟨⟨f, hf, hname, by rw [hb]; rfl⟩, fun w R args pls x r u hF hB => ?_⟩
 obtain ⟨K, h⟩ := hrun x r u hF
 unfold runF at h
 rw [hb] at h
 simp only at h
 rw [St.force_eq] at h
 obtain ⟨i3, hI⟩ := initS_to ct.ins x args.toList pls 0 64 hB.entry
 have hkn : (initLs 0 64 ct.ins).Nodup := initLs_nodup ct.ins 0 64 (by omega)
 let Z := (initLs 0 64 ct.ins).zip pls
 have hZk : Z.map (·.1) = initLs 0 64 ct.ins := keys_zip hI.len
 let pl0 : Nat → Pl := fun j => (look Z j).getD .nil
 have plZ : ∀ i p, (i, p) ∈ Z → pl0 i = p := fun i p h => by
  have := look_of_mem (l := Z) (by rw [hZk]; exact hkn) h
  simp only [pl0, this, Option.getD_some]
 let pins : Nat → Option Pl := fun i => if i < 61 then look Z i else none
 have hpl : ∀ i p, pins i = some p → i < 61 := fun i p h => by
  simp only [pins] at h
  split at h
  ·assumption
  ·cases h
 have hpinZ : ∀ i p, pins i = some p → (i, p) ∈ Z := fun i p h => by
  simp only [pins] at h
  split at h
  ·exact look_mem h
  ·cases h
 have holds : Olds pins 0 ct.ins pls := Olds_of ct.ins x args.toList pls 0 64 hB.entry (fun i p hm hlt => by
  simp only [pins]
  rw [if_pos (by omega)]
  exact look_of_mem (by rw [hZk]; exact hkn) hm) (by omega)
 let cx : Cx := { N := f.ntmps, w0 := w, R0 := R, WR := fun b => ∃ p ∈ pls, p.fp b, pins := pins, priv := fun _ => none, hard := fun _ => False, pinlt := fun i p h => .inl (by have := hpl i p h; omega) }
 have hsz : args.size = ct.ins.length := by rw [i3]; simp
 let a0 : Act := { tmps := args ++ Array.replicate (f.ntmps - args.size) undef, defers := [] }
 let bk0 := (initSt ct.ins x).bk
 have hbk : ∀ p ∈ (initS 0 64 ct.ins x).2, look bk0 p.1 = some p.2 := fun p hp => look_of_mem (l := (initS 0 64 ct.ins x).2) (by rw [hI.keys]; exact hkn) hp
 have hplace : ∀ i, (∃ B, look bk0 i = some B) → ∃ p, (i, p) ∈ Z ∧ pl0 i = p ∧ p ∈ pls := by
  rintro i ⟨B, hB'⟩
  have h1 : i ∈ (initS 0 64 ct.ins x).2.map (·.1) := look_keys hB'
  rw [hI.keys, ← hZk] at h1
  obtain ⟨p, hp⟩ := look_mem_keys h1
  have hp' := look_mem hp
  exact ⟨p, hp', plZ i p hp', (List.of_mem_zip hp').2⟩
 have hRO0 : ∀ b, R b → RO cx w bk0 pl0 b := by
  intro b hb
  refine ⟨.inl hb, hB.read b hb, fun i hi hbi => ?_, rfl⟩
  obtain ⟨B, hB', _⟩ := hi
  obtain ⟨p, _, e, hp⟩ := hplace i ⟨B, hB'⟩
  rw [e] at hbi
  exact (hB.bound p hp b hbi).2 hb
 obtain ⟨i5, i4⟩ := hI.good (RO cx w bk0 pl0) bk0 pl0 hRO0 hbk (fun i p hp => plZ i p hp)
 have hM0 : Mem cx w bk0 pl0 := by
  refine ⟨fun i B hi => i4 (i, B) (look_mem hi), ?_, ?_, Ext.refl _ _, ?_, ?_, fun _ _ _ _ => rfl, (fun b o h => by cases h), (fun i h => h.elim), (fun b o h => by cases h)⟩
  ·rintro i j ⟨B, hB1, _⟩ ⟨B', hB2, _⟩ hij b hb hb'
   obtain ⟨p, hp, e, _⟩ := hplace i ⟨B, hB1⟩
   obtain ⟨q, hq, e', _⟩ := hplace j ⟨B', hB2⟩
   rw [e] at hb
   rw [e'] at hb'
   exact Disj_zip hB.disj hkn hp hq hij b hb hb'
  ·rintro i ⟨B, hB1, _⟩ b hb
   obtain ⟨p, hp, e, hpp⟩ := hplace i ⟨B, hB1⟩
   rw [e] at hb
   exact ⟨(hB.bound p hpp b hb).1, .inl ⟨p, hpp, hb⟩⟩
  ·intro i t xs hi
   exact absurd rfl (hI.notfro _ (look_mem hi) t xs)
  ·intro i p B hp hi
   rw [plZ i p (hpinZ i p hp)]
   exact Pl.same_refl _
 have hgetD : ∀ t v, args.toList[t]? = some v → t < a0.tmps.size ∧ a0.tmps.getD t undef = v := by
  intro t v ht
  have hlt : t < args.size := by
   have := (List.getElem?_eq_some_iff.1 ht).1
   simpa using this
  have h1 : a0.tmps.size = args.size + (f.ntmps - args.size) := by simp [a0]
  refine ⟨by omega, ?_⟩
  rw [Array.getD_eq_getD_getElem?]
  show ((args ++ Array.replicate (f.ntmps - args.size) undef)[t]?).getD undef = v
  rw [Array.getElem?_append, if_pos hlt]
  have : args[t]? = some v := by simpa using ht
  rw [this]; rfl
 have hRel0 : Rel cx (initSt ct.ins x) a0 w pl0 := by
  refine ⟨hM0, fun t s hs => ?_, rfl, ?_⟩
  ·obtain ⟨v, _, h2, h3⟩ := i5 t s (look_mem hs)
   obtain ⟨h4, h5⟩ := hgetD t v (by simpa using h2)
   exact ⟨h4, by rw [h5]; exact h3⟩
  ·show (args ++ Array.replicate (f.ntmps - args.size) undef).size = f.ntmps
   simp
   omega
 refine calls_of_wp hf hb ?_
 refine run_wp (cfg := { cfg with N := f.ntmps }) (cx := cx) hm hT hΓ rfl (fun i h => h) hpl c _ (Nat.add 64 (updN ct.ins)) _ _ _ _ (r, u) _ h ?_ a0 w pl0 hRel0
 have fin : ∀ σ', finish cfg.tt ct.ins ct.outs f.results.toList σ' = some (r, u) → ∀ a' w' pl', Rel cx σ' a' w' pl' →
   a'.defers = [] ∧ ∃ v, (results f a'.tmps).run P w' = .ok v w' ∧ ∃ vs pls' rpl, Ending.returned v = .returned (resV vs) ∧ After w w' R ct.ins ct.outs x r u vs pls pls' rpl := by
  intro σ0 h a' w' pl0' hR0'
  unfold finish at h
  rw [St.force_eq] at h
  obtain ⟨pl', hR'⟩ := close_rel hR0'
  generalize σ0.close = σ' at h hR'
  refine ⟨hR'.defers, ?_⟩
  unfold finish0 at h
  obtain ⟨y, rd, ow, E, ts', h1, h2, h3, h4, h5, h6⟩ := fins_to hT hR' _ _ _ _ h
  obtain ⟨u', rd', is, F, h7, f1, f2, f3, f4⟩ := finU_to hR' _ _ pls _ _ holds h1
  cases hn : nodupN (capp ow (capp (parIds 0 ct.ins) is)) with
  | false => rw [hn] at h7; cases h7
  | true =>
  rw [hn] at h7
  simp only at h7
  cases hd : disjN (capp rd rd') (capp ow (capp (parIds 0 ct.ins) is)) with
  | false => rw [hd] at h7; cases h7
  | true =>
  rw [hd] at h7
  simp only [Option.some.injEq, Prod.mk.injEq] at h7
  obtain ⟨rfl, rfl⟩ := h7
  have hn := nodupN_iff hn
  have hd := disjN_iff hd
  simp only [capp_eq] at hn hd
  obtain ⟨n1, n2, n3⟩ := List.nodup_append.1 hn
  let pls' := F.map (·.1)
  let rpl := E.map (·.1)
  have hFok : ROk σ' pl' (F ++ E) := by
   intro e he
   rcases List.mem_append.1 he with he | he
   ·exact f2 e he
   ·exact h3 e he
  have hFn : (rids (F ++ E)).Nodup := by
   rw [rids_append, ← h2]
   exact List.nodup_append.2 ⟨f3.nodup_iff.2 n2, n1, fun i hi j hj e => n3 j hj i (f3.mem_iff.1 hi) e.symm⟩
  have hplace' : ∀ p ∈ pls' ++ rpl, ∀ b, p.fp b → ∃ i, p = pl' i ∧ liveAt σ'.bk i ∧ i ∈ ow ++ (parIds 0 ct.ins ++ is) := by
   intro p hp b hb
   rw [← List.map_append] at hp
   obtain ⟨e, he, rfl⟩ := List.mem_map.1 hp
   replace hb : e.1.fp b := hb
   have h7 := hFok e he
   cases h8 : e.2 with
   | none => rw [h8] at h7; exact (h7 b hb).elim
   | some i =>
    rw [h8] at h7
    refine ⟨i, h7.1, h7.2, ?_⟩
    have : i ∈ rids (F ++ E) := List.mem_filterMap.2 ⟨e, he, h8⟩
    rw [rids_append, ← h2] at this
    rcases List.mem_append.1 this with h | h
    ·exact List.mem_append_right _ (f3.mem_iff.1 h)
    ·exact List.mem_append_left _ h
  have hRR : ∀ b, RO cx w' σ'.bk pl' b → R' w w' R pls (pls' ++ rpl) b := by
   rintro b ⟨k1, k2, k3, _⟩
   refine ⟨k1, k2, fun p hp hb => ?_⟩
   obtain ⟨i, rfl, hl, _⟩ := hplace' p hp b hb
   exact k3 i hl hb
  have hrd0 : ∀ rd : List Nat, Rds σ' rd → (∀ i, i ∈ rd → i ∉ ow ++ (parIds 0 ct.ins ++ is)) → ∀ i ∈ rd, ∀ b, (pl' i).fp b → R' w w' R pls (pls' ++ rpl) b := by
   intro rd hrds hd i hi b hb
   obtain ⟨t, xs, hl | hl⟩ := hrds i hi
   ·have hlv : liveAt σ'.bk i := ⟨_, hl, trivial⟩
    obtain ⟨k1, k2⟩ := hR'.mem.bound i hlv b hb
    refine ⟨.inr k2, k1, fun p hp hpb => ?_⟩
    obtain ⟨j, rfl, hlj, hj⟩ := hplace' p hp b hpb
    exact hR'.mem.disj i j hlv hlj (fun e => hd i hi (e ▸ hj)) b hb hpb
   ·exact hRR b (hR'.mem.frozen i t xs hl b hb)
  have hvs := h6 (R' w w' R pls (pls' ++ rpl)) hRR (hrd0 rd h4 fun i hi => hd i (List.mem_append_left _ hi))
  have hups := f4 (R' w w' R pls (pls' ++ rpl)) hRR (hrd0 rd' f1 fun i hi => hd i (List.mem_append_right _ hi))
  refine ⟨_, results_run h5, _, pls', rpl, rfl, ?_, ?_, ?_, ?_, hups, hk x _ _ hF, hvs⟩
  ·exact hR'.mem.ext.mono fun b hb hk' hi => by
    obtain ⟨p, k1, k2⟩ := hi
    exact hk' p k1 k2
  ·have := Disj_E hR' hFok hFn
   rw [List.map_append] at this
   exact this
  ·intro p hp b hb
   obtain ⟨i, rfl, hl, _⟩ := hplace' p hp b hb
   exact (hR'.mem.bound i hl b hb).1
  ·intro p hp b hb
   obtain ⟨i, rfl, hl, _⟩ := hplace' p hp b hb
   exact (hR'.mem.bound i hl b hb).2
 exact ⟨fun nx σ' h' a' w' pl' hR' => fin σ' h' a' w' pl' hR', (fun i nx σ' h' => by cases h'), fun σ' h' a' w' pl' hR' => fin σ' h' a' w' pl' hR'⟩
end
end Go.BB
