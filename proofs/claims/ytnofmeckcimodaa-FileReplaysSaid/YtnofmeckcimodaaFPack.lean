/- A symbolic machine for the model's code, and what it shows of this seat's functions. No conditions. -/
import Derived.Test.YtnofmeckcimodaaFReg3
set_option linter.unusedSimpArgs false
set_option linter.unusedVariables false
namespace Go.BB
open Go
section
variable {O : ObjK} {cx : Cx} {σ τ : St O} {a : Act} {w : World} {pl : Nat → Pl} {cfg : Cfg O} {P : Program}
theorem valOf_to {R : Type} (hR : Rel cx σ a w pl) : ∀ (t : Ty) (cs : List C) (k : t.den → List Nat → Option R) (r : R), valOf σ t cs k = some r →
  ∃ x rd, k x rd = some r ∧ Rds σ rd ∧ ∀ R', (∀ b, RO cx w σ.bk pl b → R' b) → (∀ i ∈ rd, ∀ b, (pl i).fp b → R' b) → ∀ vs, All2 (CR w (RO cx w σ.bk pl) σ.bk pl) cs vs → Rep w R' t x vs
 | .int kd, cs, k, r, h => by
  unfold valOf at h
  split at h
  ·split at h
   ·rename_i k' n e
    subst e
    refine ⟨n, [], h, by simp [Rds], fun R' _ _ vs hv => ?_⟩
    match vs, hv with
    | [v], hv => rw [show v = _ from hv.1]; rfl
   ·cases h
  ·cases h
 | .bool, cs, k, r, h => by
  unfold valOf at h
  split at h
  ·rename_i b
   refine ⟨b, [], h, by simp [Rds], fun R' _ _ vs hv => ?_⟩
   match vs, hv with
   | [v], hv => rw [show v = _ from hv.1]; rfl
  ·cases h
 | .str, cs, k, r, h => by
  unfold valOf at h
  split at h
  ·rename_i b
   refine ⟨b, [], h, by simp [Rds], fun R' _ _ vs hv => ?_⟩
   match vs, hv with
   | [v], hv => rw [show v = _ from hv.1]; rfl
  ·cases h
 | .unit, cs, k, r, h => by
  unfold valOf at h
  split at h
  ·refine ⟨(), [], h, by simp [Rds], fun R' _ _ vs hv => ?_⟩
   match vs, hv with
   | [], hv => rfl
  ·cases h
 | .pair t u, cs, k, r, h => by
  unfold valOf at h
  obtain ⟨x, f, h1, h2, h3⟩ := valOf_to hR t _ _ _ h
  obtain ⟨y, g, h4, h5, h6⟩ := valOf_to hR u _ _ _ h1
  refine ⟨(x, y), capp f g, h4, h2.append h5, fun R' hRR hrd vs hv => ?_⟩
  rw [capp_eq] at hrd
  rw [ctake_eq] at h3
  rw [cdrop_eq] at h6
  exact ⟨vs.take t.sz, vs.drop t.sz, (List.take_append_drop _ _).symm, h3 R' hRR (fun i hi => hrd i (List.mem_append_left _ hi)) _ (hv.take _), h6 R' hRR (fun i hi => hrd i (List.mem_append_right _ hi)) _ (hv.drop _)⟩
 | .slice t, cs, k, r, h => by
  unfold valOf at h
  split at h
  ·rename_i t' xs
   cases hc : castL t ⟨t', xs⟩ with
   | none => rw [hc] at h; cases h
   | some ys =>
    rw [hc] at h
    have := castL_some hc
    cases this
    refine ⟨_, [], h, by simp [Rds], fun R' hRR _ vs hv => ?_⟩
    match vs, hv with
    | [v], hv => exact Rep_mono hRR (fun _ _ => rfl) _ _ _ hv.1
  ·rename_i i
   cases hc : rowAs t (look σ.bk i) with
   | none => rw [hc] at h; cases h
   | some xs =>
    rw [hc] at h
    have hl := rowAs_some hc
    obtain ⟨hz, hrow⟩ := row_of hR hl
    refine ⟨xs, [i], h, fun j hj => ?_, fun R' hRR hrd vs hv => ?_⟩
    ·rw [List.mem_singleton.1 hj]; exact ⟨t, xs, hl⟩
    ·match vs, hv with
     | [v], hv => exact rep_own hz hrow (own_of hR hl hv.1) hRR (fun b hb => hrd i List.mem_cons_self b hb)
  ·rename_i i lo n
   cases hc : rowAs t (look σ.bk i) with
   | none => rw [hc] at h; cases h
   | some xs =>
    rw [hc] at h
    have hl := rowAs_some hc
    obtain ⟨hz, hrow⟩ := row_of hR hl
    refine ⟨_, [i], h, fun j hj => ?_, fun R' hRR hrd vs hv => ?_⟩
    ·rw [List.mem_singleton.1 hj]; exact ⟨t, xs, hl⟩
    ·match vs, hv with
     | [v], hv =>
      obtain ⟨hs, hn⟩ := sub_of hl hv.1
      exact rep_sub hz hrow hs hn hRR (fun b hb => hrd i List.mem_cons_self b hb)
  ·refine ⟨[], [], h, by simp [Rds], fun R' _ _ vs hv => ?_⟩
   match vs, hv with
   | [v], hv =>
    rw [show v = _ from hv.1]
    exact ⟨none, 0, rfl, by simp, fun h => by simp at h⟩
  ·cases h
theorem somes_map : ∀ (E : List REnt), somes (E.map (·.2)) = rids E
 | [] => rfl
 | (p, none) :: E => by
  show somes (E.map (·.2)) = _
  rw [somes_map E]; simp [rids]
 | (p, some i) :: E => by
  show i :: somes (E.map (·.2)) = _
  rw [somes_map E]; simp [rids]
theorem somes_append : ∀ (xs ys : List (Option Nat)), somes (xs ++ ys) = somes xs ++ somes ys
 | [], _ => rfl
 | none :: xs, ys => somes_append xs ys
 | some i :: xs, ys => by show i :: somes (xs ++ ys) = _; rw [somes_append]; rfl
structure Packed (cx : Cx) (σ : St O) (w : World) (pl : Nat → Pl) (pin : Option Nat) (sh : Sh) (cs : List C) (x : sh.den) (rd : List Nat) (ids : List (Option Nat)) (E : List REnt) : Prop where
 eids : ids = E.map (·.2)
 ok : ROk σ pl E
 erd : Rds σ rd
 rel : ∀ R', (∀ b, RO cx w σ.bk pl b → R' b) → (∀ i ∈ rd, ∀ b, (pl i).fp b → R' b) → ∀ vs, All2 (CR w (RO cx w σ.bk pl) σ.bk pl) cs vs → ShRel w R' sh x vs (E.map (·.1))
 top : ∀ j, pin = some j → sh.pinned = true → j < 64 ∧ ∃ p E', E = (p, some j) :: E'
theorem labOk_pin {pin : Option Nat} {i : Nat} (h : labOk pin i = true) : ∀ j, pin = some j → i = j ∧ j < 64 := by
 rintro j rfl
 dsimp only [labOk] at h
 cases hb : Nat.beq i j with
 | false => rw [hb] at h; cases h
 | true => rw [hb] at h; exact ⟨Nat.eq_of_beq_eq_true hb, Nat.le_of_ble_eq_true h⟩
theorem packSh_to {R : Type} (hR : Rel cx σ a w pl) : ∀ (sh : Sh) (pin : Option Nat) (cs : List C) (k : sh.den → List Nat → List (Option Nat) → Option R) (r : R), packSh σ pin sh cs k = some r →
  ∃ x rd ids E, k x rd ids = some r ∧ Packed cx σ w pl pin sh cs x rd ids E
 | .val t, pin, cs, k, r, h => by
  dsimp only [packSh] at h
  obtain ⟨y, rd, h1, h2, h3⟩ := valOf_to hR t _ _ _ h
  exact ⟨y, rd, [], [], h1, rfl, by simp [ROk], h2, fun R' hRR hrd vs hv => ⟨h3 R' hRR hrd vs hv, rfl⟩, fun _ _ h => by cases h⟩
 | .fn g, pin, cs, k, r, h => by
  dsimp only [packSh] at h
  split at h
  ·rename_i v
   cases hf : codeOf v with
   | none => rw [hf] at h; cases h
   | some g' =>
    rw [hf] at h
    simp only at h
    split at h
    ·rename_i hb
     have hg := Nat.eq_of_beq_eq_true hb
     subst hg
     have := codeOf_some hf
     subst this
     refine ⟨(), [], [], [], h, rfl, by simp [ROk], by simp [Rds], fun R' _ _ vs hv => ?_, fun _ _ h => by cases h⟩
     match vs, hv with
     | [u], hv => exact ⟨by rw [show u = _ from hv.1], rfl⟩
    ·cases h
  ·cases h
 | .rop ty, pin, cs, k, r, h => by
  dsimp only [packSh] at h
  split at h
  ·rename_i t' x off
   obtain _ | off := off
   rotate_left
   ·cases h
   simp only at h
   cases hc : castV ty ⟨t', x⟩ with
   | none => rw [hc] at h; cases h
   | some y =>
    rw [hc] at h
    have := castV_some hc
    cases this
    refine ⟨_, [], [], [], h, rfl, by simp [ROk], by simp [Rds], fun R' hRR _ vs hv => ?_, fun _ _ h => by cases h⟩
    match vs, hv with
    | [u], hv =>
     obtain ⟨ad, cs, h1, h2, h3, h4⟩ := hv.1
     have h4' : u = .pointer (some ad) := by rw [h4]; simp [Addr.add]
     exact ⟨ad, cs, by rw [h4'], rfl, hRR _ h2, Rep_mono hRR (fun _ _ => rfl) _ _ _ h1, h3⟩
  ·cases h
 | .nil, pin, cs, k, r, h => by
  dsimp only [packSh] at h
  split at h
  ·refine ⟨(), [], [], [], h, rfl, by simp [ROk], by simp [Rds], fun R' _ _ vs hv => ?_, fun _ _ h => by cases h⟩
   match vs, hv with
   | [u], hv => exact ⟨by rw [show u = _ from hv.1], rfl⟩
  ·cases h
 | .own t, pin, cs, k, r, h => by
  dsimp only [packSh] at h
  split at h
  ·rename_i i
   cases hb : labOk pin i with
   | false => rw [hb] at h; cases h
   | true =>
    rw [hb] at h
    simp only at h
    cases hr : rowW t (look σ.bk i) with
    | none => rw [hr] at h; cases h
    | some xs =>
     rw [hr] at h
     have hl := rowW_some hr
     obtain ⟨hz, hrow⟩ := row_of hR (.inl hl)
     refine ⟨xs, [], [some i], [(pl i, some i)], h, rfl, ?_, by simp [Rds], fun R' hRR hrd vs hv => ?_, fun _ _ h => by cases h⟩
     ·intro e he
      rw [List.mem_singleton.1 he]
      exact ⟨rfl, _, hl, trivial⟩
     ·match vs, hv with
      | [u], hv => exact ⟨u, pl i, rfl, rfl, hz, RowAt_R hRR hrow, own_of hR (.inl hl) hv.1, hv.1.1⟩
  ·cases pin with
   | some j => cases h
   | none =>
    simp only at h
    cases hz : Nat.blt 0 t.sz with
    | false => rw [hz] at h; cases h
    | true =>
     rw [hz] at h
     have hz' : 0 < t.sz := Nat.le_of_ble_eq_true hz
     refine ⟨[], [], [none], [(.nil, none)], h, rfl, ?_, by simp [Rds], fun R' hRR hrd vs hv => ?_, fun _ _ h => by cases h⟩
     ·intro e he
      rw [List.mem_singleton.1 he]
      exact fun b hb => hb.elim
     ·match vs, hv with
      | [u], hv =>
       have : u = .slice none 0 0 := hv.1
       subst this
       exact ⟨_, .nil, rfl, rfl, hz', rfl, ⟨rfl, rfl⟩, rfl⟩
  ·cases h
 | .sub t, pin, cs, k, r, h => by
  dsimp only [packSh] at h
  split at h
  ·rename_i i lo n
   obtain _ | lo := lo
   rotate_left
   ·cases h
   cases hb : labOk pin i with
   | false => rw [hb] at h; cases h
   | true =>
    rw [hb] at h
    simp only at h
    cases hr : rowW t (look σ.bk i) with
    | none => rw [hr] at h; cases h
    | some xs =>
     rw [hr] at h
     have hl := rowW_some hr
     obtain ⟨hz, hrow⟩ := row_of hR (.inl hl)
     refine ⟨(xs, n), [], [some i], [(pl i, some i)], h, rfl, ?_, by simp [Rds], fun R' hRR hrd vs hv => ?_, fun j hj _ => ⟨(labOk_pin hb j hj).2, pl i, _, by rw [(labOk_pin hb j hj).1]⟩⟩
     ·intro e he
      rw [List.mem_singleton.1 he]
      exact ⟨rfl, _, hl, trivial⟩
     ·match vs, hv with
      | [u], hv =>
       obtain ⟨ho, hn⟩ := sub_of (cx := cx) (w := w) (.inl hl) hv.1
       exact ⟨u, pl i, rfl, rfl, hz, RowAt_R hRR hrow, ho, by simpa using hn, hv.1.1⟩
  ·rename_i i
   cases hb : labOk pin i with
   | false => rw [hb] at h; cases h
   | true =>
    rw [hb] at h
    simp only at h
    cases hr : rowW t (look σ.bk i) with
    | none => rw [hr] at h; cases h
    | some xs =>
     rw [hr] at h
     have hl := rowW_some hr
     obtain ⟨hz, hrow⟩ := row_of hR (.inl hl)
     refine ⟨(xs, xs.length), [], [some i], [(pl i, some i)], h, rfl, ?_, by simp [Rds], fun R' hRR hrd vs hv => ?_, fun j hj _ => ⟨(labOk_pin hb j hj).2, pl i, _, by rw [(labOk_pin hb j hj).1]⟩⟩
     ·intro e he
      rw [List.mem_singleton.1 he]
      exact ⟨rfl, _, hl, trivial⟩
     ·match vs, hv with
      | [u], hv =>
       have hov := own_of hR (.inl hl) hv.1
       refine ⟨u, pl i, rfl, rfl, hz, RowAt_R hRR hrow, ?_, Nat.le_refl _, hv.1.1⟩
       cases hp : pl i with
       | nil => rw [hp] at hov; exact ⟨hov.1, rfl, hov.2⟩
       | obj v f => rw [hp] at hov; exact hov.elim
       | «at» b cap =>
        rw [hp] at hov hrow
        obtain ⟨arr, e', g1, g2, g3, g4, g5⟩ := hrow
        exact ⟨⟨b, 0, none⟩, hov, by simpa using g3, rfl, fun _ => by simp⟩
  ·cases h
 | .map kk, pin, cs, k, r, h => by
  dsimp only [packSh] at h
  split at h
  ·rename_i i
   cases hb : labOk pin i with
   | false => rw [hb] at h; cases h
   | true =>
    rw [hb] at h
    simp only at h
    split at h
    ·rename_i k' y hl
     cases hq : O.deq k' kk with
     | isFalse hne => rw [hq] at h; cases h
     | isTrue heq =>
      rw [hq] at h
      subst heq
      obtain ⟨v', f, g1, g2⟩ := hR.mem.blocks i _ hl
      refine ⟨y, [], [some i], [(pl i, some i)], h, rfl, ?_, by simp [Rds], fun R' hRR hrd vs hv => ?_, fun j hj _ => ⟨(labOk_pin hb j hj).2, pl i, _, by rw [(labOk_pin hb j hj).1]⟩⟩
      ·intro e he
       rw [List.mem_singleton.1 he]
       exact ⟨rfl, _, hl, trivial⟩
      ·match vs, hv with
       | [u], hv =>
        obtain ⟨g3, B', g4, g5⟩ := hv.1
        rw [hl] at g4
        cases g4
        obtain ⟨f', g6⟩ := g5 rfl
        rw [g1] at g6
        cases g6
        exact ⟨v', f, rfl, by simp [g1], MapRel_R hRR g2⟩
    ·cases h
  ·cases pin with
   | some j => cases h
   | none =>
    simp only at h
    cases kk with
    | map _ _ => cases h
    | mapS _ _ => cases h
    | deep ta tb te tc =>
     simp only at h
     cases hz : Nat.blt 0 te.sz with
     | false => rw [hz] at h; cases h
     | true =>
      rw [hz] at h
      have hz' : 0 < te.sz := Nat.le_of_ble_eq_true hz
      refine ⟨([] : List (dT ta tb te tc).den), [], [none], [(.obj (.slice none 0 0) (fun _ => False), none)], h, rfl, ?_, by simp [Rds], fun R' hRR hrd vs hv => ?_, fun _ hj => by cases hj⟩
      ·intro e he
       rw [List.mem_singleton.1 he]
       exact fun b hb => hb.elim
      ·match vs, hv with
       | [u], hv =>
        have : u = .slice none 0 0 := hv.1
        subst this
        exact ⟨_, _, rfl, rfl, hz', .nil, [], rfl, ⟨rfl, rfl⟩, rfl, fun x => by simp [Pl.fp], ⟨(fun q hq => by cases hq), trivial⟩⟩
  ·cases h
 | .arrp n t, pin, cs, k, r, h => by
  dsimp only [packSh] at h
  split at h
  ·rename_i i m
   cases hb : labOk pin i with
   | false => rw [hb] at h; cases h
   | true =>
    rw [hb] at h
    simp only at h
    cases hnm : Nat.beq n m with
    | false => rw [hnm] at h; cases h
    | true =>
    rw [hnm] at h
    simp only at h
    have := Nat.eq_of_beq_eq_true hnm
    subst this
    cases hr : rowW t (look σ.bk i) with
    | none => rw [hr] at h; cases h
    | some xs =>
     rw [hr] at h
     have hl := rowW_some hr
     obtain ⟨hz, hrow⟩ := row_of hR (.inl hl)
     refine ⟨xs, [], [some i], [(pl i, some i)], h, rfl, ?_, by simp [Rds], fun R' hRR hrd vs hv => ?_, fun _ _ h => by cases h⟩
     ·intro e he
      rw [List.mem_singleton.1 he]
      exact ⟨rfl, _, hl, trivial⟩
     ·match vs, hv with
      | [u], hv =>
       obtain ⟨q1, b, q2, q3⟩ := arr_of (.inl hl) hv.1
       rw [q2] at hrow
       exact ⟨b, by rw [q3], by simp [q2], hz, RowAt_R hRR hrow, q1⟩
  ·cases h
 | .ptr b, pin, cs, k, r, h => by
  dsimp only [packSh] at h
  split at h
  ·rename_i i off
   obtain _ | off := off
   rotate_left
   ·cases h
   cases hb : labOk pin i with
   | false => rw [hb] at h; cases h
   | true =>
    rw [hb] at h
    simp only at h
    split at h
    ·rename_i cs' hl
     obtain ⟨x, rd, ids, E, h1, h2⟩ := packSh_to hR b none cs' _ r h
     obtain ⟨bb, c, arr, e, g1, g2, g3⟩ := hR.mem.blocks i _ hl
     refine ⟨x, rd, some i :: ids, (pl i, some i) :: E, h1, ?_, ?_, h2.erd, fun R' hRR hrd vs hv => ?_, fun j hj _ => ⟨(labOk_pin hb j hj).2, pl i, _, by rw [(labOk_pin hb j hj).1]⟩⟩
     ·rw [h2.eids]; rfl
     ·intro e he
      rcases List.mem_cons.1 he with rfl | he
      ·exact ⟨rfl, _, hl, trivial⟩
      ·exact h2.ok e he
     ·match vs, hv with
      | [u], hv =>
       obtain ⟨_, B', g4, g5⟩ := hv.1
       rw [hl] at g4
       cases g4
       obtain ⟨b', c', g6, g7⟩ := g5 ⟨_, rfl⟩
       rw [g1] at g6
       cases g6
       exact ⟨bb, c, arr, e, E.map (·.1), by rw [g7], by simp [g1], g2, h2.rel R' hRR hrd _ g3⟩
    ·cases h
  ·cases h
 | .unit, pin, cs, k, r, h => by
  dsimp only [packSh] at h
  split at h
  ·refine ⟨(), [], [], [], h, rfl, by simp [ROk], by simp [Rds], fun R' _ _ vs hv => ?_, fun _ _ h => by cases h⟩
   match vs, hv with
   | [], hv => exact ⟨rfl, rfl⟩
  ·cases h
 | .cons s t, pin, cs, k, r, h => by
  dsimp only [packSh] at h
  obtain ⟨x, rd, ids, E, h1, h2⟩ := packSh_to hR s none _ _ r h
  obtain ⟨y, rd', ids', F, h3, h4⟩ := packSh_to hR t none _ _ r h1
  refine ⟨(x, y), capp rd rd', capp ids ids', E ++ F, h3, by rw [capp_eq, List.map_append, h2.eids, h4.eids], ?_, h2.erd.append h4.erd, fun R' hRR hrd vs hv => ?_, fun _ _ h => by cases h⟩
  ·intro e he
   rcases List.mem_append.1 he with he | he
   ·exact h2.ok e he
   ·exact h4.ok e he
  ·rw [capp_eq] at hrd
   rw [List.map_append]
   have g1 := h2.rel R' hRR (fun i hi => hrd i (List.mem_append_left _ hi)) (vs.take s.sz) (by rw [ctake_eq]; exact hv.take _)
   have g2 := h4.rel R' hRR (fun i hi => hrd i (List.mem_append_right _ hi)) (vs.drop s.sz) (by rw [cdrop_eq]; exact hv.drop _)
   exact ⟨vs.take s.sz, vs.drop s.sz, _, _, (List.take_append_drop _ _).symm, rfl, g1, g2⟩
theorem TR_unpackT {R : Nat → Prop} {bk : List (Nat × Blk O)} {x : T} {v : Value} {ag : Bool} (hx : beqB (T.isAg x) ag = true) {R0 : Nat → Prop} {bk0 : List (Nat × Blk O)} {pl0 : Nat → Pl} (hv : TR w R0 bk0 pl0 x v) {cs : List C}
  (h : ∀ vs, All2 (CR w R0 bk0 pl0) x.cells vs → All2 (CR w R bk pl) cs vs) : TR w R bk pl (unpackT ag cs) v := by
 cases x with
 | ag xs =>
  have : ag = true := by simpa [T.isAg, beqB] using hx
  subst this
  obtain ⟨arr, e, hv⟩ := hv
  exact ⟨arr, e, h _ hv⟩
 | one c =>
  have : ag = false := by
   cases ag with
   | false => rfl
   | true => simp [T.isAg, beqB] at hx
  subst this
  have h1 := h [v] ⟨hv, trivial⟩
  match cs, h1 with
  | [c'], h1 => exact h1.1
structure LaidL (cx : Cx) (σ : St O) (a : Act) (w : World) (pl : Nat → Pl) (lo hi : Nat) (ls : List Nat) (sl : List (Nat × S)) (bs : List (Nat × Blk O)) (rd : List Nat) (ids : List (Option Nat)) (E : List REnt) : Prop where
 eids : ids = E.map (·.2)
 ok : ROk σ pl E
 erd : Rds σ rd
 keys : bs.map (·.1) = ls
 len : ls.length = E.length
 live : ∀ q ∈ bs, q.2.live
 notfro : ∀ q ∈ bs, ∀ t xs, q.2 ≠ .fro t xs
 labs : ∀ l ∈ ls, (lo ≤ l ∧ l < hi) ∨ l < 64
 pin : ∀ l e, (l, e) ∈ ls.zip E → l < 64 → e.2 = some l
 fine : (somes ids).Nodup → ls.Nodup
 good : ∀ R' bk' pl', (∀ b, RO cx w σ.bk pl b → R' b) → (∀ i ∈ rd, ∀ b, (pl i).fp b → R' b) → (∀ q ∈ bs, look bk' q.1 = some q.2) → (∀ i p, (i, p) ∈ ls.zip (E.map (·.1)) → pl' i = p) →
  (∀ p ∈ sl, p.1 < a.tmps.size ∧ SR w R' bk' pl' p.2 (a.tmps.getD p.1 undef)) ∧ ∀ q ∈ bs, BR w R' bk' pl' q.1 q.2
theorem labsP_mem {pin : Option Nat} {nb : Nat} {sh : Sh} {l : Nat} (h : l ∈ labsP pin nb sh) : (nb ≤ l ∧ l < nb + widP pin sh) ∨ pin = some l := by
 cases pin with
 | none => exact .inl (labs_mem.1 h)
 | some j =>
  cases sh with
  | sub t => rw [List.mem_singleton.1 h]; exact .inr rfl
  | map k => rw [List.mem_singleton.1 h]; exact .inr rfl
  | ptr b =>
   rcases List.mem_cons.1 h with rfl | h
   ·exact .inr rfl
   ·exact .inl (labs_mem.1 h)
  | val t => exact .inl (labs_mem.1 h)
  | fn g => exact .inl (labs_mem.1 h)
  | rop g => exact .inl (labs_mem.1 h)
  | nil => exact .inl (labs_mem.1 h)
  | own t => exact .inl (labs_mem.1 h)
  | unit => exact .inl (labs_mem.1 h)
  | cons a b => exact .inl (labs_mem.1 h)
  | arrp n t => exact .inl (labs_mem.1 h)
theorem labsP_nodup {pin : Option Nat} {nb : Nat} {sh : Sh} (h64 : 64 ≤ nb) (hp : ∀ j, pin = some j → j < 64) : (labsP pin nb sh).Nodup := by
 cases pin with
 | none => exact labs_nodup _ _
 | some j =>
  cases sh with
  | sub t => exact List.nodup_cons.2 ⟨by simp, List.nodup_nil⟩
  | map k => exact List.nodup_cons.2 ⟨by simp, List.nodup_nil⟩
  | ptr b => exact List.nodup_cons.2 ⟨fun h => by have := labs_mem.1 h; have := hp j rfl; omega, labs_nodup _ _⟩
  | val t => exact labs_nodup _ _
  | fn g => exact labs_nodup _ _
  | rop g => exact labs_nodup _ _
  | nil => exact labs_nodup _ _
  | own t => exact labs_nodup _ _
  | unit => exact labs_nodup _ _
  | cons a b => exact labs_nodup _ _
  | arrp n t => exact labs_nodup _ _
theorem packed_pin {j : Nat} {sh : Sh} {cs : List C} {x : sh.den} {rd : List Nat} {ids : List (Option Nat)} {E : List REnt} (h : Packed cx σ w pl (some j) sh cs x rd ids E) (hlen : E.length = sh.wid) {nb : Nat} (h64 : 64 ≤ nb) :
  ∀ l e, (l, e) ∈ (labsP (some j) nb sh).zip E → l < 64 → e.2 = some l := by
 have key : ∀ (ls : List Nat) (F : List REnt), (∀ l ∈ ls, 64 ≤ l) → ∀ l e, (l, e) ∈ ls.zip F → l < 64 → e.2 = some l := fun ls F hl l e hle hlt => by
  have := hl l (List.of_mem_zip hle).1; omega
 have hge : ∀ n, ∀ l ∈ labs nb n, 64 ≤ l := fun n l hl => by have := labs_mem.1 hl; omega
 have two : ∀ ls, (∀ l ∈ ls, 64 ≤ l) → sh.pinned = true → ∀ l e, (l, e) ∈ (j :: ls).zip E → l < 64 → e.2 = some l := by
  intro ls hl hpn l e hle hlt
  obtain ⟨_, p, E', rfl⟩ := h.top j rfl hpn
  rcases List.mem_cons.1 hle with hle | hle
  ·cases hle; rfl
  ·exact key ls E' hl l e hle hlt
 cases sh with
 | sub t => exact two [] (by simp) rfl
 | map k => exact two [] (by simp) rfl
 | ptr b => exact two _ (hge _) rfl
 | val t => exact key _ _ (hge _)
 | fn g => exact key _ _ (hge _)
 | rop g => exact key _ _ (hge _)
 | nil => exact key _ _ (hge _)
 | own t => exact key _ _ (hge _)
 | unit => exact key _ _ (hge _)
 | cons a b => exact key _ _ (hge _)
 | arrp n t => exact key _ _ (hge _)
theorem labsP_lt {pin : Option Nat} {sh : Sh} {cs : List C} {x : sh.den} {rd : List Nat} {ids : List (Option Nat)} {E : List REnt} (h : Packed cx σ w pl pin sh cs x rd ids E) {nb l : Nat} (hl : l ∈ labsP pin nb sh) : (nb ≤ l ∧ l < nb + widP pin sh) ∨ l < 64 := by
 rcases labsP_mem hl with h1 | rfl
 ·exact .inl h1
 ·cases sh with
  | sub t => exact .inr (h.top l rfl rfl).1
  | map t => exact .inr (h.top l rfl rfl).1
  | ptr t => exact .inr (h.top l rfl rfl).1
  | val t => exact .inl (labs_mem.1 hl)
  | fn g => exact .inl (labs_mem.1 hl)
  | rop g => exact .inl (labs_mem.1 hl)
  | nil => exact .inl (labs_mem.1 hl)
  | own t => exact .inl (labs_mem.1 hl)
  | unit => exact .inl (labs_mem.1 hl)
  | cons a b => exact .inl (labs_mem.1 hl)
  | arrp n t => exact .inl (labs_mem.1 hl)
theorem labsP_nodup' {pin : Option Nat} {sh : Sh} {cs : List C} {x : sh.den} {rd : List Nat} {ids : List (Option Nat)} {E : List REnt} (h : Packed cx σ w pl pin sh cs x rd ids E) {nb : Nat} (h64 : 64 ≤ nb) : (labsP pin nb sh).Nodup := by
 cases pin with
 | none => exact labs_nodup _ _
 | some j =>
  cases sh with
  | sub t => exact labsP_nodup h64 fun j hj => (h.top j hj rfl).1
  | map t => exact labsP_nodup h64 fun j hj => (h.top j hj rfl).1
  | ptr t => exact labsP_nodup h64 fun j hj => (h.top j hj rfl).1
  | val t => exact labs_nodup _ _
  | fn g => exact labs_nodup _ _
  | rop g => exact labs_nodup _ _
  | nil => exact labs_nodup _ _
  | own t => exact labs_nodup _ _
  | unit => exact labs_nodup _ _
  | cons a b => exact labs_nodup _ _
  | arrp n t => exact labs_nodup _ _
theorem packL_to {R : Type} (hR : Rel cx σ a w pl) : ∀ (tm : Tm) (nb : Nat) (k : sdens tm → List Nat → List (Option Nat) → Option R) (r : R), 64 ≤ nb → packL σ tm k = some r →
  ∃ x rd ids E ls hi, k x rd ids = some r ∧ nb ≤ hi ∧ ls = tmLabs nb tm ∧ LaidL cx σ a w pl nb hi ls (unpack (O := O) nb tm x).1 (unpack nb tm x).2 rd ids E
 | [], nb, k, r, _, h => ⟨(), [], [], [], [], nb, h, Nat.le_refl _, rfl, rfl, by simp [ROk], by simp [Rds], rfl, rfl, by simp [unpack], by simp [unpack], by simp, by simp, fun _ => List.nodup_nil, fun _ _ _ _ _ _ _ => ⟨by simp [unpack], by simp [unpack]⟩⟩
 | s :: ss, nb, k, r, h64, h => by
  unfold packL at h
  cases hl : look σ.sl s.1 with
  | none => rw [hl] at h; cases h
  | some y =>
   rw [hl] at h
   dsimp only [packT] at h
   cases y with
   | tup ts => cases h
   | t y =>
   simp only at h
   cases hag : beqB (T.isAg y) s.2.2.isAgg with
   | false => rw [hag] at h; cases h
   | true =>
   rw [hag] at h
   simp only at h
   obtain ⟨hlt, hs⟩ := hR.slots _ _ hl
   obtain ⟨x, rd, ids, E, h1, hP⟩ := packSh_to hR s.2.2 s.2.1 _ _ r h
   obtain ⟨xs, rd', ids', F, ls', hi, h3, hhi, hls, hL⟩ := packL_to hR ss (nb + widP s.2.1 s.2.2) _ r (by omega) h1
   have hvs : ∃ vs, All2 (CR w (RO cx w σ.bk pl) σ.bk pl) y.cells vs := by
    cases y with
    | one c => exact ⟨[_], hs, trivial⟩
    | ag cs => obtain ⟨arr, _, h⟩ := hs; exact ⟨_, h⟩
   have hU : ∀ R', (∀ b, RO cx w σ.bk pl b → R' b) → (∀ i ∈ rd, ∀ b, (pl i).fp b → R' b) → ∀ vs, All2 (CR w (RO cx w σ.bk pl) σ.bk pl) y.cells vs → Unpacked (O := O) w R' (labsP s.2.1 nb s.2.2) (unpackP s.2.1 nb s.2.2 x) vs (E.map (·.1)) :=
    fun R' h1 h2 vs hv => unpackP_to s.2.1 s.2.2 x nb vs _ (hP.rel R' h1 h2 vs hv)
   obtain ⟨vs0, hv0⟩ := hvs
   have hU0 := hU (fun _ => True) (fun _ _ => trivial) (fun _ _ _ _ => trivial) vs0 hv0
   have hlen : (labsP s.2.1 nb s.2.2).length = E.length := by simpa using hU0.len
   have hElen : E.length = s.2.2.wid := by
    have := (ShRel_len _ _ _ _ (hP.rel (fun _ => True) (fun _ _ => trivial) (fun _ _ _ _ => trivial) vs0 hv0)).2
    simpa using this
   refine ⟨(x, xs), capp rd rd', capp ids ids', E ++ F, labsP s.2.1 nb s.2.2 ++ ls', hi, h3, by omega, by rw [hls]; show _ = capp _ _; rw [capp_eq]; rfl, ?_⟩
   have hpin : ∀ l e, (l, e) ∈ (labsP s.2.1 nb s.2.2).zip E → l < 64 → e.2 = some l := by
    cases hpp : s.2.1 with
    | none =>
     intro l e hle hlt
     have := labs_mem.1 (List.of_mem_zip hle).1
     omega
    | some j => rw [hpp] at hP; exact packed_pin hP hElen h64
   have hlabs1 : ∀ l ∈ labsP s.2.1 nb s.2.2, (nb ≤ l ∧ l < nb + widP s.2.1 s.2.2) ∨ l < 64 := fun l hl => labsP_lt hP hl
   refine ⟨by rw [capp_eq, List.map_append, hP.eids, hL.eids], ?_, hP.erd.append hL.erd, ?_, ?_, ?_, ?_, ?_, ?_, ?_, ?_⟩
   ·intro e he
    rcases List.mem_append.1 he with he | he
    ·exact hP.ok e he
    ·exact hL.ok e he
   ·show (capp _ _).map _ = _
    rw [capp_eq, List.map_append, hU0.keys]
    exact congrArg _ hL.keys
   ·rw [List.length_append, List.length_append, hlen, hL.len]
   ·show ∀ q ∈ capp _ _, _
    rw [capp_eq]
    intro q hq
    rcases List.mem_append.1 hq with hq | hq
    ·exact hU0.live q hq
    ·exact hL.live q hq
   ·show ∀ q ∈ capp _ _, _
    rw [capp_eq]
    intro q hq
    rcases List.mem_append.1 hq with hq | hq
    ·exact hU0.notfro q hq
    ·exact hL.notfro q hq
   ·intro l hl
    rcases List.mem_append.1 hl with hl | hl
    ·rcases hlabs1 l hl with h | h
     ·exact .inl ⟨h.1, by omega⟩
     ·exact .inr h
    ·rcases hL.labs l hl with h | h
     ·exact .inl ⟨by omega, h.2⟩
     ·exact .inr h
   ·intro l e hle hlt
    rw [List.zip_append hlen] at hle
    rcases List.mem_append.1 hle with hle | hle
    ·exact hpin l e hle hlt
    ·exact hL.pin l e hle hlt
   ·intro hn
    rw [capp_eq, somes_append, List.nodup_append] at hn
    refine List.nodup_append.2 ⟨labsP_nodup' hP h64, hL.fine hn.2.1, fun i hi1 j hj1 hij => ?_⟩
    subst hij
    rcases hlabs1 i hi1 with h | h
    ·rcases hL.labs i hj1 with g | g <;> omega
    ·obtain ⟨e, he⟩ := zip_mem_right hlen hi1
     obtain ⟨f, hf⟩ := zip_mem_right hL.len hj1
     have e1 := hpin i e he h
     have f1 := hL.pin i f hf h
     refine hn.2.2 i ?_ i ?_ rfl
     ·rw [hP.eids, somes_map]; exact rids_mem.2 ⟨e.1, by rw [← e1]; exact (List.of_mem_zip he).2⟩
     ·rw [hL.eids, somes_map]; exact rids_mem.2 ⟨f.1, by rw [← f1]; exact (List.of_mem_zip hf).2⟩
   ·intro R' bk' pl' hRR hrd hbk hpl
    rw [capp_eq] at hrd
    have hbk' : ∀ q ∈ (unpackP (O := O) s.2.1 nb s.2.2 x).2 ++ (unpack (O := O) (nb + widP s.2.1 s.2.2) ss xs).2, look bk' q.1 = some q.2 := by rw [← capp_eq]; exact hbk
    rw [List.map_append] at hpl
    have hz : (labsP s.2.1 nb s.2.2 ++ ls').zip (E.map (·.1) ++ F.map (·.1)) = (labsP s.2.1 nb s.2.2).zip (E.map (·.1)) ++ ls'.zip (F.map (·.1)) := List.zip_append (by simpa using hlen)
    rw [hz] at hpl
    obtain ⟨g1, g2⟩ := hL.good R' bk' pl' hRR (fun i hi => hrd i (List.mem_append_right _ hi)) (fun q hq => hbk' q (List.mem_append_right _ hq)) (fun i p h => hpl i p (List.mem_append_right _ h))
    have hgood := fun vs hv => (hU R' hRR (fun i hi => hrd i (List.mem_append_left _ hi)) vs hv).good R' bk' pl' (fun _ h => h) (fun q hq => hbk' q (List.mem_append_left _ hq)) (fun i p h => hpl i p (List.mem_append_left _ h))
    refine ⟨fun p hp => ?_, ?_⟩
    ·rcases List.mem_cons.1 hp with rfl | hp
     ·exact ⟨hlt, TR_unpackT hag hs fun vs hv => (hgood vs hv).1⟩
     ·exact g1 p hp
    ·show ∀ q ∈ capp _ _, _
     rw [capp_eq]
     intro q hq
     rcases List.mem_append.1 hq with hq | hq
     ·exact (hgood vs0 hv0).2 q hq
     ·exact g2 q hq
structure Onward (cx : Cx) (cx' : Cx) : Prop where
 N : cx'.N = cx.N
 w0 : cx'.w0 = cx.w0
 R0 : cx'.R0 = cx.R0
 WR : cx'.WR = cx.WR
 pins : ∀ i p, cx'.pins i = some p → i < 64 ∧ cx.pins i = some p
 hard : ∀ i, ¬ cx'.hard i
 less : ∀ b, cx'.priv b = none → cx.priv b = none
theorem labAt_zip {L j : Nat} : ∀ {ls : List Nat} {E : List REnt}, labAt L ls (E.map (·.2)) = some j → ∃ p, (L, (p, some j)) ∈ ls.zip E
 | [], _, h => by cases h
 | _ :: _, [], h => by cases h
 | l :: ls, (p, i) :: E, h => by
  simp only [List.map_cons, labAt] at h
  cases hb : Nat.beq l L with
  | true =>
   rw [hb] at h
   simp only at h
   rw [Nat.eq_of_beq_eq_true hb, h]
   exact ⟨p, by simp⟩
  | false =>
   rw [hb] at h
   obtain ⟨q, hq⟩ := labAt_zip h
   exact ⟨q, List.mem_cons_of_mem _ hq⟩
theorem laid_rel (hR : Rel cx σ a w pl) {tm : Tm} {x : sdens tm} {rd : List Nat} {ids : List (Option Nat)} {E : List REnt} {ls : List Nat} {hi : Nat}
  (hL : LaidL cx σ a w pl 64 hi ls (unpack (O := O) 64 tm x).1 (unpack 64 tm x).2 rd ids E) (hnd : (somes ids).Nodup) (hdj : ∀ i ∈ rd, i ∉ somes ids) {cx' : Cx} (hC : Onward cx cx')
  (hpv : ∀ b o, cx'.priv b = some o → cx.priv b = some o ∨ (w.heap[b]? = some o ∧ ∃ j, liveAt σ.bk j ∧ (pl j).fp b ∧ j ∉ somes ids ∧ j ∉ rd)) :
  ∃ pl', Rel cx' (unpackSt (O := O) tm x) a w pl' ∧ ∀ L j, labAt L ls ids = some j → pl' L = pl j := by
 have eids : somes ids = rids E := by rw [hL.eids, somes_map]
 have hlsn := hL.fine hnd
 have hkn : ((unpack (O := O) 64 tm x).2.map (·.1)).Nodup := by rw [hL.keys]; exact hlsn
 let Z := ls.zip (E.map (·.1))
 have hZk : Z.map (·.1) = ls := zip_keys_eq (by simpa using hL.len)
 let pl' : Nat → Pl := fun j => ((look Z j).getD .nil)
 have hplZ : ∀ i p, (i, p) ∈ Z → pl' i = p := fun i p h => by
  have hl := look_of_mem (l := Z) (by rw [hZk]; exact hlsn) h
  simp only [pl', hl, Option.getD_some]
 let bk' := (unpack (O := O) 64 tm x).2
 have hbk : ∀ p ∈ (unpack (O := O) 64 tm x).2, look bk' p.1 = some p.2 := fun p hp => look_of_mem hkn hp
 have hent : ∀ i, (∃ B, look bk' i = some B) → ∃ e, (i, e) ∈ ls.zip E ∧ pl' i = e.1 := by
  rintro i ⟨B, hB⟩
  have : i ∈ ls := by rw [← hL.keys]; exact look_keys hB
  obtain ⟨e, he⟩ := zip_mem_right hL.len this
  exact ⟨e, he, hplZ i e.1 (zip_right_map he)⟩
 have hpl : ∀ i, (∃ B, look bk' i = some B) → ∀ b, (pl' i).fp b → ∃ e j, (i, e) ∈ ls.zip E ∧ e.2 = some j ∧ j ∈ somes ids ∧ liveAt σ.bk j ∧ pl' i = pl j ∧ (pl j).fp b := by
  intro i hi b hb
  obtain ⟨e, he, h2⟩ := hent i hi
  rw [h2] at hb
  have h3 := hL.ok e (List.of_mem_zip he).2
  cases ho : e.2 with
  | none => rw [ho] at h3; exact (h3 b hb).elim
  | some j =>
   rw [ho] at h3
   exact ⟨e, j, he, ho, by rw [eids]; exact rids_mem.2 ⟨e.1, by rw [← ho]; exact (List.of_mem_zip he).2⟩, h3.2, by rw [h2, h3.1], by rw [← h3.1]; exact hb⟩
 have hnew : ∀ b j, liveAt σ.bk j → (pl j).fp b → (j ∈ somes ids ∨ j ∈ rd) → cx'.priv b = none := by
  intro b j hj hb hin
  cases hp : cx'.priv b with
  | none => rfl
  | some o =>
   rcases hpv b o hp with h | ⟨_, k, k1, k2, k3, k4⟩
   ·have := hR.mem.apart j hj b hb
    rw [h] at this; cases this
   ·exfalso
    by_cases e : j = k
    ·subst e
     rcases hin with h | h
     ·exact k3 h
     ·exact k4 h
    ·exact hR.mem.disj j k hj k1 e b hb k2
 have hRO : ∀ b, RO cx w σ.bk pl b → RO cx' w bk' pl' b := by
  rintro b ⟨g1, g2, g3, g4⟩
  refine ⟨by rw [hC.R0, hC.WR, hC.w0]; exact g1, g2, fun i hi hb => ?_, ?_⟩
  ·obtain ⟨B, hB, _⟩ := hi
   obtain ⟨e, j, _, _, _, h3, _, h4⟩ := hpl i ⟨B, hB⟩ b hb
   exact g3 j h3 h4
  ·cases hp : cx'.priv b with
   | none => rfl
   | some o =>
    rcases hpv b o hp with h | ⟨_, k, k1, k2, _⟩
    ·rw [h] at g4; cases g4
    ·exact absurd k2 (g3 k k1)
 have hrd : ∀ i ∈ rd, ∀ b, (pl i).fp b → RO cx' w bk' pl' b := by
  intro i hi b hb
  obtain ⟨t, xs, hl | hl⟩ := hL.erd i hi
  ·have hlv : liveAt σ.bk i := ⟨_, hl, trivial⟩
   obtain ⟨k1, k2⟩ := hR.mem.bound i hlv b hb
   refine ⟨by rw [hC.R0, hC.WR, hC.w0]; exact .inr k2, k1, fun q hq hqb => ?_, hnew b i hlv hb (.inr hi)⟩
   obtain ⟨B, hB, _⟩ := hq
   obtain ⟨e, j, _, _, hj, h3, _, h4⟩ := hpl q ⟨B, hB⟩ b hqb
   exact hR.mem.disj i j hlv h3 (fun e => hdj i hi (e ▸ hj)) b hb h4
  ·exact hRO b (hR.mem.frozen i t xs hl b hb)
 obtain ⟨hslots, hblocks⟩ := hL.good (RO cx' w bk' pl') bk' pl' hRO hrd hbk hplZ
 refine ⟨pl', ⟨?_, fun t s hs => hslots (t, s) (look_mem hs), hR.defers, by rw [hC.N]; exact hR.size⟩, fun L j hlj => ?_⟩
 ·show Mem cx' w bk' pl'
  refine ⟨fun i B hB => hblocks (i, B) (look_mem hB), ?_, ?_, by rw [hC.w0, hC.WR]; exact hR.mem.ext, ?_, ?_, ?_, ?_, fun i hi => absurd hi (hC.hard i), ?_⟩
  ·rintro i j ⟨B, hB, _⟩ ⟨B', hB', _⟩ hij b hb hb'
   obtain ⟨e, i', g1, g2, g3, g4, _, g5⟩ := hpl i ⟨B, hB⟩ b hb
   obtain ⟨f, j', k1, k2, k3, k4, _, k5⟩ := hpl j ⟨B', hB'⟩ b hb'
   by_cases e' : i' = j'
   ·subst e'
    exact rids_pair (by rw [← eids]; exact hnd) hL.len i e j f i' g1 k1 g2 k2 hij
   ·exact hR.mem.disj i' j' g4 k4 e' b g5 k5
  ·rintro i ⟨B, hB, _⟩ b hb
   obtain ⟨e, j, _, _, _, h3, _, h4⟩ := hpl i ⟨B, hB⟩ b hb
   rw [hC.WR, hC.w0]
   exact hR.mem.bound j h3 b h4
  ·intro i t xs hi'
   exact absurd rfl (hL.notfro _ (look_mem hi') t xs)
  ·intro i p B hp hB
   obtain ⟨hlt, hp⟩ := hC.pins i p hp
   obtain ⟨e, he, h2⟩ := hent i ⟨B, hB⟩
   have h3 := hL.pin i e he hlt
   have h4 := hL.ok e (List.of_mem_zip he).2
   rw [h3] at h4
   rw [h2, h4.1]
   obtain ⟨B0, h6, _⟩ := h4.2
   exact hR.mem.pin _ p B0 hp h6
  ·rintro i ⟨B, hB, _⟩ b hb
   obtain ⟨e, j, _, _, hj, h3, _, h4⟩ := hpl i ⟨B, hB⟩ b hb
   exact hnew b j h3 h4 (.inl hj)
  ·intro b o ho
   rcases hpv b o ho with h | h
   ·exact hR.mem.priv b o h
   ·exact h.1
  ·intro b o ho
   rw [hC.WR, hC.w0]
   rcases hpv b o ho with h | ⟨_, j, h1, h2, _⟩
   ·exact hR.mem.privw b o h
   ·exact (hR.mem.bound j h1 b h2).2
 ·rw [hL.eids] at hlj
  obtain ⟨p, hp⟩ := labAt_zip hlj
  have h1 := hplZ L p (zip_right_map hp)
  have h2 := hL.ok _ (List.of_mem_zip hp).2
  rw [h1]
  exact h2.1
theorem Onward.refl (hh : ∀ i, ¬ cx.hard i) : Onward cx cx := ⟨rfl, rfl, rfl, rfl, fun i p hp => ⟨(cx.pinlt i p hp).resolve_right (hh i), hp⟩, hh, fun _ h => h⟩
theorem pack0_rel {R : Type} (hh : ∀ i, ¬ cx.hard i) (hR : Rel cx σ a w pl) {tm : Tm} {k : sdens tm → Option R} {r : R} (h : pack0 σ tm k = some r) :
  ∃ x pl', k x = some r ∧ Rel cx (unpackSt (O := O) tm x) a w pl' := by
 unfold pack0 at h
 obtain ⟨x, rd, ids, E, ls, hi, h1, _, _, hL⟩ := packL_to hR tm 64 _ _ (Nat.le_refl _) h
 cases hn : nodupN (somes ids) with
 | false => rw [hn] at h1; cases h1
 | true =>
 rw [hn] at h1
 simp only at h1
 cases hd : disjN rd (somes ids) with
 | false => rw [hd] at h1; cases h1
 | true =>
 rw [hd] at h1
 obtain ⟨pl', g1, _⟩ := laid_rel hR hL (nodupN_iff hn) (disjN_iff hd) (Onward.refl hh) (fun b o h => .inl h)
 exact ⟨x, pl', h1, g1⟩
theorem pack_rel {R : Type} (hh : ∀ i, ¬ cx.hard i) (hR : Rel cx σ a w pl) {tm : Tm} {k : sdens tm → Option R} {r : R} (h : pack σ tm k = some r) :
  ∃ x pl', k x = some r ∧ Rel cx (unpackSt (O := O) tm x) a w pl' := by
 unfold pack at h
 rw [St.force_eq] at h
 obtain ⟨pl1, hR1⟩ := close_rel hR
 exact pack0_rel hh hR1 h
theorem packAt_rel {R : Type} (hR : Rel cx σ a w pl) {tm : Tm} {L i : Nat} {k : sdens tm → List Nat → Option R} {r : R} (h : packAt σ tm L i k = some r) :
  ∃ x is, k x is = some r ∧ ∀ cx', Onward cx cx' → (∀ b o, cx'.priv b = some o → cx.priv b = some o ∨ (w.heap[b]? = some o ∧ ∃ j, liveAt σ.bk j ∧ (pl j).fp b ∧ j ∉ is ∧ ∀ t xs, look σ.bk j ≠ some (.row t xs) ∧ look σ.bk j ≠ some (.fro t xs))) →
   ∃ pl', Rel cx' (unpackSt (O := O) tm x) a w pl' ∧ pl' L = pl i := by
 unfold packAt at h
 obtain ⟨x, rd, ids, E, ls, hi, h1, _, hls, hL⟩ := packL_to hR tm 64 _ _ (Nat.le_refl _) h
 cases hn : nodupN (somes ids) with
 | false => rw [hn] at h1; cases h1
 | true =>
 rw [hn] at h1
 simp only at h1
 cases hd : disjN rd (somes ids) with
 | false => rw [hd] at h1; cases h1
 | true =>
 rw [hd] at h1
 simp only at h1
 cases hla : labAt L (tmLabs 64 tm) ids with
 | none => rw [hla] at h1; cases h1
 | some j =>
 rw [hla] at h1
 simp only at h1
 cases hij : Nat.beq i j with
 | false => rw [hij] at h1; cases h1
 | true =>
 rw [hij] at h1
 have := Nat.eq_of_beq_eq_true hij
 subst this
 refine ⟨x, somes ids, h1, fun cx' hC hpv => ?_⟩
 obtain ⟨pl', g1, g2⟩ := laid_rel hR hL (nodupN_iff hn) (disjN_iff hd) hC (fun b o ho => by
  rcases hpv b o ho with h | ⟨h2, q, h3, h4, h5, h6⟩
  ·exact .inl h
  ·refine .inr ⟨h2, q, h3, h4, h5, fun hq => ?_⟩
   obtain ⟨t, xs, h7⟩ := hL.erd q hq
   rcases h7 with h7 | h7
   ·exact (h6 t xs).1 h7
   ·exact (h6 t xs).2 h7)
 exact ⟨pl', g1, g2 L i (by rw [hls]; exact hla)⟩
end
end Go.BB
