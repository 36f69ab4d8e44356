/- A symbolic machine for the model's code, and what it shows of this seat's functions. No conditions. -/
import Derived.Test.YtnofmeckcimodaaFDeep
set_option linter.unusedSimpArgs false
set_option linter.unusedVariables false
namespace Go.BB
open Go
section
variable {O : ObjK} {cx : Cx} {σ : St O} {a : Act} {w : World} {pl : Nat → Pl} {cfg : Cfg O} {P : Program} {o : Oper} {wr : Wr O}

theorem TRep_of {R R2 : Nat → Prop} {bk : List (Nat × Blk O)} {ty : Ty} {y : ty.den} {t : T} {v : Value} (ht : TR w R bk pl t v)
  (h : ∀ vs, All2 (CR w R bk pl) t.cells vs → Rep w R2 ty y vs) (hag : beqB (T.isAg t) ty.isAgg = true) : TRep w R2 ty y v := by
 unfold TRep
 cases t with
 | ag cs =>
  have : ty.isAgg = true := by simpa [T.isAg, beqB] using hag
  rw [this]
  obtain ⟨va, e1, e2⟩ := ht
  exact ⟨va, e1, h _ e2⟩
 | one c =>
  have : ty.isAgg = false := by
   cases hh : ty.isAgg with
   | false => rfl
   | true => rw [hh] at hag; simp [T.isAg, beqB] at hag
  rw [this]
  exact h [v] ⟨ht, trivial⟩
theorem R2_left {f g : List (Nat × Blk O)} {b : Nat} (h : R2 cx w σ pl f b) : R2 cx w σ pl (capp f g) b := by
 rcases h with h | ⟨p, hp, hb⟩
 ·exact .inl h
 ·exact .inr ⟨p, by rw [capp_eq]; exact List.mem_append_left _ hp, hb⟩
theorem R2_right {f g : List (Nat × Blk O)} {b : Nat} (h : R2 cx w σ pl g b) : R2 cx w σ pl (capp f g) b := by
 rcases h with h | ⟨p, hp, hb⟩
 ·exact .inl h
 ·exact .inr ⟨p, by rw [capp_eq]; exact List.mem_append_right _ hp, hb⟩
theorem fnOf_some {v : Value} {g : Nat} (h : fnOf v = some g) : v = .func (.func g) #[] #[] := by
 unfold fnOf at h
 split at h
 ·rename_i g' x y
  split at h
  ·rename_i h1 h2
   cases h
   have e1 : x = #[] := by cases x; simp at h1; subst h1; rfl
   have e2 : y = #[] := by cases y; simp at h2; subst h2; rfl
   rw [e1, e2]
  ·cases h
 ·cases h
def FzB (σ : St O) (fz : List (Nat × Blk O)) : Prop := ∀ p ∈ fz, (∃ (t : Ty) (xs : List t.den), p.2 = .fro t xs ∧ (look σ.bk p.1 = some (.row t xs) ∨ look σ.bk p.1 = some (.fro t xs))) ∨ (p.2.live ∧ look σ.bk p.1 = some p.2)
theorem FzB_of {fz : List (Nat × Blk O)} (h : Fz σ fz) : FzB σ fz := fun p hp => .inl (h p hp)
theorem FzB_Fz : ∀ {fz : List (Nat × Blk O)}, FzB σ fz → fzOk fz = true → Fz σ fz
 | [], _, _ => by simp [Fz]
 | (i, .fro t xs) :: fz, h, ho => by
  unfold fzOk at ho
  cases hb : Nat.ble 64 i with
  | false => rw [hb] at ho; cases ho
  | true =>
   rw [hb] at ho
   intro p hp
   rcases List.mem_cons.1 hp with rfl | hp
   ·rcases h _ List.mem_cons_self with h | ⟨h, _⟩
    ·exact h
    ·exact h.elim
   ·exact FzB_Fz (fun q hq => h q (List.mem_cons_of_mem _ hq)) ho p hp
 | (i, .row t xs) :: fz, h, ho => by cases ho
 | (i, .box t) :: fz, h, ho => by cases ho
 | (i, .obj t xs) :: fz, h, ho => by cases ho
 | (i, .hol _ _ _ _ _ _) :: fz, h, ho => by cases ho
 | (i, .dead) :: fz, h, ho => by cases ho
 | (i, .rng _ _ _) :: fz, h, ho => by cases ho
 | (i, .rngH _ _ _ _ _) :: fz, h, ho => by cases ho
 | (i, .itr _ _) :: fz, h, ho => by cases ho
 | (i, .hoD _ _ _ _ _ _ _) :: fz, h, ho => by cases ho
theorem FzB_append {f g : List (Nat × Blk O)} (hf : FzB σ f) (hg : FzB σ g) : FzB σ (capp f g) := by
 rw [capp_eq]
 intro p hp
 rcases List.mem_append.1 hp with hp | hp
 ·exact hf p hp
 ·exact hg p hp
theorem ofCellsD_to (hR : Rel cx σ a w pl) (t : Ty) (cs : List C) (k : t.den → List (Nat × Blk O) → RM O) (wr : Wr O) (h : (ofCellsD t cs k).to σ wr) :
  ∃ x fz, (k x fz).to σ wr ∧ FzB σ fz ∧ ∀ vs, All2 (CR w (RO cx w σ.bk pl) σ.bk pl) cs vs → Rep w (R2 cx w σ pl fz) t x vs := by
 have old : ∀ k', (ofCells t cs k').to σ wr → ∃ x fz, (k' x fz).to σ wr ∧ FzB σ fz ∧ ∀ vs, All2 (CR w (RO cx w σ.bk pl) σ.bk pl) cs vs → Rep w (R2 cx w σ pl fz) t x vs := by
  intro k' h
  obtain ⟨y, f, h3, h4, h5⟩ := ofCells_to hR _ _ _ _ h
  exact ⟨y, f, h3, FzB_of h4, h5⟩
 unfold ofCellsD at h
 split at h
 ·rename_i u k
  split at h
  ·rename_i i
   simp only [RM.to] at h
   cases hl : look σ.bk i with
   | none => rw [hl] at h; exact h.elim
   | some B =>
    rw [hl] at h
    cases B with
    | obj kk y =>
     cases kk with
     | deep ta tb e tc =>
      simp only at h
      cases hc : castL u ⟨dT ta tb e tc, y⟩ with
      | none => rw [hc] at h; exact h.elim
      | some xs =>
       rw [hc] at h
       have hc := castL_some hc
       cases hc
       refine ⟨y, _, h, fun p hp => ?_, fun vs hv => ?_⟩
       ·rw [List.mem_singleton.1 hp]; exact .inr ⟨trivial, hl⟩
       ·match vs, hv with
        | [v], hv =>
         obtain ⟨_, B, hB, hB2⟩ := hv.1
         rw [hl] at hB
         cases hB
         obtain ⟨f, hp⟩ := hB2 rfl
         obtain ⟨v', f', hp', hm⟩ := hR.mem.blocks i _ hl
         rw [hp] at hp'
         cases hp'
         exact deep_rep hm (fun b hb => .inl hb) fun b hb => .inr ⟨_, List.mem_singleton.2 rfl, by rw [hp]; exact hb⟩
     | map kt vt => exact h.elim
     | mapS kt vt => exact h.elim
    | hoD ta tb e tc xs n j =>
     simp only [RM.to] at h
     cases hr : rowW e (look σ.bk j) with
     | none => rw [hr] at h; exact h.elim
     | some ys =>
      rw [hr] at h
      simp only at h
      have hlj := rowW_some hr
      cases hc : castL u ⟨dT ta tb e tc, dput xs n ys⟩ with
      | none => rw [hc] at h; exact h.elim
      | some zs =>
       rw [hc] at h
       have hc := castL_some hc
       cases hc
       refine ⟨_, _, h, fun p hp => ?_, fun vs hv => ?_⟩
       ·rcases List.mem_cons.1 hp with rfl | hp
        ·exact .inr ⟨trivial, hl⟩
        ·rw [List.mem_singleton.1 hp]; exact .inr ⟨trivial, hlj⟩
       ·match vs, hv with
        | [v], hv =>
         obtain ⟨_, B, hB, hB2⟩ := hv.1
         rw [hl] at hB
         cases hB
         obtain ⟨f, hp⟩ := hB2 rfl
         obtain ⟨h0, v', f', p, ps, hp', q1, q2, q3, q4, q5, q6⟩ := hR.mem.blocks i _ hl
         rw [hp] at hp'
         cases hp'
         obtain ⟨hz, hrow⟩ := row_of hR (.inl hlj)
         refine drow_rep q4 q3 (fun b hb => .inl hb) (fun b hb => .inr ⟨_, List.mem_cons_self, by rw [hp]; exact (q5 b).2 (.inl hb)⟩) (dput_len _ _ _) fun k x u hx hu => ⟨_, dput_get hx, ?_⟩
         by_cases hkn : k = n
         ·rw [if_pos hkn]
          exact rep_own hz hrow (own_of hR (.inl hlj) (hu.1 hkn)) (fun b hb => .inl hb) (fun b hb => .inr ⟨_, List.mem_cons_of_mem _ (List.mem_singleton.2 rfl), hb⟩)
         ·rw [if_neg hkn]
          obtain ⟨q, g1, g2, g3⟩ := hu.2 hkn
          exact rep_own h0 g2 g3 (fun b hb => .inl hb) fun b hb => .inr ⟨_, List.mem_cons_self, by rw [hp]; exact (q5 b).2 (.inr ⟨q, List.mem_of_getElem? g1, hb⟩)⟩
    | _ => exact h.elim
  ·exact old _ h
 ·exact old _ h
theorem castV_some {t : Ty} {s : (t : Ty) × t.den} {x : t.den} (h : castV t s = some x) : s = ⟨t, x⟩ := by
 obtain ⟨t', y⟩ := s
 simp only [castV] at h
 split at h
 ·rename_i e
  have e' : t' = t := e
  subst e'
  simp only [Option.some.injEq] at h
  subst h
  rfl
 ·cases h
theorem codeOf_some {v : Value} {g : Nat} (h : codeOf v = some g) : v = wordOf g := by
 unfold codeOf at h
 split at h
 ·cases h; rfl
 ·split at h
  ·rename_i g' hf
   cases h
   exact fnOf_some hf
  ·cases h
structure PackedR (cx : Cx) (σ : St O) (w : World) (pl : Nat → Pl) (sh : Sh) (cs : List C) (x : sh.den) (fz : List (Nat × Blk O)) (ids : List Nat) (E : List REnt) : Prop where
 eids : ids = rids E
 ok : ROk σ pl E
 efz : FzB σ fz
 rel : ∀ vs, All2 (CR w (RO cx w σ.bk pl) σ.bk pl) cs vs → ShRel w (R2 cx w σ pl fz) sh x vs (E.map (·.1))
 top : sh.pinned = true → ∃ i E', ids = i :: rids E' ∧ E = (pl i, some i) :: E' ∧ match sh, x with
  | .sub t, x => look σ.bk i = some (.row t x.1)
  | .map k, x => look σ.bk i = some (.obj k x)
  | .ptr _, _ => ∃ cs', look σ.bk i = some (.box cs')
  | _, _ => True
theorem packRM_to (hR : Rel cx σ a w pl) : ∀ (sh : Sh) (cs : List C) (k : sh.den → List (Nat × Blk O) → List Nat → RM O), (packRM sh cs k).to σ wr →
  ∃ x fz ids E, (k x fz ids).to σ wr ∧ PackedR cx σ w pl sh cs x fz ids E
 | .val t, cs, k, h => by
  dsimp only [packRM] at h
  obtain ⟨y, fz, h1, h2, h3⟩ := ofCells_to hR t cs _ _ h
  exact ⟨y, fz, [], [], h1, rfl, by simp [ROk], FzB_of h2, fun vs hv => ⟨h3 vs hv, rfl⟩, fun h => by cases h⟩
 | .fn g, cs, k, h => by
  dsimp only [packRM] at h
  split at h
  ·rename_i v
   cases hf : codeOf v with
   | none => rw [hf] at h; exact h.elim
   | some g' =>
    rw [hf] at h
    simp only at h
    split at h
    ·rename_i hb
     have hg := Nat.eq_of_beq_eq_true hb
     subst hg
     have := codeOf_some hf
     subst this
     refine ⟨(), [], [], [], h, rfl, by simp [ROk], by simp [FzB], fun vs hv => ?_, fun h => by cases h⟩
     match vs, hv with
     | [u], hv => exact ⟨by rw [show u = _ from hv.1], rfl⟩
    ·exact h.elim
  ·exact h.elim
 | .rop ty, cs, k, h => by
  dsimp only [packRM] at h
  split at h
  ·rename_i t' x off
   obtain _ | off := off
   rotate_left
   ·exact h.elim
   simp only at h
   cases hc : castV ty ⟨t', x⟩ with
   | none => rw [hc] at h; exact h.elim
   | some y =>
    rw [hc] at h
    have := castV_some hc
    cases this
    refine ⟨_, [], [], [], h, rfl, by simp [ROk], by simp [FzB], fun vs hv => ?_, fun h => by cases h⟩
    match vs, hv with
    | [u], hv =>
     obtain ⟨ad, cs, h1, h2, h3, h4⟩ := hv.1
     have h4' : u = .pointer (some ad) := by rw [h4]; simp [Addr.add]
     exact ⟨ad, cs, by rw [h4'], rfl, .inl h2, Rep_mono (fun b hb => .inl hb) (fun _ _ => rfl) _ _ _ h1, h3⟩
  ·rename_i i off
   obtain _ | off := off
   rotate_left
   ·exact h.elim
   simp only [RM.to] at h
   split at h
   ·rename_i cs' hl
    obtain ⟨y, fz, h1, h2, h3⟩ := ofCells_to hR ty cs' _ _ h
    obtain ⟨bb, c, arr, e, g1, g2, g3⟩ := hR.mem.blocks i _ hl
    refine ⟨y, (i, .box cs') :: fz, [], [], h1, rfl, by simp [ROk], fun p hp => ?_, fun vs hv => ?_, fun h => by cases h⟩
    ·rcases List.mem_cons.1 hp with rfl | hp
     ·exact .inr ⟨trivial, hl⟩
     ·exact .inl (h2 p hp)
    ·match vs, hv with
     | [u], hv =>
      obtain ⟨_, B', g4, g5⟩ := hv.1
      rw [hl] at g4
      cases g4
      obtain ⟨b', c', g6, g7⟩ := g5 ⟨_, rfl⟩
      rw [g1] at g6
      cases g6
      refine ⟨⟨bb, 0, none⟩, arr.toList, by rw [g7], rfl, .inr ⟨_, List.mem_cons_self, by rw [g1]; rfl⟩, Rep_mono (fun b hb => ?_) (fun _ _ => rfl) _ _ _ (h3 _ g3), fun q v hq => ?_⟩
      ·rcases hb with hb | ⟨p, hp, hb⟩
       ·exact .inl hb
       ·exact .inr ⟨p, List.mem_cons_of_mem _ hp, hb⟩
      ·rw [add_at, cell_of_row w bb _ arr e (0, 0) g2]
       simpa using hq
   ·exact h.elim
  ·exact h.elim
 | .nil, cs, k, h => by
  dsimp only [packRM] at h
  split at h
  ·refine ⟨(), [], [], [], h, rfl, by simp [ROk], by simp [FzB], fun vs hv => ?_, fun h => by cases h⟩
   match vs, hv with
   | [u], hv => exact ⟨by rw [show u = _ from hv.1], rfl⟩
  ·exact h.elim
 | .own t, cs, k, h => by
  dsimp only [packRM] at h
  split at h
  ·rename_i i
   simp only [RM.to] at h
   cases hr : rowW t (look σ.bk i) with
   | none => rw [hr] at h; exact h.elim
   | some xs =>
    rw [hr] at h
    have hl := rowW_some hr
    obtain ⟨hz, hrow⟩ := row_of hR (.inl hl)
    refine ⟨xs, [], [i], [(pl i, some i)], h, rfl, ?_, by simp [FzB], fun vs hv => ?_, fun h => by cases h⟩
    ·intro e he
     rw [List.mem_singleton.1 he]
     exact ⟨rfl, _, hl, trivial⟩
    ·match vs, hv with
     | [u], hv => exact ⟨u, pl i, rfl, rfl, hz, RowAt_R (fun b hb => .inl hb) hrow, own_of hR (.inl hl) hv.1, hv.1.1⟩
  ·cases hz : Nat.blt 0 t.sz with
   | false => rw [hz] at h; exact h.elim
   | true =>
    rw [hz] at h
    have hz' : 0 < t.sz := Nat.le_of_ble_eq_true hz
    refine ⟨[], [], [], [(.nil, none)], h, rfl, ?_, by simp [FzB], fun vs hv => ?_, fun h => by cases h⟩
    ·intro e he
     rw [List.mem_singleton.1 he]
     exact fun b hb => hb.elim
    ·match vs, hv with
     | [u], hv =>
      have : u = .slice none 0 0 := hv.1
      subst this
      exact ⟨_, .nil, rfl, rfl, hz', rfl, ⟨rfl, rfl⟩, rfl⟩
  ·exact h.elim
 | .sub t, cs, k, h => by
  dsimp only [packRM] at h
  split at h
  ·rename_i i lo n
   obtain _ | lo := lo
   rotate_left
   ·exact h.elim
   simp only [RM.to] at h
   cases hr : rowW t (look σ.bk i) with
   | none => rw [hr] at h; exact h.elim
   | some xs =>
    rw [hr] at h
    have hl := rowW_some hr
    obtain ⟨hz, hrow⟩ := row_of hR (.inl hl)
    refine ⟨(xs, n), [], [i], [(pl i, some i)], h, rfl, ?_, by simp [FzB], fun vs hv => ?_, fun _ => ⟨i, [], rfl, rfl, hl⟩⟩
    ·intro e he
     rw [List.mem_singleton.1 he]
     exact ⟨rfl, _, hl, trivial⟩
    ·match vs, hv with
     | [u], hv =>
      obtain ⟨ho, hn⟩ := sub_of (cx := cx) (w := w) (.inl hl) hv.1
      exact ⟨u, pl i, rfl, rfl, hz, RowAt_R (fun b hb => .inl hb) hrow, ho, by simpa using hn, hv.1.1⟩
  ·rename_i i
   simp only [RM.to] at h
   cases hr : rowW t (look σ.bk i) with
   | none => rw [hr] at h; exact h.elim
   | some xs =>
    rw [hr] at h
    have hl := rowW_some hr
    obtain ⟨hz, hrow⟩ := row_of hR (.inl hl)
    refine ⟨(xs, xs.length), [], [i], [(pl i, some i)], h, rfl, ?_, by simp [FzB], fun vs hv => ?_, fun _ => ⟨i, [], rfl, rfl, hl⟩⟩
    ·intro e he
     rw [List.mem_singleton.1 he]
     exact ⟨rfl, _, hl, trivial⟩
    ·match vs, hv with
     | [u], hv =>
      have hov := own_of hR (.inl hl) hv.1
      refine ⟨u, pl i, rfl, rfl, hz, RowAt_R (fun b hb => .inl hb) hrow, ?_, Nat.le_refl _, hv.1.1⟩
      cases hp : pl i with
      | nil => rw [hp] at hov; exact ⟨hov.1, rfl, hov.2⟩
      | obj v f => rw [hp] at hov; exact hov.elim
      | «at» b cap =>
       rw [hp] at hov hrow
       obtain ⟨arr, e', g1, g2, g3, g4, g5⟩ := hrow
       exact ⟨⟨b, 0, none⟩, hov, by simpa using g3, rfl, fun _ => by simp⟩
  ·exact h.elim
 | .map kk, cs, k, h => by
  dsimp only [packRM] at h
  split at h
  ·rename_i i
   simp only [RM.to] at h
   split at h
   ·rename_i k' y hl
    cases hq : O.deq k' kk with
    | isFalse hne => rw [hq] at h; exact h.elim
    | isTrue heq =>
     rw [hq] at h
     subst heq
     obtain ⟨v', f, g1, g2⟩ := hR.mem.blocks i _ hl
     refine ⟨y, [], [i], [(pl i, some i)], h, rfl, ?_, by simp [FzB], fun vs hv => ?_, fun _ => ⟨i, [], rfl, rfl, hl⟩⟩
     ·intro e he
      rw [List.mem_singleton.1 he]
      exact ⟨rfl, _, hl, trivial⟩
     ·match vs, hv with
      | [u], hv =>
       obtain ⟨g3, B', g4, g5⟩ := hv.1
       rw [hl] at g4
       cases g4
       obtain ⟨f', g6⟩ := g5 rfl
       rw [g1] at g6
       cases g6
       exact ⟨v', f, rfl, by simp [g1], MapRel_R (fun b hb => .inl hb) g2⟩
   ·exact h.elim
  ·exact h.elim
 | .ptr b, cs, k, h => by
  dsimp only [packRM] at h
  split at h
  ·rename_i i off
   obtain _ | off := off
   rotate_left
   ·exact h.elim
   simp only [RM.to] at h
   split at h
   ·rename_i cs' hl
    obtain ⟨x, fz, ids, E, h1, h2⟩ := packRM_to hR b cs' _ h
    obtain ⟨bb, c, arr, e, g1, g2, g3⟩ := hR.mem.blocks i _ hl
    refine ⟨x, fz, i :: ids, (pl i, some i) :: E, h1, ?_, ?_, h2.efz, fun vs hv => ?_, fun _ => ⟨i, E, by rw [h2.eids], rfl, cs', hl⟩⟩
    ·rw [h2.eids]; rfl
    ·intro e he
     rcases List.mem_cons.1 he with rfl | he
     ·exact ⟨rfl, _, hl, trivial⟩
     ·exact h2.ok e he
    ·match vs, hv with
     | [u], hv =>
      obtain ⟨_, B', g4, g5⟩ := hv.1
      rw [hl] at g4
      cases g4
      obtain ⟨b', c', g6, g7⟩ := g5 ⟨_, rfl⟩
      rw [g1] at g6
      cases g6
      exact ⟨bb, c, arr, e, E.map (·.1), by rw [g7], by simp [g1], g2, h2.rel _ g3⟩
   ·exact h.elim
  ·exact h.elim
 | .unit, cs, k, h => by
  dsimp only [packRM] at h
  split at h
  ·refine ⟨(), [], [], [], h, rfl, by simp [ROk], by simp [FzB], fun vs hv => ?_, fun h => by cases h⟩
   match vs, hv with
   | [], hv => exact ⟨rfl, rfl⟩
  ·exact h.elim
 | .cons s t, cs, k, h => by
  dsimp only [packRM] at h
  obtain ⟨x, fz, ids, E, h1, h2⟩ := packRM_to hR s _ _ h
  obtain ⟨y, fz', ids', F, h3, h4⟩ := packRM_to hR t _ _ h1
  refine ⟨(x, y), capp fz fz', capp ids ids', E ++ F, h3, by rw [capp_eq, rids_append, h2.eids, h4.eids], ?_, FzB_append h2.efz h4.efz, fun vs hv => ?_, fun h => by cases h⟩
  ·intro e he
   rcases List.mem_append.1 he with he | he
   ·exact h2.ok e he
   ·exact h4.ok e he
  ·rw [List.map_append]
   have g1 := h2.rel (vs.take s.sz) (by rw [ctake_eq]; exact hv.take _)
   have g2 := h4.rel (vs.drop s.sz) (by rw [cdrop_eq]; exact hv.drop _)
   exact ⟨vs.take s.sz, vs.drop s.sz, _, _, (List.take_append_drop _ _).symm, rfl, ShRel_R (fun b hb => R2_left hb) g1, ShRel_R (fun b hb => R2_right hb) g2⟩
def AlR (σ : St O) (pl : Nat → Pl) : (p : PK O) → p.den → List Nat → List REnt → Prop
 | .val _, _, q, F => q = [] ∧ F = []
 | .fn _, _, q, F => q = [] ∧ F = []
 | .rop _, _, q, F => q = [] ∧ F = []
 | .row t, x, q, F => ∃ i, q = [i] ∧ F = [(pl i, some i)] ∧ look σ.bk i = some (.row t x.1)
 | .obj k, x, q, F => ∃ i, q = [i] ∧ F = [(pl i, some i)] ∧ look σ.bk i = some (.obj k x)
 | .box b, _, q, F => ∃ i F' cs, q = [i] ∧ F = (pl i, some i) :: F' ∧ F'.length = b.wid ∧ look σ.bk i = some (.box cs)
def Al (σ : St O) (pl : Nat → Pl) : (ps : List (PK O)) → dens ps → List Nat → List REnt → Prop
 | [], _, q, E => q = [] ∧ E = []
 | p :: ps, x, q, E => ∃ q1 q2 F E', q = q1 ++ q2 ∧ E = F ++ E' ∧ AlR σ pl p x.1 q1 F ∧ Al σ pl ps x.2 q2 E'
structure Gath (cx : Cx) (σ : St O) (a : Act) (w : World) (pl : Nat → Pl) (ps : List (PK O)) (xs : List Operand) (as : dens ps) (pids sids : List Nat) (fz : List (Nat × Blk O)) (E : List REnt) : Prop where
 efz : FzB σ fz
 ok : ROk σ pl E
 entry : Entry w (R2 cx w σ pl fz) ps as (xs.map a.eval) (E.map (·.1))
 al : Al σ pl ps as pids E
 perm : (rids E).Perm (pids ++ sids)
theorem VRel_val {R : Nat → Prop} {t : Ty} {x : t.den} {v : Value} (h : TRep w R t x v) : VRel w R (.val t) x v [] := by
 unfold TRep at h
 unfold VRel
 show match t.isAgg with | true => _ | false => _
 cases ht : t.isAgg with
 | true => rw [ht] at h; obtain ⟨arr, e, h⟩ := h; exact ⟨arr, e, h, rfl⟩
 | false => rw [ht] at h; exact ⟨h, rfl⟩
theorem gather_to (hR : Rel cx σ a w pl) : ∀ (ps : List (PK O)) (xs : List Operand) (k : dens ps → List Nat → List Nat → List (Nat × Blk O) → RM O), (gather ps xs k).to σ wr →
  ∃ as pids sids fz E, (k as pids sids fz).to σ wr ∧ Gath cx σ a w pl ps xs as pids sids fz E
 | [], [], k, h => ⟨(), [], [], [], [], h, by simp [FzB], by simp [ROk], ⟨rfl, rfl⟩, ⟨rfl, rfl⟩, .nil⟩
 | [], _ :: _, k, h => by cases h
 | .val t :: ps, [], k, h => by cases h
 | .fn t :: ps, [], k, h => by cases h
 | .rop t :: ps, [], k, h => by cases h
 | .row t :: ps, [], k, h => by cases h
 | .obj t :: ps, [], k, h => by cases h
 | .box t :: ps, [], k, h => by cases h
 | .val t :: ps, x :: xs, k, h => by
  unfold gather at h
  obtain ⟨v, h1, h2⟩ := evT_to h
  cases hb : beqB (T.isAg v) t.isAgg with
  | false => rw [hb] at h2; exact h2.elim
  | true =>
   rw [hb] at h2
   simp only at h2
   obtain ⟨y, f, h3, h4, h5⟩ := ofCellsD_to hR _ _ _ _ h2
   obtain ⟨as, ids, is, g, E, h6, h7⟩ := gather_to hR ps xs _ h3
   refine ⟨(y, as), ids, is, capp f g, E, h6, FzB_append h4 h7.efz, h7.ok, ⟨a.eval x, xs.map a.eval, [], E.map (·.1), rfl, rfl, VRel_val (TRep_mono (fun b hb => R2_left hb) (fun _ _ => rfl) (TRep_of (opd_TR hR h1) h5 hb)), Entry_R (fun b hb => R2_right hb) _ _ _ _ h7.entry⟩, ⟨[], ids, [], E, rfl, rfl, ⟨rfl, rfl⟩, h7.al⟩, h7.perm⟩
 | .fn g :: ps, x :: xs, k, h => by
  unfold gather at h
  obtain ⟨v, h1, h2⟩ := evV_to h
  have hv := opd_sc hR h1
  cases hf : codeOf v with
  | none => rw [hf] at h2; exact h2.elim
  | some g' =>
   rw [hf] at h2
   simp only at h2
   cases hg : Nat.beq g g' with
   | false => rw [hg] at h2; exact h2.elim
   | true =>
    rw [hg] at h2
    have := Nat.eq_of_beq_eq_true hg
    subst this
    obtain ⟨as, ids, is, f, E, h6, h7⟩ := gather_to hR ps xs _ h2
    exact ⟨((), as), ids, is, f, E, h6, h7.efz, h7.ok, ⟨a.eval x, xs.map a.eval, [], E.map (·.1), rfl, rfl, ⟨by rw [hv, codeOf_some hf], rfl⟩, h7.entry⟩, ⟨[], ids, [], E, rfl, rfl, ⟨rfl, rfl⟩, h7.al⟩, h7.perm⟩
 | .rop t :: ps, x :: xs, k, h => by
  unfold gather at h
  obtain ⟨c, h1, h2⟩ := evC_to h
  have hc := opd_CR hR h1
  obtain ⟨y, fz, ids0, F, h3, hP⟩ := packRM_to hR _ _ _ h2
  obtain ⟨as, ids, is, f, E, h6, h7⟩ := gather_to hR ps xs _ h3
  have hrel := hP.rel [_] ⟨hc, trivial⟩
  have hF' : F = [] := by
   have := (ShRel_len _ _ _ _ hrel).2
   simpa [Sh.wid] using this
  have hi : ids0 = [] := by rw [hP.eids, hF']; rfl
  subst hF'
  subst hi
  exact ⟨(y, as), capp [] ids, is, capp fz f, E, h6, FzB_append hP.efz h7.efz, h7.ok, ⟨a.eval x, xs.map a.eval, [], E.map (·.1), rfl, rfl, ShRel_R (fun b hb => R2_left hb) hrel, Entry_R (fun b hb => R2_right hb) _ _ _ _ h7.entry⟩, ⟨[], ids, [], E, rfl, rfl, ⟨rfl, rfl⟩, h7.al⟩, h7.perm⟩
 | .row t :: ps, x :: xs, k, h => by
  unfold gather at h
  obtain ⟨c, h1, h2⟩ := evC_to h
  have hc := opd_CR hR h1
  obtain ⟨y, fz, ids0, F, h3, hP⟩ := packRM_to hR _ _ _ h2
  obtain ⟨as, ids, is, f, E, h6, h7⟩ := gather_to hR ps xs _ h3
  obtain ⟨i, F', e1, e2, hl⟩ := hP.top rfl
  have hrel := hP.rel [_] ⟨hc, trivial⟩
  have hF' : F' = [] := by
   have := (ShRel_len _ _ _ _ hrel).2
   rw [e2] at this
   simpa [Sh.wid] using this
  subst hF'
  have e1' : ids0 = [i] := e1
  subst e2
  subst e1'
  refine ⟨(y, as), capp [i] ids, is, capp fz f, [(pl i, some i)] ++ E, h6, FzB_append hP.efz h7.efz, ?_, ⟨a.eval x, xs.map a.eval, [pl i], E.map (·.1), rfl, rfl, ShRel_R (fun b hb => R2_left hb) hrel, Entry_R (fun b hb => R2_right hb) _ _ _ _ h7.entry⟩, ⟨[i], ids, [(pl i, some i)], E, rfl, rfl, ⟨i, rfl, rfl, hl⟩, h7.al⟩, ?_⟩
  ·intro e he
   rcases List.mem_append.1 he with he | he
   ·exact hP.ok e he
   ·exact h7.ok e he
  ·exact h7.perm.cons i
 | .obj kk :: ps, x :: xs, k, h => by
  unfold gather at h
  obtain ⟨c, h1, h2⟩ := evC_to h
  have hc := opd_CR hR h1
  obtain ⟨y, fz, ids0, F, h3, hP⟩ := packRM_to hR _ _ _ h2
  obtain ⟨as, ids, is, f, E, h6, h7⟩ := gather_to hR ps xs _ h3
  obtain ⟨i, F', e1, e2, hl⟩ := hP.top rfl
  have hrel := hP.rel [_] ⟨hc, trivial⟩
  have hF' : F' = [] := by
   have := (ShRel_len _ _ _ _ hrel).2
   rw [e2] at this
   simpa [Sh.wid] using this
  subst hF'
  have e1' : ids0 = [i] := e1
  subst e2
  subst e1'
  refine ⟨(y, as), capp [i] ids, is, capp fz f, [(pl i, some i)] ++ E, h6, FzB_append hP.efz h7.efz, ?_, ⟨a.eval x, xs.map a.eval, [pl i], E.map (·.1), rfl, rfl, ShRel_R (fun b hb => R2_left hb) hrel, Entry_R (fun b hb => R2_right hb) _ _ _ _ h7.entry⟩, ⟨[i], ids, [(pl i, some i)], E, rfl, rfl, ⟨i, rfl, rfl, hl⟩, h7.al⟩, ?_⟩
  ·intro e he
   rcases List.mem_append.1 he with he | he
   ·exact hP.ok e he
   ·exact h7.ok e he
  ·exact h7.perm.cons i
 | .box b :: ps, x :: xs, k, h => by
  unfold gather at h
  obtain ⟨c, h1, h2⟩ := evC_to h
  have hc := opd_CR hR h1
  split at h2
  ·rename_i i off
   obtain _ | off := off
   rotate_left
   ·exact h2.elim
   simp only [RM.to] at h2
   split at h2
   ·rename_i cs hl
    obtain ⟨y, fz, ids0, F, h3, hP⟩ := packRM_to hR _ _ _ h2
    obtain ⟨as, ids, is, f, E, h6, h7⟩ := gather_to hR ps xs _ h3
    obtain ⟨bb, c', arr, e, g1, g2, g3⟩ := hR.mem.blocks i _ hl
    obtain ⟨_, B', g4, g5⟩ := hc
    rw [hl] at g4
    cases g4
    obtain ⟨b', c'', g6, g7⟩ := g5 ⟨_, rfl⟩
    rw [g1] at g6
    cases g6
    have hrel := hP.rel _ g3
    have hlen := (ShRel_len _ _ _ _ hrel).2
    have hrel' := ShRel_R (R' := R2 cx w σ pl (capp fz f)) (fun b hb => R2_left hb) hrel
    refine ⟨(y, as), i :: ids, capp ids0 is, capp fz f, ((pl i, some i) :: F) ++ E, h6, FzB_append hP.efz h7.efz, ?_,
     ⟨a.eval x, xs.map a.eval, pl i :: F.map (·.1), E.map (·.1), rfl, by simp, ⟨bb, c', arr, e, _, by rw [g7], by rw [g1], g2, hrel'⟩, Entry_R (fun b hb => R2_right hb) _ _ _ _ h7.entry⟩,
     ⟨[i], ids, (pl i, some i) :: F, E, rfl, rfl, ⟨i, F, cs, rfl, rfl, by simpa using hlen, hl⟩, h7.al⟩, ?_⟩
    ·intro e he
     rcases List.mem_append.1 he with he | he
     ·rcases List.mem_cons.1 he with rfl | he
      ·exact ⟨rfl, _, hl, trivial⟩
      ·exact hP.ok e he
     ·exact h7.ok e he
    ·rw [rids_append, capp_eq, hP.eids]
     show (i :: (rids F ++ rids E)).Perm (i :: (ids ++ (rids F ++ is)))
     refine .cons i ?_
     refine (List.Perm.append_left _ h7.perm).trans ?_
     rw [← List.append_assoc, ← List.append_assoc]
     exact (List.perm_append_comm).append_right _
   ·exact h2.elim
  ·exact h2.elim
theorem own_single {R' : Nat → Prop} {bk' : List (Nat × Blk O)} {pl' : Nat → Pl} {lab : Nat} {t : Ty} {xs : List t.den} {p : Pl} {v : Value} (hv : v.oneCell' = true) (hl : look bk' lab = some (.row t xs)) (hp : pl' lab = p)
  (ho : ownV p xs.length v) : CR w R' bk' pl' (.own lab) v := by
 refine ⟨hv, _, hl, fun t' n hn => ?_⟩
 obtain ⟨zs, h1 | h1, h2⟩ := hn <;> cases h1
 rw [hp, ← h2]; exact ho
theorem sub_single {R' : Nat → Prop} {bk' : List (Nat × Blk O)} {pl' : Nat → Pl} {lab n : Nat} {t : Ty} {xs : List t.den} {p : Pl} {v : Value} (hv : v.oneCell' = true) (hl : look bk' lab = some (.row t xs)) (hp : pl' lab = p)
  (ho : subV p t.sz 0 n v) (hn : n ≤ xs.length) : CR w R' bk' pl' (.sub lab 0 n) v := by
 refine ⟨hv, _, hl, fun t' m hm => ?_⟩
 obtain ⟨zs, h1 | h1, h2⟩ := hm <;> cases h1
 rw [hp, ← h2]; exact ⟨ho, by omega⟩
theorem obj_single {R' : Nat → Prop} {bk' : List (Nat × Blk O)} {pl' : Nat → Pl} {lab : Nat} {k : O.K} {x : O.den k} {p : Pl} {v : Value} (hv : v.oneCell' = true) (hl : look bk' lab = some (.obj k x)) (hp : pl' lab = p)
  (ho : ∃ f, p = .obj v f) : CR w R' bk' pl' (.obj lab) v := ⟨hv, _, hl, fun _ => by rw [hp]; exact ho⟩

theorem arr_single {w : World} {R' : Nat → Prop} {bk' : List (Nat × Blk O)} {pl' : Nat → Pl} {lab n : Nat} {t : Ty} {xs : List t.den} {b : Nat} (hl : look bk' lab = some (.row t xs)) (hp : pl' lab = .at b n) (hn : xs.length = n) :
  CR w R' bk' pl' (.arr lab n) (.pointer (some ⟨b, 0, none⟩)) := by
 refine ⟨rfl, _, hl, fun t' m hm => ?_⟩
 obtain ⟨zs, h1 | h1, h2⟩ := hm <;> cases h1
 exact ⟨by rw [← h2, hn], b, hp, rfl⟩
structure Unpacked (w : World) (R : Nat → Prop) (ls : List Nat) (u : List C × List (Nat × Blk O)) (vs : List Value) (ps : List Pl) : Prop where
 keys : u.2.map (·.1) = ls
 len : ls.length = ps.length
 live : ∀ q ∈ u.2, q.2.live
 notfro : ∀ q ∈ u.2, ∀ t xs, q.2 ≠ .fro t xs
 good : ∀ R' bk' pl', (∀ b, R b → R' b) → (∀ q ∈ u.2, look bk' q.1 = some q.2) → (∀ i p, (i, p) ∈ ls.zip ps → pl' i = p) → All2 (CR w R' bk' pl') u.1 vs ∧ ∀ q ∈ u.2, BR w R' bk' pl' q.1 q.2
theorem Unpacked.one {R : Nat → Prop} {i : Nat} {c : C} {B : Blk O} {v : Value} {p : Pl} (hl : B.live) (hf : ∀ t xs, B ≠ .fro t xs)
  (h : ∀ R' bk' pl', (∀ b, R b → R' b) → look bk' i = some B → pl' i = p → CR w R' bk' pl' c v ∧ BR w R' bk' pl' i B) : Unpacked w R [i] ([c], [(i, B)]) [v] [p] :=
 ⟨rfl, rfl, fun q hq => by rw [List.mem_singleton.1 hq]; exact hl, fun q hq => by rw [List.mem_singleton.1 hq]; exact hf, fun R' bk' pl' hR hb hp => by
  obtain ⟨h1, h2⟩ := h R' bk' pl' hR (hb _ List.mem_cons_self) (hp _ _ List.mem_cons_self)
  exact ⟨⟨h1, trivial⟩, fun q hq => by rw [List.mem_singleton.1 hq]; exact h2⟩⟩
theorem Unpacked.none {R : Nat → Prop} {cs : List C} {vs : List Value} (h : ∀ R' (bk' : List (Nat × Blk O)) pl', (∀ b, R b → R' b) → All2 (CR w R' bk' pl') cs vs) : Unpacked (O := O) w R [] (cs, []) vs [] :=
 ⟨rfl, rfl, by simp, by simp, fun R' bk' pl' hR _ _ => ⟨h R' bk' pl' hR, by simp⟩⟩
theorem Unpacked.append {R : Nat → Prop} {ls ls' : List Nat} {u u' : List C × List (Nat × Blk O)} {vs vs' : List Value} {ps ps' : List Pl} (h : Unpacked w R ls u vs ps) (h' : Unpacked w R ls' u' vs' ps') :
  Unpacked w R (ls ++ ls') (capp u.1 u'.1, capp u.2 u'.2) (vs ++ vs') (ps ++ ps') := by
 rw [capp_eq, capp_eq]
 refine ⟨by simp [h.keys, h'.keys], by simp [h.len, h'.len], fun q hq => ?_, fun q hq => ?_, fun R' bk' pl' hR hb hp => ?_⟩
 ·rcases List.mem_append.1 hq with hq | hq
  ·exact h.live q hq
  ·exact h'.live q hq
 ·rcases List.mem_append.1 hq with hq | hq
  ·exact h.notfro q hq
  ·exact h'.notfro q hq
 ·obtain ⟨g1, g2⟩ := h.good R' bk' pl' hR (fun q hq => hb q (List.mem_append_left _ hq)) (fun i p hm => hp i p (mem_zip_left h.len hm))
  obtain ⟨g3, g4⟩ := h'.good R' bk' pl' hR (fun q hq => hb q (List.mem_append_right _ hq)) (fun i p hm => hp i p (mem_zip_right h.len hm))
  refine ⟨g1.append g3, fun q hq => ?_⟩
  rcases List.mem_append.1 hq with hq | hq
  ·exact g2 q hq
  ·exact g4 q hq
theorem Unpacked.ptr {R : Nat → Prop} {i : Nat} {ls : List Nat} {u : List C × List (Nat × Blk O)} {arr : Array Value} {ps : List Pl} {bb c : Nat} {e : TypeId} (hb : w.heap[bb]? = some (.cells arr e (0, 0))) (h : Unpacked w R ls u arr.toList ps) :
  Unpacked w R (i :: ls) ([.ptr i 0], (i, .box u.1) :: u.2) [.pointer (some ⟨bb, 0, Option.none⟩)] (.at bb c :: ps) := by
 refine ⟨by simp [h.keys], by simp [h.len], fun q hq => ?_, fun q hq => ?_, fun R' bk' pl' hR hbk hp => ?_⟩
 ·rcases List.mem_cons.1 hq with rfl | hq
  ·trivial
  ·exact h.live q hq
 ·rcases List.mem_cons.1 hq with rfl | hq
  ·intro t xs h; cases h
  ·exact h.notfro q hq
 ·obtain ⟨g1, g2⟩ := h.good R' bk' pl' hR (fun q hq => hbk q (List.mem_cons_of_mem _ hq)) (fun j p hm => hp j p (List.mem_cons_of_mem _ hm))
  have hpi := hp i (.at bb c) List.mem_cons_self
  refine ⟨⟨⟨rfl, _, hbk _ List.mem_cons_self, fun _ => ⟨bb, c, hpi, rfl⟩⟩, trivial⟩, fun q hq => ?_⟩
  rcases List.mem_cons.1 hq with rfl | hq
  ·exact ⟨bb, c, arr, e, hpi, hb, g1⟩
  ·exact g2 q hq
theorem unpackSh_to {R : Nat → Prop} : ∀ (sh : Sh) (x : sh.den) (nb : Nat) (vs : List Value) (ps : List Pl), ShRel w R sh x vs ps → Unpacked (O := O) w R (labs nb sh.wid) (unpackSh nb sh x) vs ps
 | .val t, x, nb, vs, ps, h => by
  obtain ⟨h1, rfl⟩ := h
  exact .none fun R' bk' pl' hR => cellsOf_CR hR t _ _ h1
 | .fn g, x, nb, vs, ps, h => by
  obtain ⟨rfl, rfl⟩ := h
  exact .none fun R' bk' pl' hR => ⟨rfl, trivial⟩
 | .rop t, x, nb, vs, ps, h => by
  obtain ⟨ad, cs, rfl, rfl, h1, h2, h3⟩ := h
  exact .none fun R' bk' pl' hR => ⟨⟨ad, cs, Rep_mono hR (fun _ _ => rfl) _ _ _ h2, hR _ h1, h3, by simp [Addr.add]⟩, trivial⟩
 | .nil, x, nb, vs, ps, h => by
  obtain ⟨rfl, rfl⟩ := h
  exact .none fun R' bk' pl' hR => ⟨rfl, trivial⟩
 | .own t, x, nb, vs, ps, h => by
  obtain ⟨v, p, rfl, rfl, h1, h2, h3, h4⟩ := h
  exact .one trivial (fun _ _ h => by cases h) fun R' bk' pl' hR hl hp => ⟨own_single h4 hl hp h3, h1, by rw [hp]; exact RowAt_R hR h2⟩
 | .sub t, x, nb, vs, ps, h => by
  obtain ⟨v, p, rfl, rfl, h1, h2, h3, h5, h4⟩ := h
  exact .one trivial (fun _ _ h => by cases h) fun R' bk' pl' hR hl hp => ⟨sub_single h4 hl hp h3 h5, h1, by rw [hp]; exact RowAt_R hR h2⟩
 | .map k, x, nb, vs, ps, h => by
  obtain ⟨v, f, rfl, rfl, h1⟩ := h
  exact .one trivial (fun _ _ h => by cases h) fun R' bk' pl' hR hl hp => ⟨obj_single (MapRel_one h1) hl hp ⟨f, rfl⟩, v, f, hp, MapRel_R hR h1⟩
 | .arrp n t, x, nb, vs, ps, h => by
  obtain ⟨b, rfl, rfl, h1, h2, h3⟩ := h
  exact .one trivial (fun _ _ h => by cases h) fun R' bk' pl' hR hl hp => ⟨arr_single hl hp h3, h1, by rw [hp]; exact RowAt_R hR h2⟩
 | .ptr b, x, nb, vs, ps, h => by
  obtain ⟨bb, c, arr, e, qs, rfl, rfl, h1, h2⟩ := h
  exact .ptr h1 (unpackSh_to b x (nb + 1) _ _ h2)
 | .unit, x, nb, vs, ps, h => by
  obtain ⟨rfl, rfl⟩ := h
  exact .none fun R' bk' pl' hR => trivial
 | .cons s t, x, nb, vs, ps, h => by
  obtain ⟨v1, v2, p1, p2, rfl, rfl, h1, h2⟩ := h
  have := (unpackSh_to s x.1 nb _ _ h1).append (unpackSh_to t x.2 (nb + s.wid) _ _ h2)
  rw [← labs_append] at this
  exact this
theorem unpackP_to {R : Nat → Prop} (pin : Option Nat) (sh : Sh) (x : sh.den) (nb : Nat) (vs : List Value) (ps : List Pl) (h : ShRel w R sh x vs ps) : Unpacked (O := O) w R (labsP pin nb sh) (unpackP pin nb sh x) vs ps := by
 cases pin with
 | none => exact unpackSh_to sh x nb vs ps h
 | some j =>
  cases sh with
  | sub t =>
   obtain ⟨v, p, rfl, rfl, h1, h2, h3, h5, h4⟩ := h
   exact .one trivial (fun _ _ h => by cases h) fun R' bk' pl' hR hl hp => ⟨sub_single h4 hl hp h3 h5, h1, by rw [hp]; exact RowAt_R hR h2⟩
  | map k =>
   obtain ⟨v, f, rfl, rfl, h1⟩ := h
   exact .one trivial (fun _ _ h => by cases h) fun R' bk' pl' hR hl hp => ⟨obj_single (MapRel_one h1) hl hp ⟨f, rfl⟩, v, f, hp, MapRel_R hR h1⟩
  | ptr b =>
   obtain ⟨bb, c, arr, e, qs, rfl, rfl, h1, h2⟩ := h
   exact .ptr h1 (unpackSh_to b x nb _ _ h2)
  | val t => exact unpackSh_to (.val t) x nb vs ps h
  | fn g => exact unpackSh_to (.fn g) x nb vs ps h
  | rop t => exact unpackSh_to (.rop t) x nb vs ps h
  | nil => exact unpackSh_to .nil x nb vs ps h
  | own t => exact unpackSh_to (.own t) x nb vs ps h
  | unit => exact unpackSh_to .unit x nb vs ps h
  | cons a b => exact unpackSh_to (.cons a b) x nb vs ps h
  | arrp n t => exact unpackSh_to (.arrp n t) x nb vs ps h
theorem tOf_TR {R : Nat → Prop} {bk : List (Nat × Blk O)} {t : Ty} {x : t.den} {v : Value} (h : TRep w R t x v) : TR w R bk pl (tOf t x) v := by
 cases t with
 | pair ta tb =>
  obtain ⟨arr, e, h⟩ := h
  exact ⟨arr, e, cellsOf_CR (fun _ h => h) _ _ _ h⟩
 | unit =>
  obtain ⟨arr, e, h⟩ := h
  exact ⟨arr, e, by rw [show arr.toList = [] from h]; trivial⟩
 | int k =>
  have h' : [v] = [Value.int k x] := h
  simp only [List.cons.injEq, and_true] at h'
  exact h'
 | bool =>
  have h' : [v] = [Value.bool x] := h
  simp only [List.cons.injEq, and_true] at h'
  exact h'
 | str =>
  have h' : [v] = [Value.string x] := h
  simp only [List.cons.injEq, and_true] at h'
  exact h'
 | slice t => exact h
def resLs (nb : Nat) : List (RK O) → List Nat
 | [] => []
 | .val _ :: rs => resLs (Nat.add nb 1) rs
 | .own _ :: rs => nb :: resLs (Nat.add nb 1) rs
 | .sub _ :: rs => nb :: resLs (Nat.add nb 1) rs
 | .obj _ :: rs => nb :: resLs (Nat.add nb 1) rs
 | .box b :: rs => nb :: (labs (Nat.add nb 1) b.wid ++ resLs (Nat.add nb (Nat.add b.wid 1)) rs)
structure UnpackedT (w : World) (R : Nat → Prop) (ls : List Nat) (ts : List T) (bs : List (Nat × Blk O)) (vs : List Value) (ps : List Pl) : Prop where
 keys : bs.map (·.1) = ls
 len : ls.length = ps.length
 live : ∀ q ∈ bs, q.2.live
 notfro : ∀ q ∈ bs, ∀ t xs, q.2 ≠ .fro t xs
 good : ∀ R' bk' pl', (∀ b, R b → R' b) → (∀ q ∈ bs, look bk' q.1 = some q.2) → (∀ i p, (i, p) ∈ ls.zip ps → pl' i = p) → All2 (TR w R' bk' pl') ts vs ∧ ∀ q ∈ bs, BR w R' bk' pl' q.1 q.2
theorem UnpackedT.cons {R : Nat → Prop} {ls ls' : List Nat} {t : T} {ts : List T} {bs bs' : List (Nat × Blk O)} {cs : List C} {v : Value} {vs vs1 : List Value} {ps ps' : List Pl} (h : Unpacked w R ls (cs, bs) vs1 ps)
  (ht : ∀ R' (bk' : List (Nat × Blk O)) pl', All2 (CR w R' bk' pl') cs vs1 → TR w R' bk' pl' t v) (h' : UnpackedT w R ls' ts bs' vs ps') : UnpackedT w R (ls ++ ls') (t :: ts) (bs ++ bs') (v :: vs) (ps ++ ps') := by
 refine ⟨by simp [h.keys, h'.keys], by simp [h.len, h'.len], fun q hq => ?_, fun q hq => ?_, fun R' bk' pl' hR hb hp => ?_⟩
 ·rcases List.mem_append.1 hq with hq | hq
  ·exact h.live q hq
  ·exact h'.live q hq
 ·rcases List.mem_append.1 hq with hq | hq
  ·exact h.notfro q hq
  ·exact h'.notfro q hq
 ·obtain ⟨g1, g2⟩ := h.good R' bk' pl' hR (fun q hq => hb q (List.mem_append_left _ hq)) (fun i p hm => hp i p (mem_zip_left h.len hm))
  obtain ⟨g3, g4⟩ := h'.good R' bk' pl' hR (fun q hq => hb q (List.mem_append_right _ hq)) (fun i p hm => hp i p (mem_zip_right h.len hm))
  refine ⟨⟨ht _ _ _ g1, g3⟩, fun q hq => ?_⟩
  rcases List.mem_append.1 hq with hq | hq
  ·exact g2 q hq
  ·exact g4 q hq
theorem one_TR {R : Nat → Prop} {bk : List (Nat × Blk O)} {c : C} {v : Value} (h : All2 (CR w R bk pl) [c] [v]) : TR w R bk pl (.one c) v := h.1
theorem resW_to {R : Nat → Prop} : ∀ (rs : List (RK O)) (r : rdens rs) (vs : List Value) (rpl : List Pl) (nb : Nat), Res w R rs r vs rpl → UnpackedT w R (resLs nb rs) (resW nb rs r).1 (resW nb rs r).2 vs rpl
 | [], _, vs, rpl, nb, ⟨e1, e2⟩ => by
  subst e1; subst e2
  exact ⟨rfl, rfl, by simp [resW], by simp [resW], fun _ _ _ _ _ _ => ⟨trivial, by simp [resW]⟩⟩
 | .val t :: rs, x, _, _, nb, ⟨v, vs, q, rpl, e1, e2, h1, h2⟩ => by
  subst e1; subst e2
  have ih := resW_to rs x.2 vs rpl (nb + 1) h2
  have h1' : TRep w R t x.1 v ∧ q = [] := by
   unfold VRel at h1
   unfold TRep
   change (match t.isAgg with | true => _ | false => _) at h1
   cases ht : t.isAgg with
   | true => rw [ht] at h1; obtain ⟨arr, e, h, hq⟩ := h1; exact ⟨⟨arr, e, h⟩, hq⟩
   | false => rw [ht] at h1; exact ⟨h1.1, h1.2⟩
  obtain ⟨h1', rfl⟩ := h1'
  refine ⟨ih.keys, ih.len, ih.live, ih.notfro, fun R' bk' pl' hR hb hp => ?_⟩
  obtain ⟨g1, g2⟩ := ih.good R' bk' pl' hR hb hp
  exact ⟨⟨tOf_TR (TRep_mono hR (fun _ _ => rfl) h1'), g1⟩, g2⟩
 | .own t :: rs, x, _, _, nb, ⟨v, vs, q, rpl, e1, e2, h1, h2⟩ => by
  subst e1; subst e2
  exact .cons (unpackSh_to (.own t) x.1 nb _ _ h1) (fun _ _ _ h => one_TR h) (resW_to rs x.2 vs rpl (nb + 1) h2)
 | .sub t :: rs, x, _, _, nb, ⟨v, vs, q, rpl, e1, e2, h1, h2⟩ => by
  subst e1; subst e2
  exact .cons (unpackSh_to (.sub t) x.1 nb _ _ h1) (fun _ _ _ h => one_TR h) (resW_to rs x.2 vs rpl (nb + 1) h2)
 | .obj t :: rs, x, _, _, nb, ⟨v, vs, q, rpl, e1, e2, h1, h2⟩ => by
  subst e1; subst e2
  exact .cons (unpackSh_to (.map t) x.1 nb _ _ h1) (fun _ _ _ h => one_TR h) (resW_to rs x.2 vs rpl (nb + 1) h2)
 | .box b :: rs, x, _, _, nb, ⟨v, vs, q, rpl, e1, e2, h1, h2⟩ => by
  subst e1; subst e2
  have := UnpackedT.cons (unpackSh_to (.ptr b) x.1 nb _ _ h1) (fun _ _ _ h => one_TR h) (resW_to rs x.2 vs rpl (nb + (b.wid + 1)) h2)
  have e : (resW nb (.box b :: rs) x).2 = (unpackSh nb (.ptr b) x.1).2 ++ (resW (nb + (b.wid + 1)) rs x.2).2 := by
   show _ :: capp _ _ = _
   rw [capp_eq]; rfl
  rw [e]
  exact this
def updLs (nb : Nat) : List (PK O) → List Nat → List Nat
 | [], _ => []
 | .val _ :: ps, ids => updLs nb ps ids
 | .fn _ :: ps, ids => updLs nb ps ids
 | .rop _ :: ps, ids => updLs nb ps ids
 | .row _ :: ps, ids => match ids with | i :: ids => i :: updLs nb ps ids | [] => []
 | .obj _ :: ps, ids => match ids with | i :: ids => i :: updLs nb ps ids | [] => []
 | .box b :: ps, ids => match ids with | i :: ids => i :: (labs nb b.wid ++ updLs (Nat.add nb b.wid) ps ids) | [] => []
theorem UnpackedT.none {R : Nat → Prop} : UnpackedT (O := O) w R [] [] [] [] [] := ⟨rfl, rfl, by simp, by simp, fun _ _ _ _ _ _ => ⟨trivial, by simp⟩⟩
theorem UnpackedT.blocks {R : Nat → Prop} {ls ls' : List Nat} {u : List C × List (Nat × Blk O)} {bs' : List (Nat × Blk O)} {vs1 : List Value} {ps ps' : List Pl} (h : Unpacked w R ls u vs1 ps)
  (h' : UnpackedT w R ls' [] bs' [] ps') : UnpackedT w R (ls ++ ls') [] (u.2 ++ bs') [] (ps ++ ps') := by
 refine ⟨by simp [h.keys, h'.keys], by simp [h.len, h'.len], fun q hq => ?_, fun q hq => ?_, fun R' bk' pl' hR hb hp => ?_⟩
 ·rcases List.mem_append.1 hq with hq | hq
  ·exact h.live q hq
  ·exact h'.live q hq
 ·rcases List.mem_append.1 hq with hq | hq
  ·exact h.notfro q hq
  ·exact h'.notfro q hq
 ·obtain ⟨g1, g2⟩ := h.good R' bk' pl' hR (fun q hq => hb q (List.mem_append_left _ hq)) (fun i p hm => hp i p (mem_zip_left h.len hm))
  obtain ⟨g3, g4⟩ := h'.good R' bk' pl' hR (fun q hq => hb q (List.mem_append_right _ hq)) (fun i p hm => hp i p (mem_zip_right h.len hm))
  refine ⟨trivial, fun q hq => ?_⟩
  rcases List.mem_append.1 hq with hq | hq
  ·exact g2 q hq
  ·exact g4 q hq
theorem UnpackedT.block {R : Nat → Prop} {ls' : List Nat} {i : Nat} {B : Blk O} {bs' : List (Nat × Blk O)} {p : Pl} {ps' : List Pl} (hl : B.live) (hf : ∀ t xs, B ≠ .fro t xs)
  (h : ∀ R' bk' pl', (∀ b, R b → R' b) → pl' i = p → BR w R' bk' pl' i B) (h' : UnpackedT w R ls' [] bs' [] ps') : UnpackedT w R (i :: ls') [] ((i, B) :: bs') [] (p :: ps') := by
 refine ⟨by simp [h'.keys], by simp [h'.len], fun q hq => ?_, fun q hq => ?_, fun R' bk' pl' hR hb hp => ?_⟩
 ·rcases List.mem_cons.1 hq with rfl | hq
  ·exact hl
  ·exact h'.live q hq
 ·rcases List.mem_cons.1 hq with rfl | hq
  ·exact hf
  ·exact h'.notfro q hq
 ·obtain ⟨_, g4⟩ := h'.good R' bk' pl' hR (fun q hq => hb q (List.mem_cons_of_mem _ hq)) (fun j p hm => hp j p (List.mem_cons_of_mem _ hm))
  refine ⟨trivial, fun q hq => ?_⟩
  rcases List.mem_cons.1 hq with rfl | hq
  ·exact h R' bk' pl' hR (hp _ _ List.mem_cons_self)
  ·exact g4 q hq
theorem updW_to {w' : World} {R : Nat → Prop} (hR : Rel cx σ a w pl) : ∀ (ps : List (PK O)) (x : dens ps) (u : upds ps) (pids : List Nat) (E : List REnt) (n : List Pl) (nb : Nat),
  Al σ pl ps x pids E → Upd w' R ps u (E.map (·.1)) n → UnpackedT w' R (updLs nb ps pids) [] (updW nb ps u pids) [] n
 | [], x, u, _, _, _, nb, ⟨e1, e2⟩, ⟨e3, e4⟩ => by
  subst e1; subst e4
  exact .none
 | .val t :: ps, x, u, _, _, _, nb, ⟨q1, q2, F, E, e1, e2, ⟨a1, a2⟩, h2⟩, ⟨qo, o', qn, n', e3, e4, ⟨a3, a4⟩, h4⟩ => by
  subst a1; subst a2; subst a3; subst a4
  have e3' := (congrArg (List.map (·.1)) e2).symm.trans e3
  simp only [List.nil_append] at e1 e2 e3' e4
  subst e1; subst e2; subst e4; subst e3'
  exact updW_to hR ps x.2 u.2 _ _ _ nb h2 h4
 | .fn t :: ps, x, u, _, _, _, nb, ⟨q1, q2, F, E, e1, e2, ⟨a1, a2⟩, h2⟩, ⟨qo, o', qn, n', e3, e4, ⟨a3, a4⟩, h4⟩ => by
  subst a1; subst a2; subst a3; subst a4
  have e3' := (congrArg (List.map (·.1)) e2).symm.trans e3
  simp only [List.nil_append] at e1 e2 e3' e4
  subst e1; subst e2; subst e4; subst e3'
  exact updW_to hR ps x.2 u.2 _ _ _ nb h2 h4
 | .rop t :: ps, x, u, _, _, _, nb, ⟨q1, q2, F, E, e1, e2, ⟨a1, a2⟩, h2⟩, ⟨qo, o', qn, n', e3, e4, ⟨a3, a4⟩, h4⟩ => by
  subst a1; subst a2; subst a3; subst a4
  have e3' := (congrArg (List.map (·.1)) e2).symm.trans e3
  simp only [List.nil_append] at e1 e2 e3' e4
  subst e1; subst e2; subst e4; subst e3'
  exact updW_to hR ps x.2 u.2 _ _ _ nb h2 h4
 | .row t :: ps, x, u, _, _, _, nb, ⟨q1, q2, F, E, e1, e2, ⟨i, a1, a2, a5⟩, h2⟩, ⟨qo, o', qn, n', e3, e4, ⟨p, q, a3, a4, a6, a7⟩, h4⟩ => by
  subst a1; subst a2; subst a3; subst a4; subst e1; subst e2; subst e4
  have e3' : pl i = p ∧ E.map (·.1) = o' := by simpa using e3
  obtain ⟨rfl, rfl⟩ := e3'
  have hz := (row_of hR (.inl a5)).1
  exact .block trivial (fun _ _ h => by cases h) (fun R' bk' pl' hR' hp => ⟨hz, by rw [hp]; exact RowAt_R hR' a7⟩) (updW_to hR ps x.2 u.2 q2 E n' nb h2 h4)
 | .obj k :: ps, x, u, _, _, _, nb, ⟨q1, q2, F, E, e1, e2, ⟨i, a1, a2, a5⟩, h2⟩, ⟨qo, o', qn, n', e3, e4, ⟨p, v, f, a3, a4, a6, a7⟩, h4⟩ => by
  subst a1; subst a2; subst a3; subst a4; subst e1; subst e2; subst e4
  have e3' : pl i = p ∧ E.map (·.1) = o' := by simpa using e3
  obtain ⟨rfl, rfl⟩ := e3'
  exact .block trivial (fun _ _ h => by cases h) (fun R' bk' pl' hR' hp => ⟨v, f, hp, MapRel_R hR' a7⟩) (updW_to hR ps x.2 u.2 q2 E n' nb h2 h4)
 | .box b :: ps, x, u, _, _, _, nb, ⟨q1, q2, F, E, e1, e2, ⟨i, F', cs, a1, a2, a5, a8⟩, h2⟩, ⟨qo, o', qn, n', e3, e4, ⟨bb, c, so, sn, arr, e, a3, a9, a4, a6, a7⟩, h4⟩ => by
  subst a1; subst a2; subst a3; subst a4; subst e1; subst e2; subst e4
  have e3' : pl i = .at bb c ∧ F'.map (·.1) ++ E.map (·.1) = so ++ o' := by simpa using e3
  obtain ⟨g1, g2⟩ := e3'
  obtain ⟨g3, g4⟩ := List.append_inj g2 (by rw [List.length_map, a5, a9])
  subst g4
  have := UnpackedT.blocks (.ptr (i := i) (bb := bb) (c := c) a6 (unpackSh_to b u.1 nb _ _ a7)) (updW_to hR ps x.2 u.2 q2 E n' (nb + b.wid) h2 h4)
  have e' : updW nb (.box b :: ps) u ([i] ++ q2) = ((i, Blk.box (unpackSh (O := O) nb b u.1).1) :: (unpackSh nb b u.1).2) ++ updW (nb + b.wid) ps u.2 q2 := by
   show _ :: capp _ _ = _
   rw [capp_eq]; rfl
  rw [e']
  exact this
def PinOk (σ : St O) (pl : Nat → Pl) (i : Nat) (p : Pl) (B : Blk O) : Prop :=
 (pl i).same p ∧ ∃ B0, look σ.bk i = some B0 ∧ B0.live ∧ (∀ t m, isRow B t m → isRow B0 t m) ∧ (isBox B → isBox B0) ∧ (isObj B → isObj B0)
theorem updW_pins {w' : World} {R : Nat → Prop} : ∀ (ps : List (PK O)) (x : dens ps) (u : upds ps) (pids : List Nat) (E : List REnt) (n : List Pl) (nb : Nat),
  Al σ pl ps x pids E → Upd w' R ps u (E.map (·.1)) n → Kept ps x u → ∀ i ∈ pids, ∃ p B, (i, p) ∈ (updLs nb ps pids).zip n ∧ (i, B) ∈ updW nb ps u pids ∧ PinOk σ pl i p B
 | [], x, u, _, _, _, nb, ⟨e1, e2⟩, ⟨e3, e4⟩, _, i, hi => by
  subst e1; cases hi
 | .val t :: ps, x, u, _, _, _, nb, ⟨q1, q2, F, E, e1, e2, ⟨a1, a2⟩, h2⟩, ⟨qo, o', qn, n', e3, e4, ⟨a3, a4⟩, h4⟩, hk, i, hi => by
  subst a1; subst a2; subst a3; subst a4
  have e3' := (congrArg (List.map (·.1)) e2).symm.trans e3
  simp only [List.nil_append] at e1 e2 e3' e4
  subst e1; subst e2; subst e4; subst e3'
  exact updW_pins ps x.2 u.2 _ _ _ nb h2 h4 hk i hi
 | .fn t :: ps, x, u, _, _, _, nb, ⟨q1, q2, F, E, e1, e2, ⟨a1, a2⟩, h2⟩, ⟨qo, o', qn, n', e3, e4, ⟨a3, a4⟩, h4⟩, hk, i, hi => by
  subst a1; subst a2; subst a3; subst a4
  have e3' := (congrArg (List.map (·.1)) e2).symm.trans e3
  simp only [List.nil_append] at e1 e2 e3' e4
  subst e1; subst e2; subst e4; subst e3'
  exact updW_pins ps x.2 u.2 _ _ _ nb h2 h4 hk i hi
 | .rop t :: ps, x, u, _, _, _, nb, ⟨q1, q2, F, E, e1, e2, ⟨a1, a2⟩, h2⟩, ⟨qo, o', qn, n', e3, e4, ⟨a3, a4⟩, h4⟩, hk, i, hi => by
  subst a1; subst a2; subst a3; subst a4
  have e3' := (congrArg (List.map (·.1)) e2).symm.trans e3
  simp only [List.nil_append] at e1 e2 e3' e4
  subst e1; subst e2; subst e4; subst e3'
  exact updW_pins ps x.2 u.2 _ _ _ nb h2 h4 hk i hi
 | .row t :: ps, x, u, _, _, _, nb, ⟨q1, q2, F, E, e1, e2, ⟨j, a1, a2, a5⟩, h2⟩, ⟨qo, o', qn, n', e3, e4, ⟨p, q, a3, a4, a6, a7⟩, h4⟩, hk, i, hi => by
  subst a1; subst a2; subst a3; subst a4; subst e1; subst e2; subst e4
  have e3' : pl j = p ∧ E.map (·.1) = o' := by simpa using e3
  obtain ⟨rfl, rfl⟩ := e3'
  rcases List.mem_cons.1 hi with rfl | hi
  ·refine ⟨q, _, List.mem_cons_self, List.mem_cons_self, a6, _, a5, trivial, fun t' m hm => ?_, (fun ⟨_, e⟩ => by cases e), (fun e => by cases e)⟩
   obtain ⟨zs, e | e, hl⟩ := hm
   ·cases e
    exact ⟨x.1.1, .inl rfl, by rw [← hl]; exact hk.1.symm⟩
   ·cases e
  ·obtain ⟨p, B, g1, g2, g3⟩ := updW_pins ps x.2 u.2 q2 E n' nb h2 h4 hk.2 i hi
   exact ⟨p, B, List.mem_cons_of_mem _ g1, List.mem_cons_of_mem _ g2, g3⟩
 | .obj k :: ps, x, u, _, _, _, nb, ⟨q1, q2, F, E, e1, e2, ⟨j, a1, a2, a5⟩, h2⟩, ⟨qo, o', qn, n', e3, e4, ⟨p, v, f, a3, a4, a6, a7⟩, h4⟩, hk, i, hi => by
  subst a1; subst a2; subst a3; subst a4; subst e1; subst e2; subst e4
  have e3' : pl j = p ∧ E.map (·.1) = o' := by simpa using e3
  obtain ⟨rfl, rfl⟩ := e3'
  rcases List.mem_cons.1 hi with rfl | hi
  ·refine ⟨_, _, List.mem_cons_self, List.mem_cons_self, a6, _, a5, trivial, fun t' m hm => ?_, (fun ⟨_, e⟩ => by cases e), (fun _ => rfl)⟩
   obtain ⟨zs, e | e, hl⟩ := hm <;> cases e
  ·obtain ⟨p, B, g1, g2, g3⟩ := updW_pins ps x.2 u.2 q2 E n' nb h2 h4 hk i hi
   exact ⟨p, B, List.mem_cons_of_mem _ g1, List.mem_cons_of_mem _ g2, g3⟩
 | .box b :: ps, x, u, _, _, _, nb, ⟨q1, q2, F, E, e1, e2, ⟨j, F', cs, a1, a2, a5, a8⟩, h2⟩, ⟨qo, o', qn, n', e3, e4, ⟨bb, c, so, sn, arr, e, a3, a9, a4, a6, a7⟩, h4⟩, hk, i, hi => by
  subst a1; subst a2; subst a3; subst a4; subst e1; subst e2; subst e4
  have e3' : pl j = .at bb c ∧ F'.map (·.1) ++ E.map (·.1) = so ++ o' := by simpa using e3
  obtain ⟨g1, g2⟩ := e3'
  obtain ⟨g3, g4⟩ := List.append_inj g2 (by rw [List.length_map, a5, a9])
  subst g4
  have hsn : (labs nb b.wid).length = sn.length := by rw [labs_length]; exact (ShRel_len _ _ _ _ a7).2.symm
  rcases List.mem_cons.1 hi with rfl | hi
  ·refine ⟨_, _, List.mem_cons_self, List.mem_cons_self, by rw [g1]; exact Pl.same_refl _, _, a8, trivial, fun t' m hm => ?_, (fun _ => ⟨_, rfl⟩), (fun e => by cases e)⟩
   obtain ⟨zs, e | e, hl⟩ := hm <;> cases e
  ·obtain ⟨p, B, k1, k2, k3⟩ := updW_pins ps x.2 u.2 q2 E n' (nb + b.wid) h2 h4 hk i hi
   refine ⟨p, B, List.mem_cons_of_mem _ (mem_zip_right hsn k1), List.mem_cons_of_mem _ ?_, k3⟩
   show _ ∈ capp _ _
   rw [capp_eq]
   exact List.mem_append_right _ k2
theorem resLs_mem : ∀ {rs : List (RK O)} {nb l : Nat}, l ∈ resLs nb rs → nb ≤ l ∧ l < nb + resN rs
 | [], nb, l, h => by cases h
 | .val _ :: rs, nb, l, h => by
  have := resLs_mem (rs := rs) (nb := nb + 1) h
  simp only [resN, RK.wid, Nat.add_eq]; omega
 | .own _ :: rs, nb, l, h => by
  simp only [resN, RK.wid, Nat.add_eq]
  rcases List.mem_cons.1 h with rfl | h
  ·omega
  ·have := resLs_mem (rs := rs) (nb := nb + 1) h; omega
 | .sub _ :: rs, nb, l, h => by
  simp only [resN, RK.wid, Nat.add_eq]
  rcases List.mem_cons.1 h with rfl | h
  ·omega
  ·have := resLs_mem (rs := rs) (nb := nb + 1) h; omega
 | .obj _ :: rs, nb, l, h => by
  simp only [resN, RK.wid, Nat.add_eq]
  rcases List.mem_cons.1 h with rfl | h
  ·omega
  ·have := resLs_mem (rs := rs) (nb := nb + 1) h; omega
 | .box b :: rs, nb, l, h => by
  simp only [resN, RK.wid, Nat.add_eq]
  rcases List.mem_cons.1 h with rfl | h
  ·omega
  ·rcases List.mem_append.1 h with h | h
   ·have := labs_mem.1 h; simp only [Nat.add_eq] at this; omega
   ·have := resLs_mem (rs := rs) (nb := nb + (b.wid + 1)) h; omega
theorem updLs_mem : ∀ {ps : List (PK O)} {nb : Nat} {ids : List Nat} {l : Nat}, l ∈ updLs nb ps ids → l ∈ ids ∨ (nb ≤ l ∧ l < nb + updN ps)
 | [], nb, ids, l, h => by cases h
 | .val _ :: ps, nb, ids, l, h => updLs_mem (ps := ps) h
 | .fn _ :: ps, nb, ids, l, h => updLs_mem (ps := ps) h
 | .rop _ :: ps, nb, ids, l, h => updLs_mem (ps := ps) h
 | .row _ :: ps, nb, [], l, h => by cases h
 | .obj _ :: ps, nb, [], l, h => by cases h
 | .box _ :: ps, nb, [], l, h => by cases h
 | .row _ :: ps, nb, i :: ids, l, h => by
  rcases List.mem_cons.1 h with rfl | h
  ·exact .inl List.mem_cons_self
  ·exact (updLs_mem (ps := ps) h).imp (List.mem_cons_of_mem _) id
 | .obj _ :: ps, nb, i :: ids, l, h => by
  rcases List.mem_cons.1 h with rfl | h
  ·exact .inl List.mem_cons_self
  ·exact (updLs_mem (ps := ps) h).imp (List.mem_cons_of_mem _) id
 | .box b :: ps, nb, i :: ids, l, h => by
  simp only [updN, Nat.add_eq]
  rcases List.mem_cons.1 h with rfl | h
  ·exact .inl List.mem_cons_self
  ·rcases List.mem_append.1 h with h | h
   ·have := labs_mem.1 h; exact .inr (by omega)
   ·rcases updLs_mem (ps := ps) (nb := nb + b.wid) h with h | h
    ·exact .inl (List.mem_cons_of_mem _ h)
    ·exact .inr (by omega)
theorem freshes_to : ∀ {n nb : Nat} {k : RM O}, (freshes nb n k).to σ wr → (∀ i, nb ≤ i → i < nb + n → look σ.bk i = none ∧ 64 ≤ i) ∧ k.to σ wr
 | 0, nb, k, h => ⟨fun i h1 h2 => by omega, h⟩
 | n + 1, nb, k, h => by
  obtain ⟨h1, h2, h3⟩ := fresh_to h
  obtain ⟨h4, h5⟩ := freshes_to h3
  refine ⟨fun i h6 h7 => ?_, h5⟩
  by_cases e : i = nb
  ·subst e; exact ⟨h1, h2⟩
  ·exact h4 i (show nb + 1 ≤ i by omega) (show i < nb + 1 + n by omega)
end
end Go.BB
