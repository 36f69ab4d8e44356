/- A symbolic machine for the model's code, and what it shows of this seat's functions. No conditions. -/
import Derived.Test.YtcdnkkakfkkpgaaReg3
set_option linter.unusedSimpArgs false
set_option linter.unusedVariables false
namespace Go.BB
open Go
section
variable {O : ObjK} {cx : Cx} {σ τ : St O} {a : Act} {w : World} {pl : Nat → Pl} {cfg : Cfg O} {P : Program}

/-- a block that is laid anew: its label, its place, its old label -/
abbrev Ent := Nat × Pl × Option Nat
def idsOf (E : List Ent) : List Nat := E.filterMap (·.2.2)
def EntOk (σ : St O) (pl : Nat → Pl) (lo hi : Nat) (e : Ent) : Prop :=
  ((e.1 < 64 ∧ e.2.2 = some e.1) ∨ (64 ≤ e.1 ∧ lo ≤ e.1 ∧ e.1 < hi ∧ ∀ i, e.2.2 = some i → 64 ≤ i)) ∧
  match e.2.2 with
  | some i => e.2.1 = pl i ∧ liveAt σ.bk i
  | none => e.2.1 = .nil
def Chunk (σ : St O) (pl : Nat → Pl) (lo hi : Nat) (E : List Ent) : Prop := ∀ e ∈ E, EntOk σ pl lo hi e
theorem EntOk.wider {lo hi lo' hi' : Nat} {e : Ent} (h : EntOk σ pl lo hi e) (h1 : lo' ≤ lo) (h2 : hi ≤ hi') : EntOk σ pl lo' hi' e :=
  ⟨h.1.imp id fun ⟨a, b, c, d⟩ => ⟨a, by omega, by omega, d⟩, h.2⟩
theorem Chunk.nil {lo hi : Nat} : Chunk σ pl lo hi [] := by simp [Chunk]
theorem Chunk.append {lo mid hi : Nat} {E F : List Ent} (h : Chunk σ pl lo mid E) (h' : Chunk σ pl mid hi F) (h1 : lo ≤ mid) (h2 : mid ≤ hi) : Chunk σ pl lo hi (E ++ F) := by
  intro e he
  rcases List.mem_append.1 he with he | he
  · exact (h e he).wider (Nat.le_refl _) h2
  · exact (h' e he).wider h1 (Nat.le_refl _)
theorem idsOf_append (E F : List Ent) : idsOf (E ++ F) = idsOf E ++ idsOf F := by simp [idsOf]
/-- labels and old labels -/
def Fine (E : List Ent) : Prop := (idsOf E).Nodup → E.Pairwise fun e f => e.1 ≠ f.1
theorem Fine.append {lo mid hi : Nat} {E F : List Ent} (h : Chunk σ pl lo mid E) (h' : Chunk σ pl mid hi F) (hE : Fine E) (hF : Fine F) : Fine (E ++ F) := by
  intro hn
  rw [idsOf_append, List.nodup_append] at hn
  refine List.pairwise_append.2 ⟨hE hn.1, hF hn.2.1, fun e he f hf hef => ?_⟩
  rcases (h e he).1 with ⟨h1, h2⟩ | ⟨h1, h2, h3, h4⟩
  · rcases (h' f hf).1 with ⟨g1, g2⟩ | ⟨g1, g2, g3, g4⟩
    · exact hn.2.2 _ (List.mem_filterMap.2 ⟨e, he, h2⟩) _ (List.mem_filterMap.2 ⟨f, hf, g2⟩) hef
    · omega
  · rcases (h' f hf).1 with ⟨g1, g2⟩ | ⟨g1, g2, g3, g4⟩
    · omega
    · omega
theorem Fine.one (e : Ent) : Fine [e] := fun _ => List.pairwise_singleton _ _
theorem Fine.nil : Fine [] := fun _ => List.Pairwise.nil
/-- what the laying anew of a part comes to -/
structure Laid (cx : Cx) (σ : St O) (w : World) (pl : Nat → Pl) (lo hi : Nat) (bs : List (Nat × Blk O)) (E : List Ent) (G : (Nat → Prop) → List (Nat × Blk O) → (Nat → Pl) → Prop) : Prop where
  chunk : Chunk σ pl lo hi E
  fine : Fine E
  keys : bs.map (·.1) = E.map (·.1)
  live : ∀ p ∈ bs, p.2.live
  good : ∀ R' bk' pl', (∀ b, RO cx w σ.bk pl b → R' b) → (∀ p ∈ bs, look bk' p.1 = some p.2) → (∀ e ∈ E, pl' e.1 = e.2.1) → G R' bk' pl' ∧ ∀ p ∈ bs, BR w R' bk' pl' p.1 p.2
theorem Laid.append {lo mid hi : Nat} {bs bs' : List (Nat × Blk O)} {E E' : List Ent} {G G' : (Nat → Prop) → List (Nat × Blk O) → (Nat → Pl) → Prop}
    (h : Laid cx σ w pl lo mid bs E G) (h' : Laid cx σ w pl mid hi bs' E' G') (h1 : lo ≤ mid) (h2 : mid ≤ hi) :
    Laid cx σ w pl lo hi (capp bs bs') (E ++ E') fun R bk p => G R bk p ∧ G' R bk p := by
  rw [capp_eq]
  refine ⟨h.chunk.append h'.chunk h1 h2, .append h.chunk h'.chunk h.fine h'.fine, by simp [h.keys, h'.keys], fun p hp => ?_, fun R' bk' pl' hR hb he => ?_⟩
  · rcases List.mem_append.1 hp with hp | hp
    · exact h.live p hp
    · exact h'.live p hp
  · obtain ⟨g1, g2⟩ := h.good R' bk' pl' hR (fun p hp => hb p (List.mem_append_left _ hp)) (fun e hm => he e (List.mem_append_left _ hm))
    obtain ⟨g3, g4⟩ := h'.good R' bk' pl' hR (fun p hp => hb p (List.mem_append_right _ hp)) (fun e hm => he e (List.mem_append_right _ hm))
    refine ⟨⟨g1, g3⟩, fun p hp => ?_⟩
    rcases List.mem_append.1 hp with hp | hp
    · exact g2 p hp
    · exact g4 p hp
theorem Laid.empty {lo hi : Nat} {G : (Nat → Prop) → List (Nat × Blk O) → (Nat → Pl) → Prop} (h : ∀ R' bk' pl', (∀ b, RO cx w σ.bk pl b → R' b) → G R' bk' pl') : Laid cx σ w pl lo hi ([] : List (Nat × Blk O)) [] G :=
  ⟨Chunk.nil, Fine.nil, rfl, by simp, fun R' bk' pl' hR _ _ => ⟨h R' bk' pl' hR, by simp⟩⟩
theorem Laid.imp {lo hi : Nat} {bs : List (Nat × Blk O)} {E : List Ent} {G G' : (Nat → Prop) → List (Nat × Blk O) → (Nat → Pl) → Prop}
    (h : Laid cx σ w pl lo hi bs E G) (hg : ∀ R bk p, G R bk p → G' R bk p) : Laid cx σ w pl lo hi bs E G' :=
  ⟨h.chunk, h.fine, h.keys, h.live, fun R bk p a b c => ⟨hg _ _ _ (h.good R bk p a b c).1, (h.good R bk p a b c).2⟩⟩
/-- one block -/
theorem Laid.single {lo hi lab : Nat} {B : Blk O} {p : Pl} {oi : Option Nat} {G : (Nat → Prop) → List (Nat × Blk O) → (Nat → Pl) → Prop} (hl : B.live) (he : EntOk σ pl lo hi (lab, p, oi))
    (h : ∀ R' bk' pl', (∀ b, RO cx w σ.bk pl b → R' b) → look bk' lab = some B → pl' lab = p → G R' bk' pl' ∧ BR w R' bk' pl' lab B) : Laid cx σ w pl lo hi [(lab, B)] [(lab, p, oi)] G :=
  ⟨fun e hm => by rw [List.mem_singleton.1 hm]; exact he, Fine.one _, rfl, fun q hq => by rw [List.mem_singleton.1 hq]; exact hl, fun R' bk' pl' hR hb hp => by
    obtain ⟨h1, h2⟩ := h R' bk' pl' hR (hb _ List.mem_cons_self) (hp _ List.mem_cons_self)
    exact ⟨h1, fun q hq => by rw [List.mem_singleton.1 hq]; exact h2⟩⟩
theorem own_single {R' : Nat → Prop} {bk' : List (Nat × Blk O)} {pl' : Nat → Pl} {lab : Nat} {t : Ty} {xs : List t.den} {p : Pl} {v : Value} (hv : v.oneCell' = true) (hl : look bk' lab = some (.row t xs)) (hp : pl' lab = p)
    (ho : ownV p xs.length v) : CR w R' bk' pl' (.own lab) v := by
  refine ⟨hv, _, hl, fun t' n hn => ?_⟩
  obtain ⟨zs, h1 | h1, h2⟩ := hn <;> cases h1
  rw [hp, ← h2]; exact ho
theorem sub_single {R' : Nat → Prop} {bk' : List (Nat × Blk O)} {pl' : Nat → Pl} {lab n : Nat} {t : Ty} {xs : List t.den} {p : Pl} {v : Value} (hv : v.oneCell' = true) (hl : look bk' lab = some (.row t xs)) (hp : pl' lab = p)
    (ho : subV p t.sz 0 n v) (hn : n ≤ xs.length) : CR w R' bk' pl' (.sub lab 0 n) v := by
  refine ⟨hv, _, hl, fun t' m hm => ?_⟩
  obtain ⟨zs, h1 | h1, h2⟩ := hm <;> cases h1
  rw [hp, ← h2]; exact ⟨ho, by omega⟩
theorem obj_single {R' : Nat → Prop} {bk' : List (Nat × Blk O)} {pl' : Nat → Pl} {lab : Nat} {k : O.K} {x : O.den k} {p : Pl} {v : Value} (hv : v.oneCell' = true) (hl : look bk' lab = some (.obj k x)) (hp : pl' lab = p)
    (ho : ∃ f, p = .obj v f) : CR w R' bk' pl' (.obj lab) v := ⟨hv, _, hl, fun _ => by rw [hp]; exact ho⟩

theorem packC_to {R : Type} (hR : Rel cx σ a w pl) {c : C} {v : Value} (hc : CR w (RO cx w σ.bk pl) σ.bk pl c v) {nb : Nat} (h64 : 64 ≤ nb) : ∀ (sh : CSh O) (k : sh.den → List Nat → Option R) (r : R), packC σ c sh k = some r →
    ∃ x E, k x (idsOf E) = some r ∧ Laid cx σ w pl nb (nb + 1) (unpackC nb sh x).2 E fun R' bk' pl' => CR w R' bk' pl' (unpackC nb sh x).1 v
  | .int kd, k, r, h => by
    dsimp only [packC] at h
    split at h
    · rename_i k' n
      split at h
      · rename_i e; subst e
        exact ⟨n, [], h, .empty fun _ _ _ _ => hc⟩
      · cases h
    · cases h
  | .bool, k, r, h => by
    dsimp only [packC] at h
    split at h
    · rename_i b
      exact ⟨b, [], h, .empty fun _ _ _ _ => hc⟩
    · cases h
  | .str, k, r, h => by
    dsimp only [packC] at h
    split at h
    · rename_i b
      exact ⟨b, [], h, .empty fun _ _ _ _ => hc⟩
    · cases h
  | .nil, k, r, h => by
    dsimp only [packC] at h
    split at h
    · exact ⟨(), [], h, .empty fun _ _ _ _ => hc⟩
    · cases h
  | .fn g, k, r, h => by
    dsimp only [packC] at h
    split at h
    · rename_i v'
      cases hf : fnOf v' with
      | none => rw [hf] at h; cases h
      | some g' =>
        rw [hf] at h
        simp only at h
        split at h
        · rename_i hb
          have hg := Nat.eq_of_beq_eq_true hb
          subst hg
          have := fnOf_some hf
          subst this
          exact ⟨(), [], h, .empty fun _ _ _ _ => hc⟩
        · cases h
    · cases h
  | .ro t, k, r, h => by
    dsimp only [packC] at h
    split at h
    · rename_i t' xs
      cases hcl : castL t ⟨t', xs⟩ with
      | none => rw [hcl] at h; cases h
      | some ys =>
        rw [hcl] at h
        have := castL_some hcl
        cases this
        exact ⟨_, [], h, .empty fun R' _ _ hRR => Rep_mono hRR (fun _ _ => rfl) _ _ _ hc⟩
    · cases h
  | .own t, k, r, h => by
    dsimp only [packC] at h
    split at h
    · rename_i i
      cases hb : Nat.ble 64 i with
      | false => rw [hb] at h; cases h
      | true =>
        rw [hb] at h
        simp only at h
        cases hr : rowW t (look σ.bk i) with
        | none => rw [hr] at h; cases h
        | some xs =>
          rw [hr] at h
          have hl := rowW_some hr
          obtain ⟨hz, hrow⟩ := row_of hR (.inl hl)
          have ho := own_of hR (.inl hl) hc
          refine ⟨xs, [(nb, pl i, some i)], h, .single trivial ⟨.inr ⟨h64, Nat.le_refl _, by simp, fun j hj => by cases hj; exact Nat.le_of_ble_eq_true hb⟩, rfl, _, hl, trivial⟩ fun R' bk' pl' hRR hlk hp => ?_⟩
          exact ⟨own_single hc.1 hlk hp ho, hz, by rw [hp]; exact RowAt_R hRR hrow⟩
    · cases hz : Nat.blt 0 t.sz with
      | false => rw [hz] at h; cases h
      | true =>
        rw [hz] at h
        have hz' : 0 < t.sz := Nat.le_of_ble_eq_true hz
        have hc' : v = .slice none 0 0 := hc
        subst hc'
        refine ⟨[], [(nb, .nil, none)], h, .single trivial ⟨.inr ⟨h64, Nat.le_refl _, by simp, fun j hj => by cases hj⟩, rfl⟩ fun R' bk' pl' hRR hlk hp => ?_⟩
        exact ⟨own_single (xs := ([] : List t.den)) rfl hlk hp ⟨rfl, rfl⟩, hz', by rw [hp]; exact (rfl : ([] : List t.den) = [])⟩
    · cases h
  | .sub t, k, r, h => by
    dsimp only [packC] at h
    split at h
    · rename_i i n
      cases hb : Nat.ble 64 i with
      | false => rw [hb] at h; cases h
      | true =>
        rw [hb] at h
        simp only at h
        cases hr : rowW t (look σ.bk i) with
        | none => rw [hr] at h; cases h
        | some xs =>
          rw [hr] at h
          have hl := rowW_some hr
          obtain ⟨hz, hrow⟩ := row_of hR (.inl hl)
          obtain ⟨ho, hn⟩ := sub_of (.inl hl) hc
          refine ⟨(xs, n), [(nb, pl i, some i)], h, .single trivial ⟨.inr ⟨h64, Nat.le_refl _, by simp, fun j hj => by cases hj; exact Nat.le_of_ble_eq_true hb⟩, rfl, _, hl, trivial⟩ fun R' bk' pl' hRR hlk hp => ?_⟩
          exact ⟨sub_single hc.1 hlk hp ho (by simpa using hn), hz, by rw [hp]; exact RowAt_R hRR hrow⟩
    · cases h
  | .obj kk, k, r, h => by
    dsimp only [packC] at h
    split at h
    · rename_i i
      cases hb : Nat.ble 64 i with
      | false => rw [hb] at h; cases h
      | true =>
        rw [hb] at h
        simp only at h
        split at h
        · rename_i k' y hl
          cases hq : O.deq k' kk with
          | isFalse hne => rw [hq] at h; cases h
          | isTrue heq =>
            rw [hq] at h
            subst heq
            obtain ⟨v', f, g1, g2⟩ := hR.mem.blocks i _ hl
            obtain ⟨g3, B', g4, g5⟩ := hc
            rw [hl] at g4
            cases g4
            have g6 := g5 ⟨_, _, rfl⟩
            refine ⟨y, [(nb, pl i, some i)], h, .single trivial ⟨.inr ⟨h64, Nat.le_refl _, by simp, fun j hj => by cases hj; exact Nat.le_of_ble_eq_true hb⟩, rfl, _, hl, trivial⟩ fun R' bk' pl' hRR hlk hp => ?_⟩
            exact ⟨obj_single g3 hlk hp g6, v', f, by rw [hp]; exact g1, g2⟩
        · cases h
    · cases h
  | .parR j t, k, r, h => by
    dsimp only [packC] at h
    split at h
    · rename_i i n
      cases hb : Nat.beq i j with
      | false => rw [hb] at h; cases h
      | true =>
        rw [hb] at h
        have := Nat.eq_of_beq_eq_true hb
        subst this
        simp only at h
        cases hb2 : Nat.blt i 64 with
        | false => rw [hb2] at h; cases h
        | true =>
        rw [hb2] at h
        simp only at h
        cases hr : rowW t (look σ.bk i) with
        | none => rw [hr] at h; cases h
        | some xs =>
          rw [hr] at h
          have hl := rowW_some hr
          obtain ⟨hz, hrow⟩ := row_of hR (.inl hl)
          obtain ⟨ho, hn⟩ := sub_of (.inl hl) hc
          refine ⟨(xs, n), [(i, pl i, some i)], h, .single trivial ⟨.inl ⟨Nat.le_of_ble_eq_true hb2, rfl⟩, rfl, _, hl, trivial⟩ fun R' bk' pl' hRR hlk hp => ?_⟩
          exact ⟨sub_single hc.1 hlk hp ho (by simpa using hn), hz, by rw [hp]; exact RowAt_R hRR hrow⟩
    · cases h
  | .parO j kk, k, r, h => by
    dsimp only [packC] at h
    split at h
    · rename_i i
      cases hb : Nat.beq i j with
      | false => rw [hb] at h; cases h
      | true =>
        rw [hb] at h
        have := Nat.eq_of_beq_eq_true hb
        subst this
        simp only at h
        cases hb2 : Nat.blt i 64 with
        | false => rw [hb2] at h; cases h
        | true =>
        rw [hb2] at h
        simp only at h
        split at h
        · rename_i k' y hl
          cases hq : O.deq k' kk with
          | isFalse hne => rw [hq] at h; cases h
          | isTrue heq =>
            rw [hq] at h
            subst heq
            obtain ⟨v', f, g1, g2⟩ := hR.mem.blocks i _ hl
            obtain ⟨g3, B', g4, g5⟩ := hc
            rw [hl] at g4
            cases g4
            have g6 := g5 ⟨_, _, rfl⟩
            refine ⟨y, [(i, pl i, some i)], h, .single trivial ⟨.inl ⟨Nat.le_of_ble_eq_true hb2, rfl⟩, rfl, _, hl, trivial⟩ fun R' bk' pl' hRR hlk hp => ?_⟩
            exact ⟨obj_single g3 hlk hp g6, v', f, by rw [hp]; exact g1, g2⟩
        · cases h
    · cases h
theorem packCs_to {R : Type} (hR : Rel cx σ a w pl) : ∀ (cs : List C) (vs : List Value) (sh : List (CSh O)) (nb : Nat) (k : cdens sh → List Nat → Option R) (r : R), 64 ≤ nb → All2 (CR w (RO cx w σ.bk pl) σ.bk pl) cs vs →
    packCs σ cs sh k = some r → ∃ x E, k x (idsOf E) = some r ∧ Laid cx σ w pl nb (nb + sh.length) (unpackCs nb sh x).2 E fun R' bk' pl' => All2 (CR w R' bk' pl') (unpackCs nb sh x).1 vs
  | [], [], [], nb, k, r, _, _, h => ⟨(), [], h, .empty fun _ _ _ _ => trivial⟩
  | [], _ :: _, _, _, _, _, _, hv, _ => hv.elim
  | _ :: _, [], _, _, _, _, _, hv, _ => hv.elim
  | _ :: _, _, [], _, _, _, _, _, h => by cases h
  | [], [], _ :: _, _, _, _, _, _, h => by cases h
  | c :: cs, v :: vs, s :: ss, nb, k, r, h64, hv, h => by
    unfold packCs at h
    obtain ⟨x, E, h1, h2⟩ := packC_to hR hv.1 h64 _ _ _ h
    obtain ⟨xs, F, h3, h4⟩ := packCs_to hR cs vs ss (nb + 1) _ r (by omega) hv.2 h1
    refine ⟨(x, xs), E ++ F, by rw [idsOf_append, ← capp_eq]; exact h3, ?_⟩
    have h5 : nb + (s :: ss).length = nb + 1 + ss.length := by simp; omega
    rw [h5]
    exact (h2.append h4 (by omega) (by omega))
theorem packS_to {R : Type} (hR : Rel cx σ a w pl) {s : S} {v : Value} (hs : SR w (RO cx w σ.bk pl) σ.bk pl s v) {nb : Nat} (h64 : 64 ≤ nb) : ∀ (sh : SSh O) (k : sh.den → List Nat → Option R) (r : R), packS σ s sh k = some r →
    ∃ x E, k x (idsOf E) = some r ∧ Laid cx σ w pl nb (nb + sh.width) (unpackS nb sh x).2 E fun R' bk' pl' => SR w R' bk' pl' (unpackS nb sh x).1 v
  | .one c, k, r, h => by
    dsimp only [packS] at h
    split at h
    · exact packC_to hR hs h64 _ _ _ h
    · cases h
  | .ag cs, k, r, h => by
    dsimp only [packS] at h
    split at h
    · obtain ⟨arr, e, hs⟩ := hs
      obtain ⟨x, E, h1, h2⟩ := packCs_to hR _ _ _ _ _ _ h64 hs h
      refine ⟨x, E, h1, ?_⟩
      show Laid cx σ w pl nb (nb + clen cs) _ _ _
      rw [clen_eq]
      exact h2.imp fun R bk p hg => ⟨arr, e, hg⟩
    · cases h
  | .box cs, k, r, h => by
    dsimp only [packS] at h
    split at h
    · rename_i i
      cases hb : Nat.ble 64 i with
      | false => rw [hb] at h; cases h
      | true =>
        rw [hb] at h
        simp only at h
        split at h
        · rename_i xs hl
          obtain ⟨b, c, arr, e, g1, g2, g3⟩ := hR.mem.blocks i _ hl
          obtain ⟨hv, B', g4, g5⟩ := hs
          rw [hl] at g4
          cases g4
          obtain ⟨b', c', g6, g7⟩ := g5 ⟨_, rfl⟩
          rw [g1] at g6
          cases g6
          obtain ⟨x, E, h1, h2⟩ := packCs_to hR xs arr.toList cs (nb + 1) _ _ (by omega) g3 h
          refine ⟨x, (nb, pl i, some i) :: E, h1, ?_⟩
          have hw : nb + (SSh.box cs).width = nb + 1 + cs.length := by show nb + (clen cs + 1) = _; rw [clen_eq]; omega
          rw [hw]
          have hent : EntOk σ pl nb (nb + 1) (nb, pl i, some i) := ⟨.inr ⟨h64, Nat.le_refl _, by simp, fun j hj => by cases hj; exact Nat.le_of_ble_eq_true hb⟩, rfl, _, hl, trivial⟩
          have hch : Chunk σ pl nb (nb + 1) [(nb, pl i, some i)] := fun e he => by rw [List.mem_singleton.1 he]; exact hent
          refine ⟨hch.append h2.chunk (by omega) (by omega), Fine.append hch h2.chunk (Fine.one _) h2.fine, ?_, ?_, ?_⟩
          · show nb :: (unpackCs (nb + 1) cs x).2.map (·.1) = nb :: E.map (·.1)
            rw [h2.keys]
          · intro p hp
            rcases List.mem_cons.1 hp with rfl | hp
            · trivial
            · exact h2.live p hp
          · intro R' bk' pl' hRR hbk hpl
            obtain ⟨g8, g9⟩ := h2.good R' bk' pl' hRR (fun p hp => hbk p (List.mem_cons_of_mem _ hp)) (fun e he => hpl e (List.mem_cons_of_mem _ he))
            have hlk := hbk _ List.mem_cons_self
            have hpp := hpl _ List.mem_cons_self
            simp only at hlk hpp
            refine ⟨⟨hv, _, hlk, fun _ => ⟨b, c, by rw [hpp]; exact g1, g7⟩⟩, fun p hp => ?_⟩
            rcases List.mem_cons.1 hp with rfl | hp
            · exact ⟨b, c, arr, e, by show pl' nb = _; rw [hpp]; exact g1, g2, g8⟩
            · exact g9 p hp
        · cases h
    · cases h
/-- the slots of a list -/
def SlotsR (cx : Cx) (a : Act) (w : World) (R : Nat → Prop) (bk : List (Nat × Blk O)) (pl : Nat → Pl) (sl : List (Nat × S)) : Prop := ∀ p ∈ sl, p.1 < a.tmps.size ∧ SR w R bk pl p.2 (a.tmps.getD p.1 undef)
theorem widths_eq (tm : List (Nat × SSh O)) : 64 ≤ widths tm := by
  induction tm with
  | nil => exact Nat.le_refl _
  | cons s ss ih => show 64 ≤ s.2.width + widths ss; omega
theorem packL_to {R : Type} (hR : Rel cx σ a w pl) : ∀ (tm : List (Nat × SSh O)) (nb : Nat) (k : sdens tm → List Nat → Option R) (r : R), 64 ≤ nb → packL σ tm k = some r →
    ∃ x E, k x (idsOf E) = some r ∧ ∃ hi, Laid cx σ w pl nb hi (unpack nb tm x).2 E fun R' bk' pl' => SlotsR cx a w R' bk' pl' (unpack nb tm x).1
  | [], nb, k, r, _, h => ⟨(), [], h, nb, .empty fun _ _ _ _ => by simp [SlotsR, unpack]⟩
  | s :: ss, nb, k, r, h64, h => by
    unfold packL at h
    cases hl : look σ.sl s.1 with
    | none => rw [hl] at h; cases h
    | some y =>
      rw [hl] at h
      simp only at h
      obtain ⟨hlt, hs⟩ := hR.slots _ _ hl
      obtain ⟨x, E, h1, h2⟩ := packS_to hR hs h64 _ _ _ h
      obtain ⟨xs, F, h3, hi, h4⟩ := packL_to hR ss (nb + s.2.width) _ r (by omega) h1
      refine ⟨(x, xs), E ++ F, by rw [idsOf_append, ← capp_eq]; exact h3, max hi (nb + s.2.width), ?_⟩
      have h4' : Laid cx σ w pl (nb + s.2.width) (max hi (nb + s.2.width)) (unpack (nb + s.2.width) ss xs).2 F fun R' bk' pl' => SlotsR cx a w R' bk' pl' (unpack (nb + s.2.width) ss xs).1 :=
        ⟨fun e he => (h4.chunk e he).wider (Nat.le_refl _) (Nat.le_max_left _ _), h4.fine, h4.keys, h4.live, h4.good⟩
      refine (h2.append h4' (by omega) (Nat.le_max_right _ _)).imp fun R bk p hg q hq => ?_
      rcases List.mem_cons.1 hq with rfl | hq
      · exact ⟨hlt, hg.1⟩
      · exact hg.2 q hq
theorem pairwise_nodup {E : List Ent} (h : E.Pairwise fun e f => e.1 ≠ f.1) : (E.map (·.1)).Nodup := by
  rw [List.Nodup, List.pairwise_map]; exact h
theorem idsOf_pair {E : List Ent} (hn : (idsOf E).Nodup) : ∀ e ∈ E, ∀ f ∈ E, ∀ i, e.2.2 = some i → f.2.2 = some i → e.1 ≠ f.1 → False := by
  induction E with
  | nil => intro e he; cases he
  | cons g E ih =>
    have hn' : (idsOf E).Nodup := by
      unfold idsOf at hn ⊢
      rw [List.filterMap_cons] at hn
      split at hn
      · exact hn
      · exact (List.nodup_cons.1 hn).2
    have hg : ∀ i, g.2.2 = some i → ∀ f ∈ E, f.2.2 ≠ some i := by
      intro i hi f hf hfi
      unfold idsOf at hn
      rw [List.filterMap_cons, hi] at hn
      exact (List.nodup_cons.1 hn).1 (List.mem_filterMap.2 ⟨f, hf, hfi⟩)
    intro e he f hf i hei hfi hne
    rcases List.mem_cons.1 he with h1 | h1
    · rcases List.mem_cons.1 hf with h2 | h2
      · exact hne (by rw [h1, h2])
      · exact hg i (h1 ▸ hei) f h2 hfi
    · rcases List.mem_cons.1 hf with h2 | h2
      · exact hg i (h2 ▸ hfi) e h1 hei
      · exact ih hn' e h1 f h2 i hei hfi hne
/-- the state laid anew -/
theorem pack_rel {R : Type} (hR : Rel cx σ a w pl) {tm : List (Nat × SSh O)} {k : sdens tm → Option R} {r : R} (h : pack σ tm k = some r) :
    ∃ x pl', k x = some r ∧ Rel cx (unpackSt tm x) a w pl' := by
  unfold pack at h
  obtain ⟨x, E, h1, hi, hL⟩ := packL_to hR tm 64 _ _ (Nat.le_refl _) h
  cases hn : nodupN (idsOf E) with
  | false => rw [hn] at h1; cases h1
  | true =>
  rw [hn] at h1
  have hnd := nodupN_iff hn
  have hkn : ((unpack 64 tm x).2.map (·.1)).Nodup := by rw [hL.keys]; exact pairwise_nodup (hL.fine hnd)
  let pl' : Nat → Pl := fun j => ((look (E.map fun e => (e.1, e.2.1)) j).getD .nil)
  have hpl : ∀ e ∈ E, pl' e.1 = e.2.1 := fun e he => by
    have hl := look_of_mem (l := E.map fun e => (e.1, e.2.1)) (i := e.1) (x := e.2.1) (by rw [List.map_map]; exact hL.keys ▸ hkn) (List.mem_map.2 ⟨e, he, rfl⟩)
    simp only [pl', hl, Option.getD_some]
  let bk' := (unpack 64 tm x).2
  have hbk : ∀ p ∈ (unpack 64 tm x).2, look bk' p.1 = some p.2 := fun p hp => look_of_mem hkn hp
  have hent : ∀ i, (∃ B, look bk' i = some B) → ∃ e ∈ E, e.1 = i := by
    rintro i ⟨B, hB⟩
    have : i ∈ E.map (·.1) := by rw [← hL.keys]; exact look_keys hB
    obtain ⟨e, he, h⟩ := List.mem_map.1 this
    exact ⟨e, he, h⟩
  have hRO : ∀ b, RO cx w σ.bk pl b → RO cx w bk' pl' b := by
    rintro b ⟨g1, g2, g3⟩
    refine ⟨g1, g2, fun i hi hb => ?_⟩
    obtain ⟨B, hB, _⟩ := hi
    obtain ⟨e, he, rfl⟩ := hent i ⟨B, hB⟩
    rw [hpl e he] at hb
    have h2 := (hL.chunk e he).2
    cases ho : e.2.2 with
    | none => rw [ho] at h2; rw [show e.2.1 = _ from h2] at hb; exact hb
    | some j => rw [ho] at h2; rw [h2.1] at hb; exact g3 j h2.2 hb
  obtain ⟨hslots, hblocks⟩ := hL.good (RO cx w bk' pl') bk' pl' hRO hbk hpl
  refine ⟨x, pl', h1, ⟨?_, fun t s hs => hslots (t, s) (look_mem hs), hR.defers, hR.size⟩⟩
  show Mem cx w bk' pl'
  refine ⟨fun i B hB => hblocks (i, B) (look_mem hB), ?_, ?_, hR.mem.ext, ?_, ?_⟩
  · rintro i j ⟨B, hB, _⟩ ⟨B', hB', _⟩ hij b hb hb'
    obtain ⟨e, he, rfl⟩ := hent i ⟨B, hB⟩
    obtain ⟨f, hf, rfl⟩ := hent j ⟨B', hB'⟩
    rw [hpl e he] at hb
    rw [hpl f hf] at hb'
    have h2 := (hL.chunk e he).2
    have h3 := (hL.chunk f hf).2
    cases ho : e.2.2 with
    | none => rw [ho] at h2; rw [show e.2.1 = _ from h2] at hb; exact hb
    | some i' =>
      cases ho' : f.2.2 with
      | none => rw [ho'] at h3; rw [show f.2.1 = _ from h3] at hb'; exact hb'
      | some j' =>
        rw [ho] at h2
        rw [ho'] at h3
        rw [h2.1] at hb
        rw [h3.1] at hb'
        by_cases e' : i' = j'
        · subst e'
          exact idsOf_pair hnd e he f hf i' ho ho' hij
        · exact hR.mem.disj i' j' h2.2 h3.2 e' b hb hb'
  · rintro i ⟨B, hB, _⟩ b hb
    obtain ⟨e, he, rfl⟩ := hent i ⟨B, hB⟩
    rw [hpl e he] at hb
    obtain ⟨h2, h3⟩ := hL.chunk e he
    cases ho : e.2.2 with
    | none => rw [ho] at h3; rw [show e.2.1 = _ from h3] at hb; exact hb.elim
    | some j =>
      rw [ho] at h3 h2
      rw [h3.1] at hb
      obtain ⟨g1, g2⟩ := hR.mem.bound j h3.2 b hb
      refine ⟨g1, ?_⟩
      rcases h2 with ⟨h4, h5⟩ | ⟨_, _, _, h5⟩
      · cases h5; exact g2
      · have := h5 j rfl
        rcases g2 with g2 | g2
        · exact .inl g2
        · omega
  · intro i t xs hi'
    exact (hL.live _ (look_mem hi')).elim
  · intro i p B hp hB
    obtain ⟨e, he, rfl⟩ := hent i ⟨B, hB⟩
    have hlt := cx.pinlt _ _ hp
    obtain ⟨h2, h3⟩ := hL.chunk e he
    rcases h2 with ⟨_, h5⟩ | ⟨h5, _⟩
    · rw [h5] at h3
      rw [hpl e he, h3.1]
      obtain ⟨B0, h6, _⟩ := h3.2
      exact hR.mem.pin _ p B0 hp h6
    · omega
end
end Go.BB
