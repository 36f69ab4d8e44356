/- A symbolic machine for the model's code, and what it shows of this seat's functions. No conditions. -/
import Derived.Test.YteaomngbkklfoaaRPack
import Derived.Scope
set_option linter.unusedSimpArgs false
set_option linter.unusedVariables false
namespace Go.BB
open Go
section
variable {O : ObjK} {cx : Cx} {σ τ : St O} {a : Act} {w : World} {pl : Nat → Pl} {cfg : Cfg O} {P : Program}

/-- a loop that a number says will end -/
theorem wp_loop_n {c : Code} {Q : Exit → Act → World → Prop} (J : Nat → Act → World → Prop)
    (round : ∀ n a w, J n a w → c.wp P (Exit.then (fun a' w' => ∃ m, m < n ∧ J m a' w') Q) a w) (n : Nat) (a : Act) (w : World) (h0 : J n a w) : (Code.loop c).wp P Q a w := by
  intro b k cs
  have key : ∀ n a w, J n a w → ∃ e a' w', Q e a' w' ∧ Arrives P (lone (b.at a (.code c :: .inLoop c :: k)) cs w) b k cs e a' w' := by
    intro n
    induction n using Nat.strongRecOn with
    | _ n ih =>
      intro a w hJ
      obtain ⟨e, a1, w1, hq, harr⟩ := round n a w hJ b (.inLoop c :: k) cs
      have pass : ∀ {e}, e ≠ Exit.normal → Q e a1 w1 → Arrives P (lone (b.at a (.code c :: .inLoop c :: k)) cs w) b (.inLoop c :: k) cs e a1 w1 →
          ∃ e a' w', Q e a' w' ∧ Arrives P (lone (b.at a (.code c :: .inLoop c :: k)) cs w) b k cs e a' w' := fun hne hq harr =>
        ⟨_, a1, w1, hq, .pass (x := .inLoop c) rfl (fun _ _ => .inl hne) harr⟩
      cases e with
      | normal =>
        obtain ⟨m, hm, hJm⟩ := hq
        obtain ⟨e2, a2, w2, hq2, harr2⟩ := ih m hm a1 w1 hJm
        exact ⟨e2, a2, w2, hq2, .of_steps (Steps.trans harr (.one step_inLoop)) harr2⟩
      | exit id => exact pass (by simp) hq harr
      | goto l => exact pass (by simp) hq harr
      | ret => exact pass (by simp) hq harr
      | panic ch => exact pass (by simp) hq harr
      | outgrown => exact pass (by simp) hq harr
  obtain ⟨e, a', w', hq, harr⟩ := key n a w h0
  exact ⟨e, a', w', hq, .of_steps (.one step_loop) harr⟩

/-- what is to follow -/
structure Next {R : Type} (cx : Cx) (kn : Nat → St O → Option R) (ke : Nat → Nat → St O → Option R) (kr : St O → Option R) (r : R) (Q : Exit → Act → World → Prop) : Prop where
  normal : ∀ nx σ, kn nx σ = some r → ∀ a w pl, Rel cx σ a w pl → Q .normal a w
  exit : ∀ i nx σ, ke i nx σ = some r → ∀ a w pl, Rel cx σ a w pl → Q (.exit i) a w
  ret : ∀ σ, kr σ = some r → ∀ a w pl, Rel cx σ a w pl → Q .ret a w
theorem seq_wp {R : Type} {K nx : Nat} {x y : Code} {an1 an2 : An O} {r : R} {kn : Nat → St O → Option R} {ke : Nat → Nat → St O → Option R} {kr : St O → Option R} {Q : Exit → Act → World → Prop}
    (ihx : ∀ (an : An O) {R : Type} (nx : Nat) (σ : St O) (kn : Nat → St O → Option R) (ke : Nat → Nat → St O → Option R) (kr : St O → Option R) (r : R) (Q : Exit → Act → World → Prop), run cfg K x an nx σ kn ke kr = some r → Next cx kn ke kr r Q → ∀ a w pl, Rel cx σ a w pl → x.wp P Q a w)
    (ihy : ∀ (an : An O) {R : Type} (nx : Nat) (σ : St O) (kn : Nat → St O → Option R) (ke : Nat → Nat → St O → Option R) (kr : St O → Option R) (r : R) (Q : Exit → Act → World → Prop), run cfg K y an nx σ kn ke kr = some r → Next cx kn ke kr r Q → ∀ a w pl, Rel cx σ a w pl → y.wp P Q a w)
    (h : run cfg K x an1 nx σ (fun nx σ => run cfg K y an2 nx σ kn ke kr) ke kr = some r) (hN : Next cx kn ke kr r Q) (hR : Rel cx σ a w pl) : (Code.seq x y).wp P Q a w := by
  have hN' : Next cx (fun nx σ => run cfg K y an2 nx σ kn ke kr) ke kr r (Exit.then (y.wp P Q) Q) :=
    ⟨fun nx' σ' h' a w pl hR' => ihy an2 nx' σ' kn ke kr r Q h' hN a w pl hR', hN.exit, hN.ret⟩
  exact wp_seq (ihx an1 nx σ _ ke kr r _ h hN' a w pl hR)
theorem run_wp (hm : P.follows .mixedOrders = true) (hT : TTok P cfg.tt) (hΓ : Γok P cfg.Γ) (hN : cfg.N = cx.N) {K : Nat} : ∀ (c : Code) (an : An O) {R : Type} (nx : Nat) (σ : St O)
    (kn : Nat → St O → Option R) (ke : Nat → Nat → St O → Option R) (kr : St O → Option R) (r : R) (Q : Exit → Act → World → Prop),
    run cfg K c an nx σ kn ke kr = some r → Next cx kn ke kr r Q → ∀ a w pl, Rel cx σ a w pl → c.wp P Q a w := by
  intro c
  induction c with
  | skip =>
    intro an R nx σ kn ke kr r Q h hQ a w pl hR
    exact wp_skip (hQ.normal _ _ h a w pl hR)
  | region id ops draw =>
    intro an R nx σ kn ke kr r Q h hQ a w pl hR
    exact region_wp hm hT hΓ hN hR h hQ.normal
  | seq x y ihx ihy =>
    intro an R nx σ kn ke kr r Q h hQ a w pl hR
    dsimp only [run] at h
    split at h
    · exact seq_wp ihx ihy h hQ hR
    · rename_i tm an1 an2
      obtain ⟨r1, h1, h2⟩ := bd_some h
      cases r1 with
      | inl l =>
        simp only at h2
        rw [St.force_eq] at h2
        refine wp_seq (ihx an1 nx σ _ _ _ (Sum.inl l) (Exit.then (y.wp P Q) Q) h1 (Next.mk (fun nx' σ' h' a w pl hR' => ?_) (fun i nx' σ' h' => ?_) (fun σ' h' => ?_)) a w pl hR)
        · obtain ⟨l', pl', g1, g2⟩ := pack_rel hR' h'
          simp only [Option.some.injEq, Sum.inl.injEq] at g1
          subst g1
          exact ihy an2 _ _ kn ke kr r Q h2 hQ _ _ _ g2
        · simp at h'
        · simp at h'
      | inr r' =>
        simp only [Option.some.injEq] at h2
        subst h2
        refine wp_seq (ihx an1 nx σ _ _ _ (Sum.inr r') (Exit.then (y.wp P Q) Q) h1 (Next.mk (fun nx' σ' h' a w pl hR' => ?_) (fun i nx' σ' h' => ?_) (fun σ' h' => ?_)) a w pl hR)
        · obtain ⟨l', pl', g1, g2⟩ := pack_rel hR' h'
          simp at g1
        · simp only [Option.map_eq_some_iff, Sum.inr.injEq, exists_eq_right] at h'
          exact hQ.exit _ _ _ h'
        · simp only [Option.map_eq_some_iff, Sum.inr.injEq, exists_eq_right] at h'
          exact hQ.ret _ h'
    · exact seq_wp ihx ihy h hQ hR
  | cond c x y ihx ihy =>
    intro an R nx σ kn ke kr r Q h hQ a w pl hR
    dsimp only [run] at h
    split at h
    · rename_i t
      rcases onCond_some h with ⟨b, hb, σ1, hs, h1⟩ | ⟨e, hb, h1⟩
      · have hR1 := Rel_same hs hR
        have hc : a.eval (.tmp t) = .bool b := (hR.slots t _ hb).2
        cases b with
        | true => exact wp_cond_true hc (ihx _ _ _ _ _ _ _ _ h1 hQ a w pl hR1)
        | false => exact wp_cond_false hc (ihy _ _ _ _ _ _ _ _ h1 hQ a w pl hR1)
      · obtain ⟨hlt, hv⟩ := hR.slots t _ hb
        obtain ⟨b, hv1, hv2⟩ := hv
        have hc : a.eval (.tmp t) = .bool b := hv1
        have hR1 : Rel cx (⟨(t, .t (.one (.sc (.bool b)))) :: σ.sl, σ.bk⟩ : St O) a w pl := by
          refine ⟨hR.mem, fun t' s' h' => ?_, hR.defers, hR.size⟩
          rw [look_cons] at h'
          split at h'
          · rename_i e'
            simp only at e'
            subst e'
            cases h'
            exact ⟨hlt, hv1⟩
          · exact hR.slots t' s' h'
        have h2 := h1 b hv2
        cases b with
        | true => exact wp_cond_true hc (ihx _ _ _ _ _ _ _ _ h2 hQ a w pl hR1)
        | false => exact wp_cond_false hc (ihy _ _ _ _ _ _ _ _ h2 hQ a w pl hR1)
    · cases h
  | block id x ih =>
    intro an R nx σ kn ke kr r Q h hQ a w pl hR
    dsimp only [run] at h
    refine wp_block (ih _ nx σ _ _ _ r (Exit.inBlock id Q) h (Next.mk (fun nx' σ' h' => hQ.normal _ _ h') (fun i nx' σ' h' a w pl hR' => ?_) hQ.ret) a w pl hR)
    show if i = id then Q .normal a w else Q (.exit i) a w
    cases hi : Nat.beq i id with
    | true =>
      rw [hi] at h'
      rw [if_pos (Nat.eq_of_beq_eq_true hi)]
      exact hQ.normal _ _ h' a w pl hR'
    | false =>
      rw [hi] at h'
      rw [if_neg (fun e => by subst e; simp at hi)]
      exact hQ.exit _ _ _ h' a w pl hR'
  | loop x ih =>
    intro an R nx σ kn ke kr r Q h hQ a w pl hR
    dsimp only [run] at h
    split at h
    · rename_i tm an1
      obtain ⟨l, pl', h1, hR1⟩ := pack_rel hR h
      generalize hst : (fun (rec : sdens tm → Option R) (l : sdens tm) => (unpackSt tm l).force fun σ => run cfg K x an1 (widths tm) σ (fun _ σ => pack σ tm rec) ke kr) = step at h1
      have hstep : ∀ rec l, step rec l = run cfg K x an1 (widths tm) (unpackSt tm l) (fun _ σ => pack σ tm rec) ke kr := fun rec l => by
        rw [← hst]; exact St.force_eq _ _
      refine wp_loop_n (fun n a w => ∃ l pl, loopN step n l = some r ∧ Rel cx (unpackSt (O := O) tm l) a w pl) ?_ K a w ⟨l, pl', h1, hR1⟩
      rintro n a w ⟨l, pl, h2, hR2⟩
      cases n with
      | zero => cases h2
      | succ n =>
        have h3 : step (loopN step n) l = some r := h2
        rw [hstep] at h3
        refine ih an1 _ _ _ _ _ r (Exit.then (fun a' w' => ∃ m, m < n + 1 ∧ ∃ l pl, loopN step m l = some r ∧ Rel cx (unpackSt (O := O) tm l) a' w' pl) Q) h3 (Next.mk (fun nx' σ' h' a w pl hR' => ?_) hQ.exit hQ.ret) a w pl hR2
        obtain ⟨l', pl', g1, g2⟩ := pack_rel hR' h'
        exact ⟨n, Nat.lt_succ_self n, l', pl', g1, g2⟩
    · cases h
  | exit i =>
    intro an R nx σ kn ke kr r Q h hQ a w pl hR
    exact wp_exit (hQ.exit _ _ _ h a w pl hR)
  | ret =>
    intro an R nx σ kn ke kr r Q h hQ a w pl hR
    exact wp_ret (hQ.ret _ h a w pl hR)
  | rangeFunc f ps s b _ _ => intro an R nx σ kn ke kr r Q h; cases h
  | scope b ih =>
    intro an R nx σ kn ke kr r Q h hQ a w pl hR
    exact wp_scope_straight (ih an nx σ kn ke kr r (Exit.noGoto Q) h ⟨hQ.normal, hQ.exit, hQ.ret⟩ a w pl hR)
  | label l =>
    intro an R nx σ kn ke kr r Q h hQ a w pl hR
    exact wp_label (hQ.normal _ _ h a w pl hR)
  | goto l => intro an R nx σ kn ke kr r Q h; cases h
  | refuse s => intro an R nx σ kn ke kr r Q h; cases h
end
end Go.BB
