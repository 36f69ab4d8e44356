/- A symbolic machine for the model's code, and what it shows of this seat's functions. No conditions. -/
import Derived.Test.YtnofmeckcimodaaCRunL
set_option linter.unusedSimpArgs false
set_option linter.unusedVariables false
namespace Go.BB
open Go
section
variable {O : ObjK} {cx : Cx} {σ τ : St O} {a : Act} {w : World} {pl : Nat → Pl} {cfg : Cfg O} {P : Program}

theorem seq_wp {R : Type} {K nx : Nat} {x y : Code} {an1 an2 : An O} {H : An O → Prop} (h1 : H an1) (h2 : H an2) {r : R} {kn : Nat → St O → Option R} {ke : Nat → Nat → St O → Option R} {kr : St O → Option R} {Q : Exit → Act → World → Prop}
    (ihx : ∀ (an : An O), H an → ∀ {R : Type} (nx : Nat) (σ : St O) (kn : Nat → St O → Option R) (ke : Nat → Nat → St O → Option R) (kr : St O → Option R) (r : R) (Q : Exit → Act → World → Prop), run cfg K x an nx σ kn ke kr = some r → Next cx kn ke kr r Q → ∀ a w pl, Rel cx σ a w pl → x.wp P Q a w)
    (ihy : ∀ (an : An O), H an → ∀ {R : Type} (nx : Nat) (σ : St O) (kn : Nat → St O → Option R) (ke : Nat → Nat → St O → Option R) (kr : St O → Option R) (r : R) (Q : Exit → Act → World → Prop), run cfg K y an nx σ kn ke kr = some r → Next cx kn ke kr r Q → ∀ a w pl, Rel cx σ a w pl → y.wp P Q a w)
    (h : run cfg K x an1 nx σ (fun nx σ => run cfg K y an2 nx σ kn ke kr) ke kr = some r) (hN : Next cx kn ke kr r Q) (hR : Rel cx σ a w pl) : (Code.seq x y).wp P Q a w := by
  have hN' : Next cx (fun nx σ => run cfg K y an2 nx σ kn ke kr) ke kr r (Exit.then (y.wp P Q) Q) :=
    ⟨fun nx' σ' h' a w pl hR' => ihy an2 h2 nx' σ' kn ke kr r Q h' hN a w pl hR', hN.exit, hN.ret⟩
  exact wp_seq (ihx an1 h1 nx σ _ ke kr r _ h hN' a w pl hR)
/-- what lets a code's loops be run -/
def Free (cx : Cx) (an : An O) : Prop := an = .no ∨ ((∀ i, ¬ cx.hard i) ∧ ∀ i p, cx.pins i = some p → i < 61)
theorem Free.no : Free (O := O) cx .no := .inl rfl
theorem Free.imp {an an' : An O} (h : Free cx an) (hn : an = .no → an' = .no) : Free cx an' := Or.imp hn id h
/-- what a run says of a code -/
def WpOf (P : Program) (cfg : Cfg O) (K : Nat) (c : Code) : Prop := ∀ (cx : Cx) (_ : cfg.N = cx.N) (an : An O) (_ : Free cx an) {R : Type} (nx : Nat) (σ : St O)
    (kn : Nat → St O → Option R) (ke : Nat → Nat → St O → Option R) (kr : St O → Option R) (r : R) (Q : Exit → Act → World → Prop),
    run cfg K c an nx σ kn ke kr = some r → Next cx kn ke kr r Q → ∀ a w pl, Rel cx σ a w pl → c.wp P Q a w
theorem run_wpOf (hm : P.follows .mixedOrders = true) (hT : TTok P cfg.tt) (hΓ : Γok P cfg.Γ) {K : Nat} : ∀ (c : Code), WpOf P cfg K c := by
  intro c
  generalize hsz : SizeOf.sizeOf c = s
  induction s using Nat.strongRecOn generalizing c with
  | _ s ih =>
  subst hsz
  have ih' : ∀ c' : Code, SizeOf.sizeOf c' < SizeOf.sizeOf c → WpOf P cfg K c' := fun c' h => ih _ h c' rfl
  clear ih
  cases c with
  | skip =>
    intro cx hN an hx R nx σ kn ke kr r Q h hQ a w pl hR
    exact wp_skip (hQ.normal _ _ h a w pl hR)
  | region id ops draw =>
    intro cx hN an hx R nx σ kn ke kr r Q h hQ a w pl hR
    exact region_wp hm hT hΓ hN hR h hQ.normal
  | seq x y =>
    have ihx := ih' x (by simp; omega)
    have ihy := ih' y (by simp; omega)
    intro cx hN an hx R nx σ kn ke kr r Q h hQ a w pl hR
    dsimp only [run] at h
    split at h
    · exact seq_wp (H := Free cx) (hx.imp (fun h => by cases h)) (hx.imp (fun h => by cases h)) (fun an h => ihx cx hN an h) (fun an h => ihy cx hN an h) h hQ hR
    · rename_i tm an1 an2
      have hh : (∀ i, ¬ cx.hard i) ∧ ∀ i p, cx.pins i = some p → i < 61 := hx.resolve_left (fun h => by cases h)
      obtain ⟨r1, h1, h2⟩ := bd_some h
      cases r1 with
      | inl l =>
        simp only at h2
        rw [St.force_eq] at h2
        refine wp_seq (ihx cx hN an1 (.inr hh) nx σ _ _ _ (Sum.inl l) (Exit.then (y.wp P Q) Q) h1 (Next.mk (fun nx' σ' h' a w pl hR' => ?_) (fun i nx' σ' h' => ?_) (fun σ' h' => ?_)) a w pl hR)
        · obtain ⟨l', pl', g1, g2⟩ := pack_rel hh.1 hR' h'
          simp only [Option.some.injEq, Sum.inl.injEq] at g1
          subst g1
          exact ihy cx hN an2 (.inr hh) _ _ kn ke kr r Q h2 hQ _ _ _ g2
        · simp at h'
        · simp at h'
      | inr r' =>
        simp only [Option.some.injEq] at h2
        subst h2
        refine wp_seq (ihx cx hN an1 (.inr hh) nx σ _ _ _ (Sum.inr r') (Exit.then (y.wp P Q) Q) h1 (Next.mk (fun nx' σ' h' a w pl hR' => ?_) (fun i nx' σ' h' => ?_) (fun σ' h' => ?_)) a w pl hR)
        · obtain ⟨l', pl', g1, g2⟩ := pack_rel hh.1 hR' h'
          simp at g1
        · simp only [Option.map_eq_some_iff, Sum.inr.injEq, exists_eq_right] at h'
          exact hQ.exit _ _ _ h'
        · simp only [Option.map_eq_some_iff, Sum.inr.injEq, exists_eq_right] at h'
          exact hQ.ret _ h'
    · exact seq_wp (H := Free cx) .no .no (fun an h => ihx cx hN an h) (fun an h => ihy cx hN an h) h hQ hR
  | cond c x y =>
    have ihx := ih' x (by simp; omega)
    have ihy := ih' y (by simp; omega)
    intro cx hN an hx R nx σ kn ke kr r Q h hQ a w pl hR
    dsimp only [run] at h
    have fx : Free cx (match (generalizing := false) an with | .cond x _ => x | _ => .no) := by
      cases an <;> first | exact .no | exact hx.imp (fun h => by cases h)
    have fy : Free cx (match (generalizing := false) an with | .cond _ y => y | _ => .no) := by
      cases an <;> first | exact .no | exact hx.imp (fun h => by cases h)
    split at h
    · rename_i t
      rcases onCond_some h with ⟨b, hb, σ1, hs, h1⟩ | ⟨e, hb, h1⟩
      · have hR1 := Rel_same hs hR
        have hc : a.eval (.tmp t) = .bool b := (hR.slots t _ hb).2
        cases b with
        | true => exact wp_cond_true hc (ihx cx hN _ fx _ _ _ _ _ _ _ h1 hQ a w pl hR1)
        | false => exact wp_cond_false hc (ihy cx hN _ fy _ _ _ _ _ _ _ h1 hQ a w pl hR1)
      · obtain ⟨hlt, hv⟩ := hR.slots t _ hb
        obtain ⟨b, hv1, hv2⟩ := hv
        have hc : a.eval (.tmp t) = .bool b := hv1
        have hR1 : Rel cx (⟨(t, .t (.one (.sc (.bool b)))) :: σ.sl, σ.bk⟩ : St O) a w pl := by
          refine ⟨hR.mem, fun t' s' h' => ?_, hR.defers, hR.size⟩
          rw [look_cons] at h'
          split at h'
          · rename_i e'
            simp only at e'
            subst e'
            cases h'
            exact ⟨hlt, hv1⟩
          · exact hR.slots t' s' h'
        have h2 := h1 b hv2
        cases b with
        | true => exact wp_cond_true hc (ihx cx hN _ fx _ _ _ _ _ _ _ h2 hQ a w pl hR1)
        | false => exact wp_cond_false hc (ihy cx hN _ fy _ _ _ _ _ _ _ h2 hQ a w pl hR1)
    · cases h
  | block id x =>
    have ih := ih' x (by simp; omega)
    intro cx hN an hx R nx σ kn ke kr r Q h hQ a w pl hR
    dsimp only [run] at h
    have fx : Free cx (match (generalizing := false) an with | .block x => x | _ => .no) := by
      cases an <;> first | exact .no | exact hx.imp (fun h => by cases h)
    refine wp_block (ih cx hN _ fx nx σ _ _ _ r (Exit.inBlock id Q) h (Next.mk (fun nx' σ' h' => hQ.normal _ _ h') (fun i nx' σ' h' a w pl hR' => ?_) hQ.ret) a w pl hR)
    show if i = id then Q .normal a w else Q (.exit i) a w
    cases hi : Nat.beq i id with
    | true =>
      rw [hi] at h'
      rw [if_pos (Nat.eq_of_beq_eq_true hi)]
      exact hQ.normal _ _ h' a w pl hR'
    | false =>
      rw [hi] at h'
      rw [if_neg (fun e => by subst e; simp at hi)]
      exact hQ.exit _ _ _ h' a w pl hR'
  | loop x =>
    have ih := ih' x (by simp)
    intro cx hN an hx R nx σ kn ke kr r Q h hQ a w pl hR
    unfold run at h
    split at h
    · rename_i tm an1
      have hh : (∀ i, ¬ cx.hard i) ∧ ∀ i p, cx.pins i = some p → i < 61 := hx.resolve_left (fun h => by cases h)
      obtain ⟨l, pl', h1, hR1⟩ := pack_rel hh.1 hR h
      generalize hst : (fun (rec : sdens tm → Option R) (l : sdens tm) => (unpackSt tm l).force fun σ => run cfg K x an1 (widths tm) σ (fun _ σ => pack σ tm rec) ke kr) = step at h1
      have hstep : ∀ rec l, step rec l = run cfg K x an1 (widths tm) (unpackSt tm l) (fun _ σ => pack σ tm rec) ke kr := fun rec l => by
        rw [← hst]; exact St.force_eq _ _
      refine wp_loop_n (fun n a w => ∃ l pl, loopN step n l = some r ∧ Rel cx (unpackSt (O := O) tm l) a w pl) ?_ K a w ⟨l, pl', h1, hR1⟩
      rintro n a w ⟨l, pl, h2, hR2⟩
      cases n with
      | zero => cases h2
      | succ n =>
        have h3 : step (loopN step n) l = some r := h2
        rw [hstep] at h3
        refine ih cx hN an1 (.inr hh) _ _ _ _ _ r (Exit.then (fun a' w' => ∃ m, m < n + 1 ∧ ∃ l pl, loopN step m l = some r ∧ Rel cx (unpackSt (O := O) tm l) a' w' pl) Q) h3 (Next.mk (fun nx' σ' h' a w pl hR' => ?_) hQ.exit hQ.ret) a w pl hR2
        obtain ⟨l', pl', g1, g2⟩ := pack_rel hh.1 hR' h'
        exact ⟨n, Nat.lt_succ_self n, l', pl', g1, g2⟩
    · rename_i L tm
      have hh : (∀ i, ¬ cx.hard i) ∧ ∀ i p, cx.pins i = some p → i < 61 := hx.resolve_left (fun h => by cases h)
      split at h
      · split at h
        · rename_i hops
          split at h
          · rename_i hok
            refine rloop_wp hT hΓ hN hh.1 hh.2 (fun cx' hN' nx σ kn ke kr r Q h hQ a w pl hR => ?_) hops hok h hQ.exit hR
            exact ih' _ (by simp; omega) cx' hN' .no .no nx σ kn ke kr r Q h hQ a w pl hR
          · cases h
        · cases h
      · cases h
    · cases h
  | exit i =>
    intro cx hN an hx R nx σ kn ke kr r Q h hQ a w pl hR
    exact wp_exit (hQ.exit _ _ _ h a w pl hR)
  | ret =>
    intro cx hN an hx R nx σ kn ke kr r Q h hQ a w pl hR
    exact wp_ret (hQ.ret _ h a w pl hR)
  | rangeFunc f ps s b => intro cx hN an hx R nx σ kn ke kr r Q h; cases h
  | scope b =>
    have ih := ih' b (by simp)
    intro cx hN an hx R nx σ kn ke kr r Q h hQ a w pl hR
    exact wp_scope_straight (ih cx hN an hx nx σ kn ke kr r (Exit.noGoto Q) h ⟨hQ.normal, hQ.exit, hQ.ret⟩ a w pl hR)
  | label l =>
    intro cx hN an hx R nx σ kn ke kr r Q h hQ a w pl hR
    exact wp_label (hQ.normal _ _ h a w pl hR)
  | goto l => intro cx hN an hx R nx σ kn ke kr r Q h; cases h
  | refuse s => intro cx hN an hx R nx σ kn ke kr r Q h; cases h
theorem run_wp (hm : P.follows .mixedOrders = true) (hT : TTok P cfg.tt) (hΓ : Γok P cfg.Γ) (hN : cfg.N = cx.N) (hh : ∀ i, ¬ cx.hard i) (hpin : ∀ i p, cx.pins i = some p → i < 61) {K : Nat} (c : Code) (an : An O) {R : Type} (nx : Nat) (σ : St O)
    (kn : Nat → St O → Option R) (ke : Nat → Nat → St O → Option R) (kr : St O → Option R) (r : R) (Q : Exit → Act → World → Prop) (h : run cfg K c an nx σ kn ke kr = some r) (hQ : Next cx kn ke kr r Q) (a : Act) (w : World) (pl : Nat → Pl) (hR : Rel cx σ a w pl) :
    c.wp P Q a w := run_wpOf hm hT hΓ c cx hN an (.inr ⟨hh, hpin⟩) nx σ kn ke kr r Q h hQ a w pl hR
end
end Go.BB
