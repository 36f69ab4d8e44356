/- A symbolic machine for the model's code, and what it shows of this seat's functions. No conditions. -/
import Derived.Test.YtnofmeckcimodaaFOpD
import Derived.Orders
set_option linter.unusedSimpArgs false
set_option linter.unusedVariables false
namespace Go.BB
open Go
section
variable {O : ObjK} {cx : Cx} {σ : St O} {a : Act} {w : World} {pl : Nat → Pl} {cfg : Cfg O} {P : Program} {o : Oper} {wr : Wr O}

theorem call_value_run {c : Call} {x : Operand} {g : Nat} (hc : c.callee = .value x) (hx : a.eval x = .func (.func g) #[] #[]) (ho : o.op = .call c) :
  (execOp a.eval o).run P w = (callFunc g (c.args.toList.map a.eval).toArray).run P w := by
 have e : (c.args.toList.map a.eval).toArray = #[] ++ c.args.map a.eval ++ #[] := by
  obtain ⟨cc, ⟨args⟩, ats⟩ := c
  simp
 rw [e]
 obtain ⟨dst, op, type, pos, after, guard⟩ := o
 simp only at ho
 subst ho
 obtain ⟨cc, args, ats⟩ := c
 simp only at hc
 subst hc
 show (execOp a.eval { dst, op := .call { callee := .value x, args, argTypes := ats }, type, pos, after, guard }).run P w = _
 have : execOp a.eval { dst, op := .call { callee := .value x, args, argTypes := ats }, type, pos, after, guard } =
  (do let d ← Deferred.ofValue (a.eval x) (args.map a.eval); invoke d.target d.args) := rfl
 rw [this, hx]
 rfl
theorem good_call (hT : TTok P cfg.tt) (hΓ : Γok P cfg.Γ) (hR : Rel cx σ a w pl) (hd : ∀ d, o.dst = some d → d < cx.N) {nb : Nat} {c : Call}
  (ho : o.op = .call c) (h : (opCall cfg nb o.dst c).to σ wr) : Good P cx σ a w o wr := by
 unfold opCall at h
 split at h
 ·rename_i g hc
  exact good_callF hΓ hR hd (call_value_run hc (by rfl) ho) h
 ·rename_i t hc
  obtain ⟨v, h1, h2⟩ := evV_to h
  cases hf : fnOf v with
  | none => rw [hf] at h2; exact h2.elim
  | some g =>
   rw [hf] at h2
   exact good_callF hΓ hR hd (call_value_run hc ((opd_sc hR h1).trans (fnOf_some hf)) ho) h2
 ·rename_i b hc
  obtain ⟨cc, args, ats⟩ := c
  simp only at hc
  subst hc
  obtain ⟨args⟩ := args
  obtain ⟨ats⟩ := ats
  simp only at h
  split at h
  ·exact good_len hT hR hd ho h
  ·exact good_cap hT hR hd ho h
  ·exact good_max hR hd ho h
  ·exact good_min hR hd ho h
  ·rename_i x y t t'
   cases hb : Nat.beq t t' with
   | false => rw [hb] at h; exact good_appendZ hT hR hd ho h
   | true =>
    rw [hb] at h
    have := Nat.eq_of_beq_eq_true hb
    subst this
    exact good_append hT hR hd ho h
  ·rename_i x y t t'
   cases hb : Nat.beq t t' with
   | false => rw [hb] at h; exact h.elim
   | true =>
    rw [hb] at h
    have := Nat.eq_of_beq_eq_true hb
    subst this
    exact good_copy hT hR hd ho h
  ·exact good_delete hT hR hd ho h
  ·exact h.elim
 ·exact h.elim
theorem good_callD (hT : TTok P cfg.tt) (hΓ : Γok P cfg.Γ) (hR : Rel cx σ a w pl) (hd : ∀ d, o.dst = some d → d < cx.N) {nb : Nat} {c : Call}
  (ho : o.op = .call c) (h : (opLenD cfg nb o.dst c).to σ wr) : Good P cx σ a w o wr := by
 have old : (opCall cfg nb o.dst c).to σ wr → Good P cx σ a w o wr := good_call hT hΓ hR hd ho
 obtain ⟨cc, ⟨args⟩, ⟨ats⟩⟩ := c
 unfold opLenD at h
 split at h
 ·rename_i x t e1 e2 e3
  simp only at e1 e2 e3
  subst e1; subst e2; subst e3
  obtain ⟨d, h1, h2⟩ := evC_to h
  have hc := opd_CR hR h1
  split at h2
  ·rename_i i
   simp only [RM.to] at h2
   obtain ⟨_, B, hB, hB2⟩ := id hc
   have key : ∀ (m : Nat) (p : Pl), ownV p m (a.eval x) → (getTI cfg t fun ti => match ti.sub with | .slice _ => retV o.dst (.int .i64 m) | _ => .fail : RM O).to σ wr → Good P cx σ a w o wr := by
    intro m p hv h3
    obtain ⟨ti, h4, h5⟩ := getTI_to h3
    cases hs : ti.sub with
    | slice e =>
     simp only [hs] at h5
     have hu := (hT t ti h4).slice e hs
     obtain ⟨A, c', hx⟩ : ∃ A c', a.eval x = .slice A m c' := by
      cases p with
      | nil => exact ⟨none, 0, by rw [hv.2]; exact hv.1⟩
      | «at» b c => exact ⟨_, _, hv⟩
      | obj v f => exact hv.elim
     cases h5
     refine good_put hR hd (v := .int .i64 m) ?_ rfl
     simp [execOp, ho, resolve, invoke, builtin, Builtin.len_, hx, underlying, hu, goInt]
    | _ => simp only [hs] at h5; exact h5.elim
   cases hl : look σ.bk i with
   | none => rw [hB] at hl; cases hl
   | some B' =>
    rw [hl] at hB h2
    cases hB
    cases B with
    | obj kk xs =>
     cases kk with
     | deep ta tb te tc =>
      obtain ⟨f, hp⟩ := hB2 rfl
      obtain ⟨v, f', hp', _, p, ps, q1, q2, _⟩ := hR.mem.blocks i _ hl
      rw [hp] at hp'
      cases hp'
      exact key _ p q2 h2
     | map _ _ => exact old h2
     | mapS _ _ => exact old h2
    | hoD ta tb te tc xs m j =>
     obtain ⟨f, hp⟩ := hB2 rfl
     obtain ⟨_, v, f', p, ps, hp', q1, _, q2, _⟩ := hR.mem.blocks i _ hl
     rw [hp] at hp'
     cases hp'
     exact key _ p q2 h2
    | _ => exact old h2
  ·exact old h2
 ·rename_i x y t t' e1 e2 e3
  simp only at e1 e2 e3
  subst e1; subst e2; subst e3
  cases hb : Nat.beq t t' with
  | false => rw [hb] at h; exact old h
  | true =>
   rw [hb] at h
   have := Nat.eq_of_beq_eq_true hb
   subst this
   simp only at h
   obtain ⟨d, h1, h2⟩ := evC_to h
   have hy := opd_CR hR h1
   split at h2
   ·rename_i j
    simp only [RM.to] at h2
    cases hl : look σ.bk j with
    | none => rw [hl] at h2; exact h2.elim
    | some B =>
     rw [hl] at h2
     cases B with
     | obj kk ys =>
      cases kk with
      | map _ _ => exact h2.elim
      | mapS _ _ => exact h2.elim
      | deep ta tb te tc =>
       simp only at h2
       obtain ⟨e, ty, ei, hu, he, hty, hz, h3⟩ := elemTI_to hT h2
       cases hdq : decEq (dT ta tb te tc) ty with
       | isFalse hne => rw [hdq] at h3; exact h3.elim
       | isTrue heq =>
        rw [hdq] at h3
        subst heq
        simp only at h3
        obtain ⟨d, h4, h5⟩ := evC_to h3
        have hx := opd_CR hR h4
        split at h5
        ·rename_i i
         simp only [RM.to] at h5
         cases hli : look σ.bk i with
         | none => rw [hli] at h5; exact h5.elim
         | some B =>
          rw [hli] at h5
          cases B with
          | obj kk xs0 =>
           simp only at h5
           cases hcd : castD ta tb te tc ⟨kk, xs0⟩ with
           | none => rw [hcd] at h5; exact h5.elim
           | some xs =>
            rw [hcd] at h5
            have hcd := castD_some hcd
            cases hcd
            simp only at h5
            split at h5
            ·rename_i g1 g2 g3
             obtain ⟨b1, b2, h6⟩ := h5
             obtain ⟨hn, h64, h7⟩ := fresh_to h6
             cases h7
             exact good_appendD hT hR hd ho hu he hty hz hx hy hli hl (Nat.le_of_ble_eq_true g1) (Nat.le_of_ble_eq_true g2) (fun e => by subst e; simp at g3) (of_decide_eq_true b1) (of_decide_eq_true b2) hn h64
            ·exact h5.elim
          | _ => exact h5.elim
        ·exact h5.elim
     | _ => exact h2.elim
   ·exact old h2
 ·exact old h
theorem good_op (hT : TTok P cfg.tt) (hΓ : Γok P cfg.Γ) (hR : Rel cx σ a w pl) (hd : ∀ d, o.dst = some d → d < cx.N) {nb : Nat}
  (h : (opRM cfg nb o).to σ wr) : Good P cx σ a w o wr := by
 unfold opRM at h
 split at h
 case h_1 ho => exact good_move hR hd (.inl ho) h
 case h_2 ho => exact good_move hR hd (.inr ho) h
 case h_3 ho => exact good_pick hR hd ho h
 case h_4 ho => exact good_bin hT hR hd ho h
 case h_5 ho => exact good_un hR hd ho h
 case h_6 ho => exact good_conv hT hR hd ho h
 case h_7 ho => exact good_boxA hT hR hd ho h
 case h_8 ho => exact good_allocA hT hR hd ho h
 case h_9 ho => exact good_loadD hT hR hd ho h
 case h_10 ho => exact good_storeA hT hR hd ho h
 case h_11 ho => exact good_fieldAddrD hT hR hd ho h
 case h_12 ho => exact good_field hT hR hd ho h
 case h_13 ho => exact good_indexAddrD hT hR hd ho h
 case h_14 ho => exact good_index hT hR hd ho h
 case h_15 ho => exact good_range hT hR hd ho h
 case h_16 ho => exact good_extract hR hd ho h
 case h_17 ho => exact good_makeSlice hT hR hd ho h
 case h_18 ho => exact good_buildSliceD hT hR hd ho h
 case h_19 ho => exact good_buildA hT hR hd ho h
 case h_20 ho => exact good_sliceA hT hR hd ho h
 case h_21 ho => exact good_nilA hR hd ho h
 case h_22 ho => exact good_callD hT hΓ hR hd ho h
 case h_23 ho => exact good_makeMap hT hR hd ho h
 case h_24 ho => exact good_lookup hT hR hd ho h
 case h_25 ho => exact good_mapEntry hT hR hd ho h
 case h_26 ho => exact good_entryStore hR hd ho h
 case h_27 ho => exact good_mapUpdateA hT hR hd ho h
 all_goals exact h.elim
end
end Go.BB
set_option linter.unusedSimpArgs false
set_option linter.unusedVariables false
namespace Go.BB
open Go
section
variable {O : ObjK} {cx : Cx} {σ τ : St O} {a : Act} {w : World} {pl : Nat → Pl} {cfg : Cfg O} {P : Program} {o : Oper} {wr : Wr O}

def Loc.ix : Loc → Nat
 | .slot t => 2 * t
 | .blk i => 2 * i + 1
theorem Loc.bit_test (x : Loc) (j : Nat) : x.bit.testBit j = decide (x.ix = j) := by
 cases x with
 | slot t => show (2 ^ (2 * t)).testBit j = _; rw [Nat.testBit_two_pow]; rfl
 | blk i => show (2 ^ (2 * i + 1)).testBit j = _; rw [Nat.testBit_two_pow]; rfl
def St.at' (σ : St O) : Loc → Option (S ⊕ Blk O)
 | .slot t => (look σ.sl t).map .inl
 | .blk i => (look σ.bk i).map .inr
def Wr.at' (σ : Wr O) : Loc → Option (S ⊕ Blk O)
 | .slot t => (look σ.sl t).map .inl
 | .blk i => (look σ.bk i).map .inr
theorem at_app (σ : St O) (wr : Wr O) (x : Loc) : (σ.app wr).at' x = (wr.at' x).or (σ.at' x) := by
 cases x with
 | slot t => simp only [St.at', Wr.at', St.app, capp_eq, look_append]; cases look wr.sl t <;> simp
 | blk t => simp only [St.at', Wr.at', St.app, capp_eq, look_append]; cases look wr.bk t <;> simp
theorem map_inl {α β : Type} {x y : Option α} (h : x.map (Sum.inl (β := β)) = y.map .inl) : x = y := by
 cases x <;> cases y <;> simp_all
theorem map_inr {α β : Type} {x y : Option α} (h : x.map (Sum.inr (α := β)) = y.map .inr) : x = y := by
 cases x <;> cases y <;> simp_all
def Same (σ τ : St O) : Prop := ∀ x, σ.at' x = τ.at' x
theorem Same.rfl' : Same σ σ := fun _ => rfl
theorem Same.slot (h : Same σ τ) (t : Nat) : look σ.sl t = look τ.sl t := map_inl (h (.slot t))
theorem Same.blk (h : Same σ τ) (t : Nat) : look σ.bk t = look τ.bk t := map_inr (h (.blk t))
theorem Same.app (h : Same σ τ) (wr : Wr O) : Same (σ.app wr) (τ.app wr) := fun x => by rw [at_app, at_app, h x]
theorem Same.trans {ρ : St O} (h : Same σ τ) (h' : Same τ ρ) : Same σ ρ := fun x => (h x).trans (h' x)
theorem Same.symm (h : Same σ τ) : Same τ σ := fun x => (h x).symm
theorem Rel_same (h : Same σ τ) (hR : Rel cx τ a w pl) : Rel cx σ a w pl := Rel_congr h.slot h.blk hR
def Agree (n : Nat) (σ τ : St O) : Prop := ∀ x : Loc, n.testBit x.ix = true → σ.at' x = τ.at' x
theorem Agree.of_same {n : Nat} (h : Same σ τ) : Agree n σ τ := fun x _ => h x
theorem Agree.slot {n t : Nat} (h : Agree n σ τ) (ht : n.testBit (2 * t) = true) : look σ.sl t = look τ.sl t := map_inl (h (.slot t) ht)
theorem Agree.blk {n t : Nat} (h : Agree n σ τ) (ht : n.testBit (2 * t + 1) = true) : look σ.bk t = look τ.bk t := map_inr (h (.blk t) ht)
def RM.rds (σ : St O) : RM O → Nat → Nat
 | .rslot t f, acc => (f (look σ.sl t)).rds σ (Nat.lor acc (Loc.slot t).bit)
 | .rblk i f, acc => (f (look σ.bk i)).rds σ (Nat.lor acc (Loc.blk i).bit)
 | .guard _ m, acc => m.rds σ acc
 | .wr _, acc => acc
 | .call _ _, acc => acc
 | .fail, acc => acc
theorem reads_eq {A : Type} (σ : St O) : ∀ (m : RM O) (acc : Nat) (k : Nat → A), m.reads σ acc k = k (m.rds σ acc)
 | .rslot t f, acc, k => reads_eq σ (f (look σ.sl t)) _ k
 | .rblk i f, acc, k => reads_eq σ (f (look σ.bk i)) _ k
 | .guard _ m, acc, k => reads_eq σ m acc k
 | .wr _, acc, k => rfl
 | .call _ _, acc, k => rfl
 | .fail, acc, k => rfl
theorem testBit_lor (a b j : Nat) : (Nat.lor a b).testBit j = (a.testBit j || b.testBit j) := Nat.testBit_or a b j
theorem rds_mono (σ : St O) {j : Nat} : ∀ (m : RM O) (acc : Nat), acc.testBit j = true → (m.rds σ acc).testBit j = true
 | .rslot t f, acc, h => rds_mono σ (f (look σ.sl t)) _ (by rw [testBit_lor, h]; rfl)
 | .rblk i f, acc, h => rds_mono σ (f (look σ.bk i)) _ (by rw [testBit_lor, h]; rfl)
 | .guard _ m, acc, h => rds_mono σ m acc h
 | .wr _, acc, h => h
 | .call _ _, acc, h => h
 | .fail, acc, h => h
theorem to_agree : ∀ (m : RM O) (acc : Nat), Agree (m.rds σ acc) σ τ → m.to σ wr → m.to τ wr
 | .rslot t f, acc, ha, h => by
  have e : look σ.sl t = look τ.sl t := ha.slot (rds_mono σ (f (look σ.sl t)) (Nat.lor acc (Loc.slot t).bit) (by rw [testBit_lor, Loc.bit_test]; simp [Loc.ix]))
  show (f (look τ.sl t)).to τ wr
  rw [← e]
  exact to_agree _ _ ha h
 | .rblk i f, acc, ha, h => by
  have e : look σ.bk i = look τ.bk i := ha.blk (rds_mono σ (f (look σ.bk i)) (Nat.lor acc (Loc.blk i).bit) (by rw [testBit_lor, Loc.bit_test]; simp [Loc.ix]))
  show (f (look τ.bk i)).to τ wr
  rw [← e]
  exact to_agree _ _ ha h
 | .guard _ m, acc, ha, h => ⟨h.1, to_agree m acc ha h.2⟩
 | .wr _, acc, ha, h => h
 | .call _ _, acc, ha, h => h
 | .fail, acc, ha, h => h
theorem rds_agree : ∀ (m : RM O) (acc : Nat), Same σ τ → m.rds σ acc = m.rds τ acc
 | .rslot t f, acc, h => by
  show (f (look σ.sl t)).rds σ _ = (f (look τ.sl t)).rds τ _
  rw [h.slot t]; exact rds_agree _ _ h
 | .rblk i f, acc, h => by
  show (f (look σ.bk i)).rds σ _ = (f (look τ.bk i)).rds τ _
  rw [h.blk i]; exact rds_agree _ _ h
 | .guard _ m, acc, h => rds_agree m acc h
 | .wr _, acc, h => rfl
 | .call _ _, acc, h => rfl
 | .fail, acc, h => rfl
theorem slBits_eq {A : Type} : ∀ (l : List (Nat × S)) (acc : Nat) (k : Nat → A), ∃ b, slBits l acc k = k b ∧ (∀ j, acc.testBit j = true → b.testBit j = true) ∧ ∀ t, look l t ≠ none → b.testBit (2 * t) = true
 | [], acc, k => ⟨acc, rfl, fun _ h => h, fun t h => absurd rfl h⟩
 | (i, s) :: l, acc, k => by
  obtain ⟨b, h1, h2, h3⟩ := slBits_eq l (Nat.lor acc (Loc.slot i).bit) k
  refine ⟨b, h1, fun j hj => h2 j (by rw [testBit_lor, hj]; rfl), fun t ht => ?_⟩
  rw [look_cons] at ht
  by_cases e : i = t
  ·subst e
   exact h2 _ (by rw [testBit_lor, Loc.bit_test]; simp [Loc.ix])
  ·rw [if_neg e] at ht
   exact h3 t ht
theorem bkBits_eq {A : Type} : ∀ (l : List (Nat × Blk O)) (acc : Nat) (k : Nat → A), ∃ b, bkBits l acc k = k b ∧ (∀ j, acc.testBit j = true → b.testBit j = true) ∧ ∀ t, look l t ≠ none → b.testBit (2 * t + 1) = true
 | [], acc, k => ⟨acc, rfl, fun _ h => h, fun t h => absurd rfl h⟩
 | (i, s) :: l, acc, k => by
  obtain ⟨b, h1, h2, h3⟩ := bkBits_eq l (Nat.lor acc (Loc.blk i).bit) k
  refine ⟨b, h1, fun j hj => h2 j (by rw [testBit_lor, hj]; rfl), fun t ht => ?_⟩
  rw [look_cons] at ht
  by_cases e : i = t
  ·subst e
   exact h2 _ (by rw [testBit_lor, Loc.bit_test]; simp [Loc.ix])
  ·rw [if_neg e] at ht
   exact h3 t ht
def Covers (n : Nat) (wr : Wr O) : Prop := ∀ x : Loc, wr.at' x ≠ none → n.testBit x.ix = true

theorem same_put {t : Nat} {v : S} (hb : look σ.sl t = some v) : Same (⟨(t, v) :: σ.sl, σ.bk⟩ : St O) σ := by
 intro x
 cases x with
 | slot t' =>
  simp only [St.at', look_cons]
  by_cases e : t = t'
  ·subst e; rw [if_pos rfl, hb]
  ·rw [if_neg e]
 | blk i => rfl
theorem mayB_some {α : Type} {e : Bool} {x y : Option α} {r : α} (h : mayB e x y = some r) : y = some r ∧ (e = true → x = some r) := by
 unfold mayB at h
 cases e with
 | false => exact ⟨h, fun h => by cases h⟩
 | true =>
  simp only at h
  unfold agree at h
  split at h
  ·rename_i hxy
   exact ⟨hxy ▸ h, fun _ => h⟩
  ·cases h
theorem onCond_some {R : Type} {t : Nat} {k : Bool → St O → Option R} {r : R} (h : onCond σ t k = some r) :
  (∃ b, look σ.sl t = some (.t (.one (.sc (.bool b)))) ∧ ∃ σ', Same σ' σ ∧ k b σ' = some r) ∨
  (∃ e, look σ.sl t = some (.t (.one (.mayb e))) ∧ ∀ b, (b = true → e = true) → k b ⟨(t, .t (.one (.sc (.bool b)))) :: σ.sl, σ.bk⟩ = some r) := by
 unfold onCond at h
 split at h
 ·rename_i e hb
  right
  obtain ⟨h1, h2⟩ := mayB_some h
  refine ⟨e, hb, fun b he => ?_⟩
  cases b with
  | true => exact h2 (he rfl)
  | false => exact h1
 ·rename_i b hb
  left
  rcases br_some h with ⟨h1, h2⟩ | ⟨h1, h2⟩
  ·subst h1; exact ⟨true, hb, _, same_put hb, h2⟩
  ·subst h1; exact ⟨false, hb, _, same_put hb, h2⟩
 ·cases h

def gslot (all : List Oper) (o : Oper) (g : Nat) (want : Bool) : Prop := ∃ j, o.guard = some (j, want) ∧ (all[j]?).bind (·.dst) = some g
def Does (cfg : Cfg O) (nb : Nat) (all : List Oper) (o : Oper) (τ : St O) (wr : Wr O) : Prop :=
 (∀ d, o.dst = some d → d < cfg.N) ∧
 (((o.guard = none ∨ ∃ g want, gslot all o g want ∧ look τ.sl g = some (.t (.one (.sc (.bool want))))) ∧ (opRM cfg nb o).to τ wr) ∨
   ((∃ g want v, gslot all o g want ∧ look τ.sl g = some (.t (.one (.sc v))) ∧ v ≠ .bool want) ∧ wr = { sl := putS o.dst undefS }))
theorem dstOk_iff {N : Nat} {dst : Option Tmp} (h : dstOk N dst = true) : ∀ d, dst = some d → d < N := by
 rintro d rfl
 exact Nat.le_of_ble_eq_true h
theorem onSlot_some {R : Type} {t : Nat} {k : Bool → St O → Option R} {r : R} (h : onSlot σ t k = some r) :
  ∃ b, look σ.sl t = some (.t (.one (.sc (.bool b)))) ∧ ∃ σ', Same σ' σ ∧ k b σ' = some r := by
 unfold onSlot at h
 split at h
 ·rename_i b hb
  have key : ∀ b', b = b' → Same (⟨(t, .t (.one (.sc (.bool b')))) :: σ.sl, σ.bk⟩ : St O) σ := by
   rintro b' rfl x
   cases x with
   | slot t' =>
    simp only [St.at', look_cons]
    by_cases e : t = t'
    ·subst e; rw [if_pos rfl, hb]
    ·rw [if_neg e]
   | blk i => rfl
  rcases br_some h with ⟨h1, h2⟩ | ⟨h1, h2⟩
  ·exact ⟨true, by rw [hb, h1], _, key _ h1, h2⟩
  ·exact ⟨false, by rw [hb, h1], _, key _ h1, h2⟩
 ·cases h
structure Step1 (cfg : Cfg O) (nb : Nat) (all : List Oper) (o : Oper) (σ : St O) (wr : Wr O) (l : Log) : Prop where
 does : Does cfg nb all o σ wr
 reads : ∀ τ, Agree l.rd σ τ → Does cfg nb all o τ wr
 writes : Covers l.wr wr
theorem doOp_to {R : Type} {nb pre : Nat} {k : St O → Log → Option R} {r : R} (h : doOp cfg nb o pre σ k = some r) :
  ∃ wr l σ', (∀ d, o.dst = some d → d < cfg.N) ∧ (opRM cfg nb o).to σ wr ∧ l.rd = (opRM cfg nb o).rds σ pre ∧ Covers l.wr wr ∧ Same σ' (σ.app wr) ∧ k σ' l = some r := by
 unfold doOp at h
 cases hd : dstOk cfg.N o.dst with
 | false => rw [hd] at h; cases h
 | true =>
  rw [hd] at h
  simp only at h
  obtain ⟨wr, h1, h2⟩ := ev_to h
  rw [Wr.force_eq, reads_eq, forceN_eq] at h2
  obtain ⟨b, h3, h4, h5⟩ := slBits_eq wr.sl 0 (fun b => bkBits wr.bk b fun b => forceN b fun b => (σ.app wr).force fun σ => k σ ⟨(opRM cfg nb o).rds σ pre, b⟩)
  have h2' := h2
  obtain ⟨b, h3, h4, h5⟩ := slBits_eq wr.sl 0 (fun b' => bkBits wr.bk b' fun b => forceN b fun b => (σ.app wr).force fun σ' => k σ' ⟨(opRM cfg nb o).rds σ pre, b⟩)
  rw [h3] at h2'
  obtain ⟨b2, h6, h7, h8⟩ := bkBits_eq wr.bk b (fun b => forceN b fun b => (σ.app wr).force fun σ' => k σ' ⟨(opRM cfg nb o).rds σ pre, b⟩)
  rw [h6, forceN_eq, St.force_eq] at h2'
  refine ⟨wr, _, _, dstOk_iff hd, h1, rfl, ?_, Same.rfl', h2'⟩
  intro x hx
  cases x with
  | slot t => exact h7 _ (h5 t (fun e => hx (by simp [Wr.at', e])))
  | blk i => exact h8 i (fun e => hx (by simp [Wr.at', e]))
theorem pickOp_to {R : Type} {nb pre : Nat} {k : St O → Log → Option R} {r : R} (h : pickOp cfg nb o pre σ k = some r) :
  ∃ wr l σ', (∀ d, o.dst = some d → d < cfg.N) ∧ (opRM cfg nb o).to σ wr ∧ l.rd = (opRM cfg nb o).rds σ pre ∧ Covers l.wr wr ∧ Same σ' (σ.app wr) ∧ k σ' l = some r := by
 unfold pickOp at h
 split at h
 ·obtain ⟨b, hb, σ1, hs, h1⟩ := onSlot_some h
  obtain ⟨wr, l, σ', g1, g2, g3, g4, g5, g6⟩ := doOp_to h1
  exact ⟨wr, l, σ', g1, to_agree _ 0 (Agree.of_same hs) g2, by rw [g3, rds_agree _ _ hs], g4, g5.trans (hs.app wr), g6⟩
 ·exact doOp_to h
theorem skipOp_to {R : Type} {g : Nat} {k : St O → Log → Option R} {r : R} (h : skipOp cfg o g σ k = some r) :
  ∃ l σ', (∀ d, o.dst = some d → d < cfg.N) ∧ l.rd = (Loc.slot g).bit ∧ Covers (O := O) l.wr { sl := putS o.dst undefS } ∧ Same σ' (σ.app { sl := putS o.dst undefS }) ∧ k σ' l = some r := by
 unfold skipOp at h
 cases hd : dstOk cfg.N o.dst with
 | false => rw [hd] at h; cases h
 | true =>
  rw [hd] at h
  simp only at h
  obtain ⟨b, h3, h4, h5⟩ := slBits_eq (putS o.dst undefS) 0 (fun b => forceN b fun b => (σ.app { sl := putS o.dst undefS }).force fun σ => k σ ⟨(Loc.slot g).bit, b⟩)
  rw [h3, forceN_eq, St.force_eq] at h
  refine ⟨_, _, dstOk_iff hd, rfl, ?_, Same.rfl', h⟩
  intro x hx
  cases x with
  | slot t => exact h5 t (fun e => hx (by simp [Wr.at', e]))
  | blk i => exact absurd rfl hx
theorem runOp_to {R : Type} {nb : Nat} {all : List Oper} {k : St O → Log → Option R} {r : R} (h : runOp cfg nb all o σ k = some r) :
  ∃ wr l σ', Step1 cfg nb all o σ wr l ∧ Same σ' (σ.app wr) ∧ k σ' l = some r := by
 unfold runOp at h
 split at h
 ·rename_i hg
  obtain ⟨wr, l, σ', g1, g2, g3, g4, g5, g6⟩ := pickOp_to h
  exact ⟨wr, l, σ', ⟨⟨g1, .inl ⟨.inl hg, g2⟩⟩, fun τ ha => ⟨g1, .inl ⟨.inl hg, to_agree _ 0 (g3 ▸ ha) g2⟩⟩, g4⟩, g5, g6⟩
 ·rename_i j want hg
  split at h
  ·cases h
  ·rename_i g hj
   have hgs : gslot all o g want := ⟨j, hg, hj⟩
   have bitg : ((Loc.slot g).bit).testBit (2 * g) = true := by rw [Loc.bit_test]; simp [Loc.ix]
   have skips : ∀ {σ1 : St O}, Same σ1 σ → ∀ v, look σ.sl g = some (.t (.one (.sc v))) → v ≠ .bool want → skipOp cfg o g σ1 k = some r →
     ∃ wr l σ', Step1 cfg nb all o σ wr l ∧ Same σ' (σ.app wr) ∧ k σ' l = some r := by
    intro σ1 hs v hv hne h
    obtain ⟨l, σ', g1, g2, g3, g4, g5⟩ := skipOp_to h
    refine ⟨_, l, σ', ⟨⟨g1, .inr ⟨⟨g, want, v, hgs, hv, hne⟩, rfl⟩⟩, fun τ ha => ⟨g1, .inr ⟨⟨g, want, v, hgs, ?_, hne⟩, rfl⟩⟩, g3⟩, g4.trans (hs.app _), g5⟩
    rw [← ha.slot (by rw [g2]; exact bitg)]
    exact hv
   split at h
   ·rename_i x hv
    exact skips Same.rfl' _ hv (by simp) h
   ·obtain ⟨b, hb, σ1, hs, h1⟩ := onSlot_some h
    cases hbw : beqB b want with
    | true =>
     rw [hbw] at h1
     simp only at h1
     have e : b = want := by cases b <;> cases want <;> simp [beqB] at hbw ⊢
     subst e
     obtain ⟨wr, l, σ', g1, g2, g3, g4, g5, g6⟩ := pickOp_to h1
     have g2' := to_agree (τ := σ) _ 0 (Agree.of_same hs) g2
     have g3' : l.rd = (opRM cfg nb o).rds σ (Loc.slot g).bit := by rw [g3, rds_agree _ _ hs]
     refine ⟨wr, l, σ', ⟨⟨g1, .inl ⟨.inr ⟨g, b, hgs, hb⟩, g2'⟩⟩, fun τ ha => ⟨g1, .inl ⟨.inr ⟨g, b, hgs, ?_⟩, to_agree _ _ (g3' ▸ ha) g2'⟩⟩, g4⟩, g5.trans (hs.app wr), g6⟩
     rw [← ha.slot (by rw [g3']; exact rds_mono σ _ _ bitg)]
     exact hb
    | false =>
     rw [hbw] at h1
     simp only at h1
     refine skips hs _ hb ?_ h1
     intro e
     cases e
     cases want <;> simp [beqB] at hbw

theorem runOps_to {R : Type} {all : List Oper} : ∀ (os : List Oper) (nb : Nat) (σ : St O) (lg : List Log) (k : St O → List Log → Option R) (r : R), runOps cfg all os nb σ lg k = some r →
  ∃ (W : Nat → Wr O) (l : Nat → Log) (σs : Nat → St O), σs 0 = σ ∧ (∀ i o, os[i]? = some o → Step1 cfg (nb + 8 * i) all o (σs i) (W i) (l i) ∧ Same (σs (i + 1)) ((σs i).app (W i))) ∧
   k (σs os.length) (((List.range os.length).map l).reverse ++ lg) = some r
 | [], nb, σ, lg, k, r, h => ⟨fun _ => {}, fun _ => ⟨0, 0⟩, fun _ => σ, rfl, by simp, h⟩
 | o :: os, nb, σ, lg, k, r, h => by
  obtain ⟨wr, l0, σ', h1, h2, h3⟩ := runOp_to h
  obtain ⟨W, l, σs, g1, g2, g3⟩ := runOps_to os (nb + 8) σ' (l0 :: lg) k r h3
  refine ⟨fun i => match i with | 0 => wr | i + 1 => W i, fun i => match i with | 0 => l0 | i + 1 => l i, fun i => match i with | 0 => σ | i + 1 => σs i, rfl, ?_, ?_⟩
  ·intro i o' ho
   cases i with
   | zero =>
    simp only [List.getElem?_cons_zero, Option.some.injEq] at ho
    subst ho
    exact ⟨h1, by show Same (σs 0) _; rw [g1]; exact h2⟩
   | succ i =>
    simp only [List.getElem?_cons_succ] at ho
    have := g2 i o' ho
    rw [show nb + 8 * (i + 1) = nb + 8 + 8 * i by omega]
    exact this
  ·simp only [List.length_cons, List.range_succ_eq_map, List.map_cons, List.map_map, List.reverse_cons, List.append_assoc, List.singleton_append]
   exact g3

theorem does_wp (hT : TTok P cfg.tt) (hΓ : Γok P cfg.Γ) (hN : cfg.N = cx.N) {ops : Array Oper} {nb i : Nat} {Q : Exit → Act → World → Prop} {K : Act → World → Prop} (ho : ops[i]? = some o)
  (hd : Does cfg nb ops.toList o τ wr) (hR : Rel cx τ a w pl) (hK : ∀ a' w' pl', Rel cx (τ.app wr) a' w' pl' → K a' w') : wpOp P ops Q i K a w := by
 unfold wpOp
 rw [ho]
 simp only
 obtain ⟨hdst, h⟩ := hd
 rw [hN] at hdst
 have yld : ∀ {g want v}, gslot ops.toList o g want → look τ.sl g = some (.t (.one (.sc v))) → (Region.wanted o (yielded ops a.tmps) = true ↔ v = .bool want) := by
  rintro g want v ⟨j, hg, hj⟩ hv
  obtain ⟨h1, h2⟩ := hR.slots g _ hv
  have h2' : a.tmps.getD g undef = v := h2
  have hj' : (ops[j]?).bind (·.dst) = some g := by simpa using hj
  have h3 : a.tmps[g]? = some v := by
   rw [Array.getD_eq_getD_getElem?, Array.getElem?_eq_getElem h1] at h2'
   rw [Array.getElem?_eq_getElem h1]
   simpa using h2'
  have h4 : ∀ b, yielded ops a.tmps j = some b ↔ v = .bool b := by
   intro b
   unfold yielded
   rw [hj', Option.bind_some, h3]
   cases v <;> simp
  unfold Region.wanted
  rw [hg]
  simp only [beq_iff_eq]
  exact h4 want
 rcases h with ⟨hg, hto⟩ | ⟨⟨g, want, v, hgs, hv, hne⟩, rfl⟩
 ·have hw : Region.wanted o (yielded ops a.tmps) = true := by
   rcases hg with hg | ⟨g, want, hgs, hv⟩
   ·simp [Region.wanted, hg]
   ·exact (yld hgs hv).2 rfl
  rw [if_pos hw]
  exact .inl (good_op hT hΓ hR hdst hto K Q hK)
 ·have hw : ¬ Region.wanted o (yielded ops a.tmps) = true := fun h => hne ((yld hgs hv).1 h)
  rw [if_neg hw]
  exact hK _ _ _ (rel_put hR hdst (v := undef) rfl)
theorem text_wp (hT : TTok P cfg.tt) (hΓ : Γok P cfg.Γ) (hN : cfg.N = cx.N) {ops : Array Oper} {nb : Nat} {Q : Exit → Act → World → Prop} {W : Nat → Wr O} {l : Nat → Log} {σs : Nat → St O}
  (hs : ∀ i o, ops.toList[i]? = some o → Step1 cfg (nb + 8 * i) ops.toList o (σs i) (W i) (l i) ∧ Same (σs (i + 1)) ((σs i).app (W i)))
  (hQ : ∀ a w pl, Rel cx (σs ops.size) a w pl → Q .normal a w) : ∀ (m j : Nat), j + m = ops.size → ∀ (a : Act) (w : World) (pl : Nat → Pl), Rel cx (σs j) a w pl →
   wpOps P ops Q (List.range' j m) a w
 | 0, j, hj, a, w, pl, hR => by
  have : j = ops.size := by omega
  subst this
  exact hQ a w pl hR
 | m + 1, j, hj, a, w, pl, hR => by
  rw [List.range'_succ, wpOps_cons]
  have hlt : j < ops.size := by omega
  have ho : ops[j]? = some ops[j] := Array.getElem?_eq_getElem hlt
  obtain ⟨h1, h2⟩ := hs j ops[j] (by simp)
  exact does_wp hT hΓ hN ho h1.does hR fun a' w' pl' hR' => text_wp hT hΓ hN hs hQ m (j + 1) (by omega) a' w' pl' (Rel_same h2 hR')
end
end Go.BB
set_option linter.unusedSimpArgs false
set_option linter.unusedVariables false
namespace Go.BB
open Go
section
variable {O : ObjK} {cx : Cx} {σ τ : St O} {a : Act} {w : World} {pl : Nat → Pl} {cfg : Cfg O} {P : Program} {o : Oper} {wr : Wr O}

def mix (L : Nat → Bool) (W : Nat → Wr O) (f : Loc → Option (S ⊕ Blk O)) : Nat → Loc → Option (S ⊕ Blk O)
 | 0 => f
 | n + 1 => fun x => match L n with | true => ((W n).at' x).or (mix L W f n x) | false => mix L W f n x
theorem mix_congr {L L' : Nat → Bool} {W : Nat → Wr O} {f : Loc → Option (S ⊕ Blk O)} {x : Loc} : ∀ (n : Nat), (∀ k, k < n → (W k).at' x ≠ none → L k = L' k) → mix L W f n x = mix L' W f n x
 | 0, _ => rfl
 | n + 1, h => by
  have ih := mix_congr (f := f) n (fun k hk => h k (by omega))
  simp only [mix]
  cases hw : (W n).at' x with
  | none => cases L n <;> cases L' n <;> simp [ih]
  | some v => rw [h n (by omega) (by rw [hw]; simp), ih]
theorem mix_lt {W : Nat → Wr O} {f : Loc → Option (S ⊕ Blk O)} {x : Loc} (i : Nat) : ∀ n, i ≤ n → mix (fun k => decide (k < i)) W f n x = mix (fun _ => true) W f i x
 | 0, h => by
  have : i = 0 := by omega
  subst this; rfl
 | n + 1, h => by
  by_cases e : i = n + 1
  ·subst e
   exact mix_congr (n + 1) fun k hk _ => by simp [hk]
  ·have : ¬ n < i := by omega
   simp only [mix, this, decide_false]
   exact mix_lt i n (by omega)
theorem mix_text {W : Nat → Wr O} {σs : Nat → St O} {n : Nat} (h : ∀ i, i < n → Same (σs (i + 1)) ((σs i).app (W i))) : ∀ i, i ≤ n → ∀ x, mix (fun _ => true) W (σs 0).at' i x = (σs i).at' x
 | 0, _, x => rfl
 | i + 1, hi, x => by
  rw [h i (by omega) x, at_app, ← mix_text h i (by omega) x]
  rfl
structure Plan (n : Nat) (pre : Nat → Nat → Prop) (l : Nat → Log) : Prop where
 lt : ∀ i j, pre i j → j < i
 apart : ∀ i j, j < i → i < n → pre i j ∨ apart (l j) (l i) = true
theorem apart_bits {x y : Log} (h : apart x y = true) (j : Nat) : ¬ (x.wr.testBit j = true ∧ (y.rd.testBit j = true ∨ y.wr.testBit j = true)) ∧ ¬ (x.rd.testBit j = true ∧ y.wr.testBit j = true) := by
 unfold BB.apart at h
 cases h1 : Nat.beq (Nat.land x.wr (Nat.lor y.rd y.wr)) 0 with
 | false => rw [h1] at h; cases h
 | true =>
  rw [h1] at h
  have h2 := Nat.eq_of_beq_eq_true h1
  have h3 : Nat.land x.rd y.wr = 0 := Nat.eq_of_beq_eq_true h
  constructor
  ·rintro ⟨a, b⟩
   have : (Nat.land x.wr (Nat.lor y.rd y.wr)).testBit j = true := by
    show (x.wr &&& (y.rd ||| y.wr)).testBit j = true
    rw [Nat.testBit_and, Nat.testBit_or, a]
    rcases b with b | b <;> simp [b]
   rw [h2] at this; simp at this
  ·rintro ⟨a, b⟩
   have : (Nat.land x.rd y.wr).testBit j = true := by
    show (x.rd &&& y.wr).testBit j = true
    rw [Nat.testBit_and, a, b]; rfl
   rw [h3] at this; simp at this
variable {W : Nat → Wr O} {l : Nat → Log} {σs : Nat → St O} {n : Nat} {pre : Nat → Nat → Prop} {L : Nat → Bool} {ops : Array Oper} {nb : Nat}
theorem plan_noread (hp : Plan n pre l) (hdone : ∀ i j, i < n → L i = true → pre i j → L j = true) {i : Nat} (hi : i < n) (hLi : L i = false) (hready : ∀ j, pre i j → L j = true)
  {x : Loc} (hx : (l i).rd.testBit x.ix = true ∨ (l i).wr.testBit x.ix = true) : ∀ k, k < n → k ≠ i → (l k).wr.testBit x.ix = true → L k = decide (k < i) := by
 intro k hk hki hw
 rcases Nat.lt_or_gt_of_ne hki with h | h
 ·simp only [h, decide_true]
  rcases hp.apart i k h hi with h1 | h1
  ·exact hready k h1
  ·exact absurd ⟨hw, hx⟩ (apart_bits h1 x.ix).1
 ·have h2 : ¬ k < i := by omega
  simp only [h2, decide_false]
  cases hL : L k with
  | false => rfl
  | true =>
   rcases hp.apart k i h hk with h1 | h1
   ·rw [hdone k i hk hL h1] at hLi; cases hLi
   ·rcases hx with hx | hx
    ·exact absurd ⟨hx, hw⟩ (apart_bits h1 x.ix).2
    ·exact absurd ⟨hx, .inr hw⟩ (apart_bits h1 x.ix).1
theorem any_step (hs : ∀ i o, ops.toList[i]? = some o → Step1 cfg (nb + 8 * i) ops.toList o (σs i) (W i) (l i) ∧ Same (σs (i + 1)) ((σs i).app (W i)))
  (hp : Plan ops.size pre l) (hdone : ∀ i j, i < ops.size → L i = true → pre i j → L j = true) (hτ : ∀ x, τ.at' x = mix L W (σs 0).at' ops.size x)
  {i : Nat} (hi : i < ops.size) (hLi : L i = false) (hready : ∀ j, pre i j → L j = true) :
  Does cfg (nb + 8 * i) ops.toList ops[i] τ (W i) ∧ ∀ x, (τ.app (W i)).at' x = mix (fun k => decide (k = i) || L k) W (σs 0).at' ops.size x := by
 have hst : ∀ k, k < ops.size → ∃ o, ops.toList[k]? = some o := fun k hk => ⟨ops[k], by simp [hk]⟩
 have hwr : ∀ k, k < ops.size → ∀ x, (W k).at' x ≠ none → (l k).wr.testBit x.ix = true := fun k hk x hx => by
  obtain ⟨o, ho⟩ := hst k hk
  exact (hs k o ho).1.writes x hx
 have htext := mix_text (W := W) (σs := σs) (n := ops.size) fun k hk => by
  obtain ⟨o, ho⟩ := hst k hk
  exact (hs k o ho).2
 have h1 := (hs i ops[i] (by simp [hi])).1
 constructor
 ·refine h1.reads τ fun x hx => ?_
  rw [hτ x, ← htext i (by omega) x, ← mix_lt i ops.size (by omega)]
  refine (mix_congr _ fun k hk hw => ?_).symm
  by_cases e : k = i
  ·subst e; rw [hLi]; simp
  ·exact plan_noread hp hdone hi hLi hready (.inl hx) k hk e (hwr k hk x hw)
 ·intro x
  rw [at_app]
  cases hw : (W i).at' x with
  | none =>
   rw [Option.none_or, hτ x]
   refine mix_congr _ fun k hk hwk => ?_
   have : k ≠ i := fun e => by subst e; rw [hw] at hwk; exact hwk rfl
   simp [this]
  | some v =>
   rw [Option.some_or]
   have hx := hwr i hi x (by rw [hw]; simp)
   have e : mix (fun k => decide (k = i) || L k) W (σs 0).at' ops.size x = mix (fun k => decide (k < i + 1)) W (σs 0).at' ops.size x := by
    refine mix_congr _ fun k hk hwk => ?_
    by_cases e : k = i
    ·subst e; simp
    ·have := plan_noread hp hdone hi hLi hready (.inr hx) k hk e (hwr k hk x hwk)
     simp only [e, decide_false, Bool.false_or, this]
     congr 1
     simp only [eq_iff_iff]
     omega
   rw [e, mix_lt (i + 1) ops.size (by omega)]
   simp only [mix, hw, Option.some_or]

inductive Ahead (ops : Array Oper) : Nat → Nat → Prop
 | edge {i j : Nat} {o : Oper} {e : Edge} : ops[i]? = some o → e ∈ o.after → bindsAny e.ground = true → e.on = j → Ahead ops i j
 | more {i j k : Nat} {o : Oper} {e : Edge} : ops[i]? = some o → e ∈ o.after → bindsAny e.ground = true → e.on = k → Ahead ops k j → Ahead ops i j
theorem bindsAny_eq (e : Edge) : bindsAny e.ground = Region.binds .any e := by
 unfold bindsAny Region.binds
 cases e.ground <;> rfl
theorem any_wp (hT : TTok P cfg.tt) (hΓ : Γok P cfg.Γ) (hN : cfg.N = cx.N) {Q : Exit → Act → World → Prop}
  (hs : ∀ i o, ops.toList[i]? = some o → Step1 cfg (nb + 8 * i) ops.toList o (σs i) (W i) (l i) ∧ Same (σs (i + 1)) ((σs i).app (W i)))
  (hback : ∀ (i : Nat) (o : Oper), ops[i]? = some o → ∀ e ∈ o.after, bindsAny e.ground = true → e.on < i)
  (hp : Plan ops.size (Ahead ops) l)
  (hQ : ∀ a w pl, Rel cx (σs ops.size) a w pl → Q .normal a w) :
  ∀ (fuel : Nat) (listed : Array Bool), listed.size = ops.size → (∀ i j, i < ops.size → listed.getD i false = true → Ahead ops i j → listed.getD j false = true) →
   ∀ (τ : St O) (a : Act) (w : World) (pl : Nat → Pl), (∀ x, τ.at' x = mix (fun k => listed.getD k false) W (σs 0).at' ops.size x) → Rel cx τ a w pl → (ops.size - (listed.toList.countP id) ≤ fuel) →
   wpAny P .any ops Q fuel listed a w := by
 have hend : ∀ (listed : Array Bool), listed.size = ops.size → (∀ k, k < ops.size → listed.getD k false = true) → ∀ (τ : St O) (a : Act) (w : World) (pl : Nat → Pl),
   (∀ x, τ.at' x = mix (fun k => listed.getD k false) W (σs 0).at' ops.size x) → Rel cx τ a w pl → Q .normal a w := by
  intro listed hsz hall τ a w pl hτ hR
  refine hQ a w pl (Rel_same (fun x => ?_) hR)
  rw [hτ x, ← mix_text (W := W) (σs := σs) (n := ops.size) (fun k hk => (hs k ops[k] (by simp [hk])).2) ops.size (Nat.le_refl _) x]
  exact (mix_congr _ fun k hk _ => hall k hk).symm
 have hnone : ∀ (listed : Array Bool), listed.size = ops.size → Region.ready .any ops listed = [] → ∀ k, k < ops.size → listed.getD k false = true := by
  intro listed hsz hr k
  induction k using Nat.strongRecOn with
  | _ k ih =>
   intro hk
   cases hl : listed.getD k false with
   | true => rfl
   | false =>
    have hmem : k ∈ Region.ready .any ops listed := by
     unfold Region.ready
     refine List.mem_filter.2 ⟨List.mem_range.2 hk, ?_⟩
     have h1 : listed.getD k true = false := by
      rw [Array.getD_eq_getD_getElem?, Array.getElem?_eq_getElem (by omega)] at hl ⊢
      simpa using hl
     rw [h1, Array.getElem?_eq_getElem hk]
     simp only [Bool.not_false, Option.map_some, Option.getD_some, Bool.true_and, Array.all_eq_true_iff_forall_mem]
     intro e he
     cases hb : Region.binds .any e with
     | false => rfl
     | true =>
      have := hback k ops[k] (Array.getElem?_eq_getElem hk) e he (by rw [bindsAny_eq]; exact hb)
      simp only [Bool.not_true, Bool.false_or]
      exact ih e.on this (by omega)
    rw [hr] at hmem; cases hmem
 intro fuel
 induction fuel with
 | zero =>
  intro listed hsz hdone τ a w pl hτ hR hf
  have hall : ∀ k, k < ops.size → listed.getD k false = true := by
   intro k hk
   have h1 : listed.toList.countP id = listed.toList.length := by
    have h3 : listed.toList.countP id ≤ listed.toList.length := List.countP_le_length
    have h4 : listed.toList.length = listed.size := by simp
    omega
   have h2 := List.countP_eq_length.1 h1 (listed[k]'(by omega)) (by simp)
   rw [Array.getD_eq_getD_getElem?, Array.getElem?_eq_getElem (by omega)]
   simpa using h2
  refine ⟨?_, hend listed hsz hall τ a w pl hτ hR⟩
  unfold Region.ready
  refine List.filter_eq_nil_iff.2 fun k hk => ?_
  have hk' := List.mem_range.1 hk
  have h1 : listed.getD k true = true := by
   have := hall k hk'
   rw [Array.getD_eq_getD_getElem?, Array.getElem?_eq_getElem (by omega)] at this ⊢
   simpa using this
  rw [h1]
  simp
 | succ fuel ih =>
  intro listed hsz hdone τ a w pl hτ hR hf
  refine ⟨fun hr => hend listed hsz (hnone listed hsz hr) τ a w pl hτ hR, fun i hi => ?_⟩
  unfold Region.ready at hi
  obtain ⟨hi1, hi2⟩ := List.mem_filter.1 hi
  have hi' := List.mem_range.1 hi1
  rw [Array.getElem?_eq_getElem hi'] at hi2
  simp only [Option.map_some, Option.getD_some, Bool.and_eq_true, Bool.not_eq_true', Array.all_eq_true_iff_forall_mem, Bool.or_eq_true] at hi2
  obtain ⟨h1, h2⟩ := hi2
  have hLi : listed.getD i false = false := by
   rw [Array.getD_eq_getD_getElem?, Array.getElem?_eq_getElem (by omega)] at h1 ⊢
   simpa using h1
  have hready : ∀ j, Ahead ops i j → listed.getD j false = true := by
   intro j hj
   have hd : ∀ e ∈ ops[i].after, bindsAny e.ground = true → listed.getD e.on false = true := by
    intro e he hb
    rw [bindsAny_eq] at hb
    rcases h2 e he with h | h
    ·rw [hb] at h; cases h
    ·exact h
   cases hj with
   | edge ho he hb hon =>
    rw [Array.getElem?_eq_getElem hi'] at ho
    cases ho
    rw [← hon]; exact hd _ he hb
   | more ho he hb hon hk =>
    rw [Array.getElem?_eq_getElem hi'] at ho
    cases ho
    have hlt := hback i ops[i] (Array.getElem?_eq_getElem hi') _ he hb
    have h3 := hd _ he hb
    rw [hon] at h3 hlt
    exact hdone _ j (by omega) h3 hk
  obtain ⟨h3, h4⟩ := any_step (L := fun k => listed.getD k false) hs hp (fun i j h h' => hdone i j h h') hτ hi' hLi hready
  have hget : ∀ k, (listed.setIfInBounds i true).getD k false = (decide (k = i) || listed.getD k false) := by
   intro k
   rw [Array.getD_eq_getD_getElem?, Array.getD_eq_getD_getElem?, Array.getElem?_setIfInBounds]
   by_cases e : i = k
   ·subst e
    have : i < listed.size := by omega
    simp [this]
   ·simp [e, show ¬ k = i from fun h => e h.symm]
  refine does_wp hT hΓ hN (Array.getElem?_eq_getElem hi') h3 hR fun a' w' pl' hR' => ?_
  refine ih (listed.setIfInBounds i true) (by simpa using hsz) ?_ _ a' w' pl' (fun x => ?_) hR' ?_
  ·intro k j hk hkl hkj
   rw [hget] at hkl ⊢
   simp only [Bool.or_eq_true, decide_eq_true_eq] at hkl ⊢
   rcases hkl with rfl | hkl
   ·exact .inr (hready j hkj)
   ·exact .inr (hdone k j hk hkl hkj)
  ·rw [h4 x]
   exact mix_congr _ fun k _ _ => (hget k).symm
  ·have hcount : (listed.setIfInBounds i true).toList.countP id = listed.toList.countP id + 1 := by
    rw [Array.toList_setIfInBounds]
    have hlt : i < listed.toList.length := by simpa [hsz] using hi'
    have hx : listed.toList[i] = false := by
     rw [Array.getD_eq_getD_getElem?, Array.getElem?_eq_getElem (by omega)] at hLi
     simpa using hLi
    rw [List.countP_set hlt, hx]
    simp
   rw [hcount]
   omega
end
end Go.BB
