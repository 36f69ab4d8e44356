/- A symbolic machine for the model's code, and what it shows of this seat's functions. No conditions. -/
import Derived.Test.YtnofmeckcimodaaCOpN
import Derived.Orders
set_option linter.unusedSimpArgs false
set_option linter.unusedVariables false
namespace Go.BB
open Go
section
variable {O : ObjK} {cx : Cx} {σ : St O} {a : Act} {w : World} {pl : Nat → Pl} {cfg : Cfg O} {P : Program} {o : Oper} {wr : Wr O}

theorem call_value_run {c : Call} {x : Operand} {g : Nat} (hc : c.callee = .value x) (hx : a.eval x = .func (.func g) #[] #[]) (ho : o.op = .call c) :
    (execOp a.eval o).run P w = (callFunc g (c.args.toList.map a.eval).toArray).run P w := by
  have e : (c.args.toList.map a.eval).toArray = #[] ++ c.args.map a.eval ++ #[] := by
    obtain ⟨cc, ⟨args⟩, ats⟩ := c
    simp
  rw [e]
  obtain ⟨dst, op, type, pos, after, guard⟩ := o
  simp only at ho
  subst ho
  obtain ⟨cc, args, ats⟩ := c
  simp only at hc
  subst hc
  show (execOp a.eval { dst, op := .call { callee := .value x, args, argTypes := ats }, type, pos, after, guard }).run P w = _
  have : execOp a.eval { dst, op := .call { callee := .value x, args, argTypes := ats }, type, pos, after, guard } =
    (do let d ← Deferred.ofValue (a.eval x) (args.map a.eval); invoke d.target d.args) := rfl
  rw [this, hx]
  rfl
theorem good_call (hT : TTok P cfg.tt) (hΓ : Γok P cfg.Γ) (hR : Rel cx σ a w pl) (hd : ∀ d, o.dst = some d → d < cx.N) {nb : Nat} {c : Call}
    (ho : o.op = .call c) (h : (opCall cfg nb o.dst c).to σ wr) : Good P cx σ a w o wr := by
  unfold opCall at h
  split at h
  · rename_i g hc
    exact good_callF hΓ hR hd (call_value_run hc (by rfl) ho) h
  · rename_i t hc
    obtain ⟨v, h1, h2⟩ := evV_to h
    cases hf : fnOf v with
    | none => rw [hf] at h2; exact h2.elim
    | some g =>
      rw [hf] at h2
      exact good_callF hΓ hR hd (call_value_run hc ((opd_sc hR h1).trans (fnOf_some hf)) ho) h2
  · rename_i b hc
    obtain ⟨cc, args, ats⟩ := c
    simp only at hc
    subst hc
    obtain ⟨args⟩ := args
    obtain ⟨ats⟩ := ats
    simp only at h
    split at h
    · exact good_len hT hR hd ho h
    · exact good_max hR hd ho h
    · exact good_min hR hd ho h
    · rename_i x y t t'
      cases hb : Nat.beq t t' with
      | false => rw [hb] at h; exact h.elim
      | true =>
        rw [hb] at h
        have := Nat.eq_of_beq_eq_true hb
        subst this
        exact good_append hT hR hd ho h
    · rename_i x y t t'
      cases hb : Nat.beq t t' with
      | false => rw [hb] at h; exact h.elim
      | true =>
        rw [hb] at h
        have := Nat.eq_of_beq_eq_true hb
        subst this
        exact good_copy hT hR hd ho h
    · exact good_delete hT hR hd ho h
    · exact h.elim
  · exact h.elim
theorem good_op (hT : TTok P cfg.tt) (hΓ : Γok P cfg.Γ) (hR : Rel cx σ a w pl) (hd : ∀ d, o.dst = some d → d < cx.N) {nb : Nat}
    (h : (opRM cfg nb o).to σ wr) : Good P cx σ a w o wr := by
  unfold opRM at h
  split at h
  case h_1 ho => exact good_move hR hd (.inl ho) h
  case h_2 ho => exact good_move hR hd (.inr ho) h
  case h_3 ho => exact good_pick hR hd ho h
  case h_4 ho => exact good_bin hT hR hd ho h
  case h_5 ho => exact good_un hR hd ho h
  case h_6 ho => exact good_conv hT hR hd ho h
  case h_7 ho => exact good_boxA hT hR hd ho h
  case h_8 ho => exact good_allocA hT hR hd ho h
  case h_9 ho => exact good_loadA hT hR hd ho h
  case h_10 ho => exact good_storeA hT hR hd ho h
  case h_11 ho => exact good_fieldAddr hT hR hd ho h
  case h_12 ho => exact good_field hT hR hd ho h
  case h_13 ho => exact good_indexAddrA hT hR hd ho h
  case h_14 ho => exact good_index hT hR hd ho h
  case h_15 ho => exact good_range hT hR hd ho h
  case h_16 ho => exact good_extract hR hd ho h
  case h_17 ho => exact good_makeSlice hT hR hd ho h
  case h_18 ho => exact good_buildSlice hT hR hd ho h
  case h_19 ho => exact good_buildA hT hR hd ho h
  case h_20 ho => exact good_sliceA hT hR hd ho h
  case h_21 ho => exact good_nilA hR hd ho h
  case h_22 ho => exact good_call hT hΓ hR hd ho h
  case h_23 ho => exact good_makeMap hT hR hd ho h
  case h_24 ho => exact good_lookup hT hR hd ho h
  case h_25 ho => exact good_mapEntry hT hR hd ho h
  case h_26 ho => exact good_entryStore hR hd ho h
  case h_27 ho => exact good_mapUpdateA hT hR hd ho h
  all_goals exact h.elim
end
end Go.BB
set_option linter.unusedSimpArgs false
set_option linter.unusedVariables false
namespace Go.BB
open Go
section
variable {O : ObjK} {cx : Cx} {σ τ : St O} {a : Act} {w : World} {pl : Nat → Pl} {cfg : Cfg O} {P : Program} {o : Oper} {wr : Wr O}

/-! ### places, and what was read -/
def Loc.ix : Loc → Nat
  | .slot t => 2 * t
  | .blk i => 2 * i + 1
theorem Loc.ix_inj {x y : Loc} (h : x.ix = y.ix) : x = y := by
  cases x <;> cases y <;> simp [Loc.ix] at h ⊢ <;> omega
theorem Loc.bit_test (x : Loc) (j : Nat) : x.bit.testBit j = decide (x.ix = j) := by
  cases x with
  | slot t => show (2 ^ (2 * t)).testBit j = _; rw [Nat.testBit_two_pow]; rfl
  | blk i => show (2 ^ (2 * i + 1)).testBit j = _; rw [Nat.testBit_two_pow]; rfl
def St.at' (σ : St O) : Loc → Option (S ⊕ Blk O)
  | .slot t => (look σ.sl t).map .inl
  | .blk i => (look σ.bk i).map .inr
def Wr.at' (σ : Wr O) : Loc → Option (S ⊕ Blk O)
  | .slot t => (look σ.sl t).map .inl
  | .blk i => (look σ.bk i).map .inr
theorem at_app (σ : St O) (wr : Wr O) (x : Loc) : (σ.app wr).at' x = (wr.at' x).or (σ.at' x) := by
  cases x with
  | slot t => simp only [St.at', Wr.at', St.app, capp_eq, look_append]; cases look wr.sl t <;> simp
  | blk t => simp only [St.at', Wr.at', St.app, capp_eq, look_append]; cases look wr.bk t <;> simp
theorem map_inl {α β : Type} {x y : Option α} (h : x.map (Sum.inl (β := β)) = y.map .inl) : x = y := by
  cases x <;> cases y <;> simp_all
theorem map_inr {α β : Type} {x y : Option α} (h : x.map (Sum.inr (α := β)) = y.map .inr) : x = y := by
  cases x <;> cases y <;> simp_all
/-- the two read the same -/
def Same (σ τ : St O) : Prop := ∀ x, σ.at' x = τ.at' x
theorem Same.rfl' : Same σ σ := fun _ => rfl
theorem Same.slot (h : Same σ τ) (t : Nat) : look σ.sl t = look τ.sl t := map_inl (h (.slot t))
theorem Same.blk (h : Same σ τ) (t : Nat) : look σ.bk t = look τ.bk t := map_inr (h (.blk t))
theorem Same.app (h : Same σ τ) (wr : Wr O) : Same (σ.app wr) (τ.app wr) := fun x => by rw [at_app, at_app, h x]
theorem Same.trans {ρ : St O} (h : Same σ τ) (h' : Same τ ρ) : Same σ ρ := fun x => (h x).trans (h' x)
theorem Same.symm (h : Same σ τ) : Same τ σ := fun x => (h x).symm
theorem Rel_same (h : Same σ τ) (hR : Rel cx τ a w pl) : Rel cx σ a w pl := Rel_congr h.slot h.blk hR
/-- .. where n tells -/
def Agree (n : Nat) (σ τ : St O) : Prop := ∀ x : Loc, n.testBit x.ix = true → σ.at' x = τ.at' x
theorem Agree.of_same {n : Nat} (h : Same σ τ) : Agree n σ τ := fun x _ => h x
theorem Agree.slot {n t : Nat} (h : Agree n σ τ) (ht : n.testBit (2 * t) = true) : look σ.sl t = look τ.sl t := map_inl (h (.slot t) ht)
theorem Agree.blk {n t : Nat} (h : Agree n σ τ) (ht : n.testBit (2 * t + 1) = true) : look σ.bk t = look τ.bk t := map_inr (h (.blk t) ht)
/-- the bits of what a look reads -/
def RM.rds (σ : St O) : RM O → Nat → Nat
  | .rslot t f, acc => (f (look σ.sl t)).rds σ (Nat.lor acc (Loc.slot t).bit)
  | .rblk i f, acc => (f (look σ.bk i)).rds σ (Nat.lor acc (Loc.blk i).bit)
  | .guard _ m, acc => m.rds σ acc
  | .wr _, acc => acc
  | .call _ _, acc => acc
  | .fail, acc => acc
theorem reads_eq {A : Type} (σ : St O) : ∀ (m : RM O) (acc : Nat) (k : Nat → A), m.reads σ acc k = k (m.rds σ acc)
  | .rslot t f, acc, k => reads_eq σ (f (look σ.sl t)) _ k
  | .rblk i f, acc, k => reads_eq σ (f (look σ.bk i)) _ k
  | .guard _ m, acc, k => reads_eq σ m acc k
  | .wr _, acc, k => rfl
  | .call _ _, acc, k => rfl
  | .fail, acc, k => rfl
theorem testBit_lor (a b j : Nat) : (Nat.lor a b).testBit j = (a.testBit j || b.testBit j) := Nat.testBit_or a b j
theorem rds_mono (σ : St O) {j : Nat} : ∀ (m : RM O) (acc : Nat), acc.testBit j = true → (m.rds σ acc).testBit j = true
  | .rslot t f, acc, h => rds_mono σ (f (look σ.sl t)) _ (by rw [testBit_lor, h]; rfl)
  | .rblk i f, acc, h => rds_mono σ (f (look σ.bk i)) _ (by rw [testBit_lor, h]; rfl)
  | .guard _ m, acc, h => rds_mono σ m acc h
  | .wr _, acc, h => h
  | .call _ _, acc, h => h
  | .fail, acc, h => h
theorem to_agree : ∀ (m : RM O) (acc : Nat), Agree (m.rds σ acc) σ τ → m.to σ wr → m.to τ wr
  | .rslot t f, acc, ha, h => by
    have e : look σ.sl t = look τ.sl t := ha.slot (rds_mono σ (f (look σ.sl t)) (Nat.lor acc (Loc.slot t).bit) (by rw [testBit_lor, Loc.bit_test]; simp [Loc.ix]))
    show (f (look τ.sl t)).to τ wr
    rw [← e]
    exact to_agree _ _ ha h
  | .rblk i f, acc, ha, h => by
    have e : look σ.bk i = look τ.bk i := ha.blk (rds_mono σ (f (look σ.bk i)) (Nat.lor acc (Loc.blk i).bit) (by rw [testBit_lor, Loc.bit_test]; simp [Loc.ix]))
    show (f (look τ.bk i)).to τ wr
    rw [← e]
    exact to_agree _ _ ha h
  | .guard _ m, acc, ha, h => ⟨h.1, to_agree m acc ha h.2⟩
  | .wr _, acc, ha, h => h
  | .call _ _, acc, ha, h => h
  | .fail, acc, ha, h => h
theorem rds_agree : ∀ (m : RM O) (acc : Nat), Same σ τ → m.rds σ acc = m.rds τ acc
  | .rslot t f, acc, h => by
    show (f (look σ.sl t)).rds σ _ = (f (look τ.sl t)).rds τ _
    rw [h.slot t]; exact rds_agree _ _ h
  | .rblk i f, acc, h => by
    show (f (look σ.bk i)).rds σ _ = (f (look τ.bk i)).rds τ _
    rw [h.blk i]; exact rds_agree _ _ h
  | .guard _ m, acc, h => rds_agree m acc h
  | .wr _, acc, h => rfl
  | .call _ _, acc, h => rfl
  | .fail, acc, h => rfl
theorem slBits_eq {A : Type} : ∀ (l : List (Nat × S)) (acc : Nat) (k : Nat → A), ∃ b, slBits l acc k = k b ∧ (∀ j, acc.testBit j = true → b.testBit j = true) ∧ ∀ t, look l t ≠ none → b.testBit (2 * t) = true
  | [], acc, k => ⟨acc, rfl, fun _ h => h, fun t h => absurd rfl h⟩
  | (i, s) :: l, acc, k => by
    obtain ⟨b, h1, h2, h3⟩ := slBits_eq l (Nat.lor acc (Loc.slot i).bit) k
    refine ⟨b, h1, fun j hj => h2 j (by rw [testBit_lor, hj]; rfl), fun t ht => ?_⟩
    rw [look_cons] at ht
    by_cases e : i = t
    · subst e
      exact h2 _ (by rw [testBit_lor, Loc.bit_test]; simp [Loc.ix])
    · rw [if_neg e] at ht
      exact h3 t ht
theorem bkBits_eq {A : Type} : ∀ (l : List (Nat × Blk O)) (acc : Nat) (k : Nat → A), ∃ b, bkBits l acc k = k b ∧ (∀ j, acc.testBit j = true → b.testBit j = true) ∧ ∀ t, look l t ≠ none → b.testBit (2 * t + 1) = true
  | [], acc, k => ⟨acc, rfl, fun _ h => h, fun t h => absurd rfl h⟩
  | (i, s) :: l, acc, k => by
    obtain ⟨b, h1, h2, h3⟩ := bkBits_eq l (Nat.lor acc (Loc.blk i).bit) k
    refine ⟨b, h1, fun j hj => h2 j (by rw [testBit_lor, hj]; rfl), fun t ht => ?_⟩
    rw [look_cons] at ht
    by_cases e : i = t
    · subst e
      exact h2 _ (by rw [testBit_lor, Loc.bit_test]; simp [Loc.ix])
    · rw [if_neg e] at ht
      exact h3 t ht
/-- each place that is written -/
def Covers (n : Nat) (wr : Wr O) : Prop := ∀ x : Loc, wr.at' x ≠ none → n.testBit x.ix = true

/-! ### one operation -/
theorem same_put {t : Nat} {v : S} (hb : look σ.sl t = some v) : Same (⟨(t, v) :: σ.sl, σ.bk⟩ : St O) σ := by
  intro x
  cases x with
  | slot t' =>
    simp only [St.at', look_cons]
    by_cases e : t = t'
    · subst e; rw [if_pos rfl, hb]
    · rw [if_neg e]
  | blk i => rfl
theorem mayB_some {α : Type} {e : Bool} {x y : Option α} {r : α} (h : mayB e x y = some r) : y = some r ∧ (e = true → x = some r) := by
  unfold mayB at h
  cases e with
  | false => exact ⟨h, fun h => by cases h⟩
  | true =>
    simp only at h
    unfold agree at h
    split at h
    · rename_i hxy
      exact ⟨hxy ▸ h, fun _ => h⟩
    · cases h
/-- a truth that is known, or is not -/
theorem onCond_some {R : Type} {t : Nat} {k : Bool → St O → Option R} {r : R} (h : onCond σ t k = some r) :
    (∃ b, look σ.sl t = some (.t (.one (.sc (.bool b)))) ∧ ∃ σ', Same σ' σ ∧ k b σ' = some r) ∨
    (∃ e, look σ.sl t = some (.t (.one (.mayb e))) ∧ ∀ b, (b = true → e = true) → k b ⟨(t, .t (.one (.sc (.bool b)))) :: σ.sl, σ.bk⟩ = some r) := by
  unfold onCond at h
  split at h
  · rename_i e hb
    right
    obtain ⟨h1, h2⟩ := mayB_some h
    refine ⟨e, hb, fun b he => ?_⟩
    cases b with
    | true => exact h2 (he rfl)
    | false => exact h1
  · rename_i b hb
    left
    rcases br_some h with ⟨h1, h2⟩ | ⟨h1, h2⟩
    · subst h1; exact ⟨true, hb, _, same_put hb, h2⟩
    · subst h1; exact ⟨false, hb, _, same_put hb, h2⟩
  · cases h

/-- the slot that an operation's guard looks at -/
def gslot (all : List Oper) (o : Oper) (g : Nat) (want : Bool) : Prop := ∃ j, o.guard = some (j, want) ∧ (all[j]?).bind (·.dst) = some g
def Does (cfg : Cfg O) (nb : Nat) (all : List Oper) (o : Oper) (τ : St O) (wr : Wr O) : Prop :=
  (∀ d, o.dst = some d → d < cfg.N) ∧
  (((o.guard = none ∨ ∃ g want, gslot all o g want ∧ look τ.sl g = some (.t (.one (.sc (.bool want))))) ∧ (opRM cfg nb o).to τ wr) ∨
   ((∃ g want v, gslot all o g want ∧ look τ.sl g = some (.t (.one (.sc v))) ∧ v ≠ .bool want) ∧ wr = { sl := putS o.dst undefS }))
theorem dstOk_iff {N : Nat} {dst : Option Tmp} (h : dstOk N dst = true) : ∀ d, dst = some d → d < N := by
  rintro d rfl
  exact Nat.le_of_ble_eq_true h
theorem onSlot_some {R : Type} {t : Nat} {k : Bool → St O → Option R} {r : R} (h : onSlot σ t k = some r) :
    ∃ b, look σ.sl t = some (.t (.one (.sc (.bool b)))) ∧ ∃ σ', Same σ' σ ∧ k b σ' = some r := by
  unfold onSlot at h
  split at h
  · rename_i b hb
    have key : ∀ b', b = b' → Same (⟨(t, .t (.one (.sc (.bool b')))) :: σ.sl, σ.bk⟩ : St O) σ := by
      rintro b' rfl x
      cases x with
      | slot t' =>
        simp only [St.at', look_cons]
        by_cases e : t = t'
        · subst e; rw [if_pos rfl, hb]
        · rw [if_neg e]
      | blk i => rfl
    rcases br_some h with ⟨h1, h2⟩ | ⟨h1, h2⟩
    · exact ⟨true, by rw [hb, h1], _, key _ h1, h2⟩
    · exact ⟨false, by rw [hb, h1], _, key _ h1, h2⟩
  · cases h
structure Step1 (cfg : Cfg O) (nb : Nat) (all : List Oper) (o : Oper) (σ : St O) (wr : Wr O) (l : Log) : Prop where
  does : Does cfg nb all o σ wr
  reads : ∀ τ, Agree l.rd σ τ → Does cfg nb all o τ wr
  writes : Covers l.wr wr
theorem doOp_to {R : Type} {nb pre : Nat} {k : St O → Log → Option R} {r : R} (h : doOp cfg nb o pre σ k = some r) :
    ∃ wr l σ', (∀ d, o.dst = some d → d < cfg.N) ∧ (opRM cfg nb o).to σ wr ∧ l.rd = (opRM cfg nb o).rds σ pre ∧ Covers l.wr wr ∧ Same σ' (σ.app wr) ∧ k σ' l = some r := by
  unfold doOp at h
  cases hd : dstOk cfg.N o.dst with
  | false => rw [hd] at h; cases h
  | true =>
    rw [hd] at h
    simp only at h
    obtain ⟨wr, h1, h2⟩ := ev_to h
    rw [Wr.force_eq, reads_eq, forceN_eq] at h2
    obtain ⟨b, h3, h4, h5⟩ := slBits_eq wr.sl 0 (fun b => bkBits wr.bk b fun b => forceN b fun b => (σ.app wr).force fun σ => k σ ⟨(opRM cfg nb o).rds σ pre, b⟩)
    have h2' := h2
    obtain ⟨b, h3, h4, h5⟩ := slBits_eq wr.sl 0 (fun b' => bkBits wr.bk b' fun b => forceN b fun b => (σ.app wr).force fun σ' => k σ' ⟨(opRM cfg nb o).rds σ pre, b⟩)
    rw [h3] at h2'
    obtain ⟨b2, h6, h7, h8⟩ := bkBits_eq wr.bk b (fun b => forceN b fun b => (σ.app wr).force fun σ' => k σ' ⟨(opRM cfg nb o).rds σ pre, b⟩)
    rw [h6, forceN_eq, St.force_eq] at h2'
    refine ⟨wr, _, _, dstOk_iff hd, h1, rfl, ?_, Same.rfl', h2'⟩
    intro x hx
    cases x with
    | slot t => exact h7 _ (h5 t (fun e => hx (by simp [Wr.at', e])))
    | blk i => exact h8 i (fun e => hx (by simp [Wr.at', e]))
theorem pickOp_to {R : Type} {nb pre : Nat} {k : St O → Log → Option R} {r : R} (h : pickOp cfg nb o pre σ k = some r) :
    ∃ wr l σ', (∀ d, o.dst = some d → d < cfg.N) ∧ (opRM cfg nb o).to σ wr ∧ l.rd = (opRM cfg nb o).rds σ pre ∧ Covers l.wr wr ∧ Same σ' (σ.app wr) ∧ k σ' l = some r := by
  unfold pickOp at h
  split at h
  · obtain ⟨b, hb, σ1, hs, h1⟩ := onSlot_some h
    obtain ⟨wr, l, σ', g1, g2, g3, g4, g5, g6⟩ := doOp_to h1
    exact ⟨wr, l, σ', g1, to_agree _ 0 (Agree.of_same hs) g2, by rw [g3, rds_agree _ _ hs], g4, g5.trans (hs.app wr), g6⟩
  · exact doOp_to h
theorem skipOp_to {R : Type} {g : Nat} {k : St O → Log → Option R} {r : R} (h : skipOp cfg o g σ k = some r) :
    ∃ l σ', (∀ d, o.dst = some d → d < cfg.N) ∧ l.rd = (Loc.slot g).bit ∧ Covers (O := O) l.wr { sl := putS o.dst undefS } ∧ Same σ' (σ.app { sl := putS o.dst undefS }) ∧ k σ' l = some r := by
  unfold skipOp at h
  cases hd : dstOk cfg.N o.dst with
  | false => rw [hd] at h; cases h
  | true =>
    rw [hd] at h
    simp only at h
    obtain ⟨b, h3, h4, h5⟩ := slBits_eq (putS o.dst undefS) 0 (fun b => forceN b fun b => (σ.app { sl := putS o.dst undefS }).force fun σ => k σ ⟨(Loc.slot g).bit, b⟩)
    rw [h3, forceN_eq, St.force_eq] at h
    refine ⟨_, _, dstOk_iff hd, rfl, ?_, Same.rfl', h⟩
    intro x hx
    cases x with
    | slot t => exact h5 t (fun e => hx (by simp [Wr.at', e]))
    | blk i => exact absurd rfl hx
theorem runOp_to {R : Type} {nb : Nat} {all : List Oper} {k : St O → Log → Option R} {r : R} (h : runOp cfg nb all o σ k = some r) :
    ∃ wr l σ', Step1 cfg nb all o σ wr l ∧ Same σ' (σ.app wr) ∧ k σ' l = some r := by
  unfold runOp at h
  split at h
  · rename_i hg
    obtain ⟨wr, l, σ', g1, g2, g3, g4, g5, g6⟩ := pickOp_to h
    exact ⟨wr, l, σ', ⟨⟨g1, .inl ⟨.inl hg, g2⟩⟩, fun τ ha => ⟨g1, .inl ⟨.inl hg, to_agree _ 0 (g3 ▸ ha) g2⟩⟩, g4⟩, g5, g6⟩
  · rename_i j want hg
    split at h
    · cases h
    · rename_i g hj
      have hgs : gslot all o g want := ⟨j, hg, hj⟩
      have bitg : ((Loc.slot g).bit).testBit (2 * g) = true := by rw [Loc.bit_test]; simp [Loc.ix]
      have skips : ∀ {σ1 : St O}, Same σ1 σ → ∀ v, look σ.sl g = some (.t (.one (.sc v))) → v ≠ .bool want → skipOp cfg o g σ1 k = some r →
          ∃ wr l σ', Step1 cfg nb all o σ wr l ∧ Same σ' (σ.app wr) ∧ k σ' l = some r := by
        intro σ1 hs v hv hne h
        obtain ⟨l, σ', g1, g2, g3, g4, g5⟩ := skipOp_to h
        refine ⟨_, l, σ', ⟨⟨g1, .inr ⟨⟨g, want, v, hgs, hv, hne⟩, rfl⟩⟩, fun τ ha => ⟨g1, .inr ⟨⟨g, want, v, hgs, ?_, hne⟩, rfl⟩⟩, g3⟩, g4.trans (hs.app _), g5⟩
        rw [← ha.slot (by rw [g2]; exact bitg)]
        exact hv
      split at h
      · rename_i x hv
        exact skips Same.rfl' _ hv (by simp) h
      · obtain ⟨b, hb, σ1, hs, h1⟩ := onSlot_some h
        cases hbw : beqB b want with
        | true =>
          rw [hbw] at h1
          simp only at h1
          have e : b = want := by cases b <;> cases want <;> simp [beqB] at hbw ⊢
          subst e
          obtain ⟨wr, l, σ', g1, g2, g3, g4, g5, g6⟩ := pickOp_to h1
          have g2' := to_agree (τ := σ) _ 0 (Agree.of_same hs) g2
          have g3' : l.rd = (opRM cfg nb o).rds σ (Loc.slot g).bit := by rw [g3, rds_agree _ _ hs]
          refine ⟨wr, l, σ', ⟨⟨g1, .inl ⟨.inr ⟨g, b, hgs, hb⟩, g2'⟩⟩, fun τ ha => ⟨g1, .inl ⟨.inr ⟨g, b, hgs, ?_⟩, to_agree _ _ (g3' ▸ ha) g2'⟩⟩, g4⟩, g5.trans (hs.app wr), g6⟩
          rw [← ha.slot (by rw [g3']; exact rds_mono σ _ _ bitg)]
          exact hb
        | false =>
          rw [hbw] at h1
          simp only at h1
          refine skips hs _ hb ?_ h1
          intro e
          cases e
          cases want <;> simp [beqB] at hbw

/-! ### all of a region's, in the order of the text -/
theorem runOps_to {R : Type} {all : List Oper} : ∀ (os : List Oper) (nb : Nat) (σ : St O) (lg : List Log) (k : St O → List Log → Option R) (r : R), runOps cfg all os nb σ lg k = some r →
    ∃ (W : Nat → Wr O) (l : Nat → Log) (σs : Nat → St O), σs 0 = σ ∧ (∀ i o, os[i]? = some o → Step1 cfg (nb + 8 * i) all o (σs i) (W i) (l i) ∧ Same (σs (i + 1)) ((σs i).app (W i))) ∧
      k (σs os.length) (((List.range os.length).map l).reverse ++ lg) = some r
  | [], nb, σ, lg, k, r, h => ⟨fun _ => {}, fun _ => ⟨0, 0⟩, fun _ => σ, rfl, by simp, h⟩
  | o :: os, nb, σ, lg, k, r, h => by
    obtain ⟨wr, l0, σ', h1, h2, h3⟩ := runOp_to h
    obtain ⟨W, l, σs, g1, g2, g3⟩ := runOps_to os (nb + 8) σ' (l0 :: lg) k r h3
    refine ⟨fun i => match i with | 0 => wr | i + 1 => W i, fun i => match i with | 0 => l0 | i + 1 => l i, fun i => match i with | 0 => σ | i + 1 => σs i, rfl, ?_, ?_⟩
    · intro i o' ho
      cases i with
      | zero =>
        simp only [List.getElem?_cons_zero, Option.some.injEq] at ho
        subst ho
        exact ⟨h1, by show Same (σs 0) _; rw [g1]; exact h2⟩
      | succ i =>
        simp only [List.getElem?_cons_succ] at ho
        have := g2 i o' ho
        rw [show nb + 8 * (i + 1) = nb + 8 + 8 * i by omega]
        exact this
    · simp only [List.length_cons, List.range_succ_eq_map, List.map_cons, List.map_map, List.reverse_cons, List.append_assoc, List.singleton_append]
      exact g3

/-- one of a region's, run -/
theorem does_wp (hT : TTok P cfg.tt) (hΓ : Γok P cfg.Γ) (hN : cfg.N = cx.N) {ops : Array Oper} {nb i : Nat} {Q : Exit → Act → World → Prop} {K : Act → World → Prop} (ho : ops[i]? = some o)
    (hd : Does cfg nb ops.toList o τ wr) (hR : Rel cx τ a w pl) (hK : ∀ a' w' pl', Rel cx (τ.app wr) a' w' pl' → K a' w') : wpOp P ops Q i K a w := by
  unfold wpOp
  rw [ho]
  simp only
  obtain ⟨hdst, h⟩ := hd
  rw [hN] at hdst
  have yld : ∀ {g want v}, gslot ops.toList o g want → look τ.sl g = some (.t (.one (.sc v))) → (Region.wanted o (yielded ops a.tmps) = true ↔ v = .bool want) := by
    rintro g want v ⟨j, hg, hj⟩ hv
    obtain ⟨h1, h2⟩ := hR.slots g _ hv
    have h2' : a.tmps.getD g undef = v := h2
    have hj' : (ops[j]?).bind (·.dst) = some g := by simpa using hj
    have h3 : a.tmps[g]? = some v := by
      rw [Array.getD_eq_getD_getElem?, Array.getElem?_eq_getElem h1] at h2'
      rw [Array.getElem?_eq_getElem h1]
      simpa using h2'
    have h4 : ∀ b, yielded ops a.tmps j = some b ↔ v = .bool b := by
      intro b
      unfold yielded
      rw [hj', Option.bind_some, h3]
      cases v <;> simp
    unfold Region.wanted
    rw [hg]
    simp only [beq_iff_eq]
    exact h4 want
  rcases h with ⟨hg, hto⟩ | ⟨⟨g, want, v, hgs, hv, hne⟩, rfl⟩
  · have hw : Region.wanted o (yielded ops a.tmps) = true := by
      rcases hg with hg | ⟨g, want, hgs, hv⟩
      · simp [Region.wanted, hg]
      · exact (yld hgs hv).2 rfl
    rw [if_pos hw]
    exact .inl (good_op hT hΓ hR hdst hto K Q hK)
  · have hw : ¬ Region.wanted o (yielded ops a.tmps) = true := fun h => hne ((yld hgs hv).1 h)
    rw [if_neg hw]
    exact hK _ _ _ (rel_put hR hdst (v := undef) rfl)
/-- a region that goes in the order of the text -/
theorem text_wp (hT : TTok P cfg.tt) (hΓ : Γok P cfg.Γ) (hN : cfg.N = cx.N) {ops : Array Oper} {nb : Nat} {Q : Exit → Act → World → Prop} {W : Nat → Wr O} {l : Nat → Log} {σs : Nat → St O}
    (hs : ∀ i o, ops.toList[i]? = some o → Step1 cfg (nb + 8 * i) ops.toList o (σs i) (W i) (l i) ∧ Same (σs (i + 1)) ((σs i).app (W i)))
    (hQ : ∀ a w pl, Rel cx (σs ops.size) a w pl → Q .normal a w) : ∀ (m j : Nat), j + m = ops.size → ∀ (a : Act) (w : World) (pl : Nat → Pl), Rel cx (σs j) a w pl →
      wpOps P ops Q (List.range' j m) a w
  | 0, j, hj, a, w, pl, hR => by
    have : j = ops.size := by omega
    subst this
    exact hQ a w pl hR
  | m + 1, j, hj, a, w, pl, hR => by
    rw [List.range'_succ, wpOps_cons]
    have hlt : j < ops.size := by omega
    have ho : ops[j]? = some ops[j] := Array.getElem?_eq_getElem hlt
    obtain ⟨h1, h2⟩ := hs j ops[j] (by simp)
    exact does_wp hT hΓ hN ho h1.does hR fun a' w' pl' hR' => text_wp hT hΓ hN hs hQ m (j + 1) (by omega) a' w' pl' (Rel_same h2 hR')
end
end Go.BB
