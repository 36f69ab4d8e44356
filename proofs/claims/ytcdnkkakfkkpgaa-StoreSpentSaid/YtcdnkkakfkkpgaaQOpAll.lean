/- A symbolic machine for the model's code, and what it shows of this seat's functions. No conditions. -/
import Derived.Test.YtcdnkkakfkkpgaaQOpM
set_option linter.unusedSimpArgs false
set_option linter.unusedVariables false
namespace Go.BB
open Go
section
variable {O : ObjK} {cx : Cx} {σ : St O} {a : Act} {w : World} {pl : Nat → Pl} {cfg : Cfg O} {P : Program} {o : Oper} {wr : Wr O}

theorem call_value_run {c : Call} {x : Operand} {g : Nat} (hc : c.callee = .value x) (hx : a.eval x = .func (.func g) #[] #[]) (ho : o.op = .call c) :
    (execOp a.eval o).run P w = (callFunc g (c.args.toList.map a.eval).toArray).run P w := by
  have e : (c.args.toList.map a.eval).toArray = #[] ++ c.args.map a.eval ++ #[] := by
    obtain ⟨cc, ⟨args⟩, ats⟩ := c
    simp
  rw [e]
  obtain ⟨dst, op, type, pos, after, guard⟩ := o
  simp only at ho
  subst ho
  obtain ⟨cc, args, ats⟩ := c
  simp only at hc
  subst hc
  show (execOp a.eval { dst, op := .call { callee := .value x, args, argTypes := ats }, type, pos, after, guard }).run P w = _
  have : execOp a.eval { dst, op := .call { callee := .value x, args, argTypes := ats }, type, pos, after, guard } =
    (do let d ← Deferred.ofValue (a.eval x) (args.map a.eval); invoke d.target d.args) := rfl
  rw [this, hx]
  rfl
theorem good_call (hT : TTok P cfg.tt) (hΓ : Γok P cfg.Γ) (hR : Rel cx σ a w pl) (hd : ∀ d, o.dst = some d → d < cx.N) {nb : Nat} {c : Call}
    (ho : o.op = .call c) (h : (opCall cfg nb o.dst c).to σ wr) : Good P cx σ a w o wr := by
  unfold opCall at h
  split at h
  · rename_i g hc
    exact good_callF hΓ hR hd (call_value_run hc (by rfl) ho) h
  · rename_i t hc
    obtain ⟨v, h1, h2⟩ := evV_to h
    cases hf : fnOf v with
    | none => rw [hf] at h2; exact h2.elim
    | some g =>
      rw [hf] at h2
      exact good_callF hΓ hR hd (call_value_run hc ((opd_sc hR h1).trans (fnOf_some hf)) ho) h2
  · rename_i b hc
    obtain ⟨cc, args, ats⟩ := c
    simp only at hc
    subst hc
    obtain ⟨args⟩ := args
    obtain ⟨ats⟩ := ats
    simp only at h
    split at h
    · exact good_len hT hR hd ho h
    · exact good_max hR hd ho h
    · exact good_min hR hd ho h
    · rename_i x y t t'
      cases hb : Nat.beq t t' with
      | false => rw [hb] at h; exact h.elim
      | true =>
        rw [hb] at h
        have := Nat.eq_of_beq_eq_true hb
        subst this
        exact good_append hT hR hd ho h
    · rename_i x y t t'
      cases hb : Nat.beq t t' with
      | false => rw [hb] at h; exact h.elim
      | true =>
        rw [hb] at h
        have := Nat.eq_of_beq_eq_true hb
        subst this
        exact good_copy hT hR hd ho h
    · exact good_delete hT hR hd ho h
    · exact h.elim
  · exact h.elim
theorem good_op (hT : TTok P cfg.tt) (hΓ : Γok P cfg.Γ) (hR : Rel cx σ a w pl) (hd : ∀ d, o.dst = some d → d < cx.N) {nb : Nat}
    (h : (opRM cfg nb o).to σ wr) : Good P cx σ a w o wr := by
  unfold opRM at h
  split at h
  case h_1 ho => exact good_move hR hd (.inl ho) h
  case h_2 ho => exact good_move hR hd (.inr ho) h
  case h_3 ho => exact good_pick hR hd ho h
  case h_4 ho => exact good_bin hT hR hd ho h
  case h_5 ho => exact good_un hR hd ho h
  case h_6 ho => exact good_conv hT hR hd ho h
  case h_7 ho => exact good_box hR hd ho h
  case h_8 ho => exact good_alloc hT hR hd ho h
  case h_9 ho => exact good_load hT hR hd ho h
  case h_10 ho => exact good_store hT hR hd ho h
  case h_11 ho => exact good_fieldAddr hT hR hd ho h
  case h_12 ho => exact good_field hT hR hd ho h
  case h_13 ho => exact good_indexAddr hT hR hd ho h
  case h_14 ho => exact good_extract hR hd ho h
  case h_15 ho => exact good_makeSlice hT hR hd ho h
  case h_16 ho => exact good_buildSlice hT hR hd ho h
  case h_17 ho => exact good_build hT hR hd ho h
  case h_18 ho => exact good_slice hT hR hd ho h
  case h_19 ho => exact good_nil hR hd ho h
  case h_20 ho => exact good_call hT hΓ hR hd ho h
  case h_21 ho => exact good_makeMap hT hR hd ho h
  case h_22 ho => exact good_lookup hT hR hd ho h
  case h_23 ho => exact good_mapEntry hT hR hd ho h
  case h_24 ho => exact good_entryStore hR hd ho h
  case h_25 ho => exact good_mapUpdate hT hR hd ho h
  all_goals exact h.elim
end
end Go.BB
