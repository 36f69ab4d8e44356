/- A symbolic machine for the model's code, and what it shows of this seat's functions. No conditions. -/
import Derived.Test.YtnofmeckcimodaaEReg2
set_option linter.unusedSimpArgs false
set_option linter.unusedVariables false
namespace Go.BB
open Go
section
variable {O : ObjK} {cx : Cx} {σ τ : St O} {a : Act} {w : World} {pl : Nat → Pl} {cfg : Cfg O} {P : Program} {o : Oper} {wr : Wr O} {ops : Array Oper}

theorem Rel_drew (hR : Rel cx σ a w pl) : Rel cx σ a { w with drawn := w.drawn + 1 } pl := by
  have hM := mem_gen hR.mem (w' := { w with drawn := w.drawn + 1 }) (bk' := σ.bk) (pl' := pl) (fun _ => False) ⟨rfl, rfl, rfl, Nat.le_refl _, fun _ _ _ => rfl⟩ (fun _ _ _ => rfl) (Keeps.refl _ _)
    (fun i B h _ => ⟨h, rfl⟩) (fun _ h => h.elim) (fun _ _ h => h.elim) (fun _ _ _ _ h => h.elim) (fun _ _ _ _ h => h.elim) (fun _ h => h.elim)
  refine ⟨hM.1, fun t s hs => ?_, hR.defers, hR.size⟩
  obtain ⟨h1, h2⟩ := hR.slots t s hs
  exact ⟨h1, SR_mono hM.2.1 hM.2.2 (Keeps.refl _ _) _ _ h2⟩

theorem backs1_spec {n : Nat} : ∀ (es : List Edge), backs1 n es = true → ∀ e ∈ es, bindsAny e.ground = true → e.on < n
  | [], _, e, he, _ => by cases he
  | e' :: es, h, e, he, hb => by
    unfold backs1 at h
    cases h1 : bindsAny e'.ground with
    | true =>
      rw [h1] at h
      simp only at h
      cases h2 : Nat.blt e'.on n with
      | false => rw [h2] at h; cases h
      | true =>
        rw [h2] at h
        rcases List.mem_cons.1 he with rfl | he
        · exact Nat.le_of_ble_eq_true h2
        · exact backs1_spec es h e he hb
    | false =>
      rw [h1] at h
      rcases List.mem_cons.1 he with rfl | he
      · rw [h1] at hb; cases hb
      · exact backs1_spec es h e he hb
theorem backs_spec : ∀ (os : List Oper) (n : Nat), backs os n = true → ∀ i o, os[i]? = some o → ∀ e ∈ o.after, bindsAny e.ground = true → e.on < n + i
  | [], n, _, i, o, ho, e, he, _ => by simp at ho
  | o' :: os, n, h, i, o, ho, e, he, hb => by
    unfold backs at h
    cases h1 : backs1 n o'.after.toList with
    | false => rw [h1] at h; cases h
    | true =>
      rw [h1] at h
      cases i with
      | zero =>
        simp only [List.getElem?_cons_zero, Option.some.injEq] at ho
        subst ho
        exact backs1_spec _ h1 e (by simpa using he) hb
      | succ i =>
        have := backs_spec os (n + 1) h i o (by simpa using ho) e he hb
        omega
/-- the bits tell what stands ahead -/
def Bits (ops : Array Oper) (acc : List Nat) : Prop := ∀ i c, acc.reverse[i]? = some c → ∀ j, c.testBit j = true → Ahead ops i j
theorem edgeBits_spec {A : Type} {acc : List Nat} (hacc : Bits ops acc) : ∀ (es : List Edge) (b : Nat) (k : Nat → A), ∃ b', edgeBits acc acc.length es b k = k b' ∧
    ∀ j, b'.testBit j = true → b.testBit j = true ∨ ∃ e ∈ es, bindsAny e.ground = true ∧ e.on < acc.length ∧ (j = e.on ∨ Ahead ops e.on j)
  | [], b, k => ⟨b, rfl, fun j h => .inl h⟩
  | e :: es, b, k => by
    unfold edgeBits
    have more : ∀ b0, (∃ b', edgeBits acc acc.length es b0 k = k b' ∧ ∀ j, b'.testBit j = true → b0.testBit j = true ∨ ∃ e ∈ es, bindsAny e.ground = true ∧ e.on < acc.length ∧ (j = e.on ∨ Ahead ops e.on j)) := fun b0 => edgeBits_spec hacc es b0 k
    have skip : ∃ b', edgeBits acc acc.length es b k = k b' ∧ ∀ j, b'.testBit j = true → b.testBit j = true ∨ ∃ e' ∈ e :: es, bindsAny e'.ground = true ∧ e'.on < acc.length ∧ (j = e'.on ∨ Ahead ops e'.on j) := by
      obtain ⟨b', h1, h2⟩ := more b
      refine ⟨b', h1, fun j hj => ?_⟩
      rcases h2 j hj with h | ⟨e', he, h⟩
      · exact .inl h
      · exact .inr ⟨e', List.mem_cons_of_mem _ he, h⟩
    cases hb : bindsAny e.ground with
    | false => exact skip
    | true =>
      simp only
      cases hlt : Nat.blt e.on acc.length with
      | false => exact skip
      | true =>
        have hlt' : e.on < acc.length := Nat.le_of_ble_eq_true hlt
        simp only
        have hget : acc[Nat.sub (Nat.sub acc.length 1) e.on]? = acc.reverse[e.on]? := by
          rw [List.getElem?_reverse hlt']; rfl
        rw [hget]
        cases hc : acc.reverse[e.on]? with
        | none => exact skip
        | some c =>
          obtain ⟨b', h1, h2⟩ := more (Nat.lor b (Nat.lor (Nat.pow 2 e.on) c))
          refine ⟨b', h1, fun j hj => ?_⟩
          rcases h2 j hj with h | ⟨e', he, h⟩
          · rw [testBit_lor, testBit_lor] at h
            simp only [Bool.or_eq_true] at h
            rcases h with h | h | h
            · exact .inl h
            · have : (2 ^ e.on).testBit j = true := h
              rw [Nat.testBit_two_pow] at this
              exact .inr ⟨e, List.mem_cons_self, hb, hlt', .inl (of_decide_eq_true this).symm⟩
            · exact .inr ⟨e, List.mem_cons_self, hb, hlt', .inr (hacc _ _ hc j h)⟩
          · exact .inr ⟨e', List.mem_cons_of_mem _ he, h⟩
theorem befores_spec {A : Type} : ∀ (os : List Oper) (acc : List Nat) (k : List Nat → A), (∀ i o, os[i]? = some o → ops[acc.length + i]? = some o) → Bits ops acc →
    ∃ bs, befores os acc.length acc k = k bs ∧ bs.length = acc.length + os.length ∧ Bits ops bs
  | [], acc, k, _, h => ⟨acc, rfl, rfl, h⟩
  | o :: os, acc, k, hops, h => by
    unfold befores
    obtain ⟨b, h1, h2⟩ := edgeBits_spec h o.after.toList 0 (fun b => forceN b fun b => befores os (Nat.add acc.length 1) (b :: acc) k)
    rw [h1, forceN_eq]
    have hb : Bits ops (b :: acc) := by
      intro i c hc j hj
      rw [List.reverse_cons, List.getElem?_append] at hc
      split at hc
      · exact h i c hc j hj
      · rename_i hi
        have hi' : i = acc.length := by
          have := (List.getElem?_eq_some_iff.1 hc).1
          simp at this hi
          omega
        subst hi'
        simp only [List.length_reverse, Nat.sub_self, List.getElem?_cons_zero, Option.some.injEq] at hc
        subst hc
        have ho := hops 0 o rfl
        rw [Nat.add_zero] at ho
        rcases h2 j hj with h3 | ⟨e, he, hbd, hlt, h3⟩
        · simp at h3
        · rcases h3 with h3 | h3
          · exact .edge ho (by simpa using he) hbd h3.symm
          · exact .more ho (by simpa using he) hbd rfl h3
    obtain ⟨bs, g1, g2, g3⟩ := befores_spec os (b :: acc) k (fun i o' ho => by
      have := hops (i + 1) o' (by simpa using ho)
      rw [show (b :: acc).length + i = acc.length + (i + 1) by simp; omega]
      exact this) hb
    refine ⟨bs, g1, by rw [g2]; simp; omega, g3⟩
theorem chkOne_spec {bef : Nat} {y : Log} : ∀ (xs : List Log), chkOne bef y xs = true → ∀ j x, xs.reverse[j]? = some x → bef.testBit j = true ∨ apart x y = true
  | [], _, j, x, hx => by simp at hx
  | x' :: xs, h, j, x, hx => by
    unfold chkOne at h
    rw [List.reverse_cons, List.getElem?_append] at hx
    cases hb : Nat.beq (Nat.land (Nat.shiftRight bef (clen xs)) 1) 1 with
    | true =>
      rw [hb] at h
      split at hx
      · exact chkOne_spec xs h j x hx
      · rename_i hi
        left
        have hj : j = xs.length := by
          have := (List.getElem?_eq_some_iff.1 hx).1
          simp at this hi
          omega
        subst hj
        rw [clen_eq] at hb
        have h1 : (bef >>> xs.length) &&& 1 = 1 := Nat.eq_of_beq_eq_true hb
        simp only [Nat.testBit]
        rw [Nat.and_comm, h1]
        rfl
    | false =>
      rw [hb] at h
      simp only at h
      cases ha : BB.apart x' y with
      | false => rw [ha] at h; cases h
      | true =>
        rw [ha] at h
        split at hx
        · exact chkOne_spec xs h j x hx
        · rename_i hi
          right
          have hj : j = xs.length := by
            have := (List.getElem?_eq_some_iff.1 hx).1
            simp at this hi
            omega
          subst hj
          simp only [List.length_reverse, Nat.sub_self, List.getElem?_cons_zero, Option.some.injEq] at hx
          subst hx
          exact ha
theorem chkAll_spec : ∀ (bs : List Nat) (ls : List Log), chkAll bs ls = true → bs.length = ls.length ∧ ∀ (i j : Nat) (b : Nat) (x y : Log), j < i → bs.reverse[i]? = some b → ls.reverse[i]? = some y → ls.reverse[j]? = some x → b.testBit j = true ∨ apart x y = true
  | [], [], _ => ⟨rfl, by simp⟩
  | [], _ :: _, h => by cases h
  | _ :: _, [], h => by cases h
  | b :: bs, y :: ys, h => by
    unfold chkAll at h
    cases h1 : chkOne b y ys with
    | false => rw [h1] at h; cases h
    | true =>
      rw [h1] at h
      obtain ⟨h2, h3⟩ := chkAll_spec bs ys h
      refine ⟨by simp [h2], fun i j b' x y' hji hb hy hx => ?_⟩
      rw [List.reverse_cons, List.getElem?_append] at hb hy hx
      simp only [List.length_reverse] at hb hy hx
      by_cases hi : i < ys.length
      · rw [if_pos (by omega)] at hb
        rw [if_pos hi] at hy
        rw [if_pos (by omega)] at hx
        exact h3 i j b' x y' hji hb hy hx
      · rw [if_neg (by omega)] at hb
        rw [if_neg hi] at hy
        have hi' : i = ys.length := by
          have := (List.getElem?_eq_some_iff.1 hy).1
          simp at this
          omega
        subst hi'
        rw [h2] at hb
        simp only [Nat.sub_self, List.getElem?_cons_zero, Option.some.injEq] at hb hy
        subst hb
        subst hy
        rw [if_pos hji] at hx
        exact chkOne_spec ys h1 j x hx

theorem region_wp (hm : P.follows .mixedOrders = true) (hT : TTok P cfg.tt) (hΓ : Γok P cfg.Γ) (hN : cfg.N = cx.N) {R : Type} {K id nx : Nat} {draw : Bool} {an : An O} {r : R}
    {kn : Nat → St O → Option R} {ke : Nat → Nat → St O → Option R} {kr : St O → Option R} {Q : Exit → Act → World → Prop}
    (hR : Rel cx σ a w pl) (h : run cfg K (.region id ops draw) an nx σ kn ke kr = some r)
    (hQ : ∀ nx' σ', kn nx' σ' = some r → ∀ a w pl, Rel cx σ' a w pl → Q .normal a w) : (Code.region id ops draw).wp P Q a w := by
  unfold run at h
  obtain ⟨W, l, σs, h1, h2, h3⟩ := runOps_to ops.toList nx σ [] _ r h
  have hlen : ops.toList.length = ops.size := by simp
  rw [hlen] at h3
  have hR0 : Rel cx (σs 0) a w pl := by rw [h1]; exact hR
  cases draw with
  | false =>
    simp only at h3
    refine wp_region ?_
    rw [List.range_eq_range']
    exact text_wp hT hΓ hN h2 (fun a w pl hR' => hQ _ _ h3 a w pl hR') ops.size 0 (by omega) a w pl hR0
  | true =>
    simp only at h3
    cases hbk : backs ops.toList 0 with
    | false => rw [hbk] at h3; cases h3
    | true =>
    rw [hbk] at h3
    simp only at h3
    have hback : ∀ (i : Nat) (o : Oper), ops[i]? = some o → ∀ e ∈ o.after, bindsAny e.ground = true → e.on < i := fun i o ho e he hb => by
      have := backs_spec _ _ hbk i o (by simpa using ho) e he hb
      omega
    obtain ⟨bs, g1, g2, g3⟩ := befores_spec (ops := ops) ops.toList [] (fun bs => match chkAll bs (((List.range ops.size).map l).reverse ++ []) with | true => kn (Nat.add nx 1024) (σs ops.size) | false => none) (fun i o ho => by simpa using ho) (fun i c hc => by simp at hc)
    have h4 : (match chkAll bs (((List.range ops.size).map l).reverse ++ []) with | true => kn (Nat.add nx 1024) (σs ops.size) | false => none) = some r := g1.symm.trans h3
    rw [List.append_nil] at h4
    cases hc : chkAll bs ((List.range ops.size).map l).reverse with
    | false => rw [hc] at h4; cases h4
    | true =>
    rw [hc] at h4
    simp only at h4
    obtain ⟨_, hck⟩ := chkAll_spec _ _ hc
    have ahead_lt : ∀ i j, Ahead ops i j → j < i := by
      intro i j hij
      induction hij with
      | edge ho he hb hon => rw [← hon]; exact hback _ _ ho _ he hb
      | more ho he hb hon hk ih => have := hback _ _ ho _ he hb; omega
    have hplan : Plan ops.size (Ahead ops) l := by
      refine ⟨ahead_lt, fun i j hji hi => ?_⟩
      have hbl : i < bs.reverse.length := by rw [List.length_reverse, g2]; simpa using hi
      have e1 : bs.reverse[i]? = some (bs.reverse[i]) := List.getElem?_eq_getElem hbl
      rcases hck i j _ (l j) (l i) hji e1 (by rw [List.reverse_reverse, List.getElem?_map, List.getElem?_range hi]; rfl) (by rw [List.reverse_reverse, List.getElem?_map, List.getElem?_range (by omega)]; rfl) with h5 | h5
      · exact .inl (g3 i _ e1 j h5)
      · exact .inr h5
    refine wp_region_any hm ?_
    refine any_wp hT hΓ hN h2 hback hplan (fun a w pl hR' => hQ _ _ h4 a w pl hR') ops.size _ (by simp) ?_ (σs 0) a _ pl ?_ (Rel_drew hR0) (by omega)
    · intro i j hi hl
      rw [Array.getD_eq_getD_getElem?, Array.getElem?_replicate] at hl
      simp [hi] at hl
    · intro x
      have : ∀ n, mix (fun k => (Array.replicate ops.size false).getD k false) W (σs 0).at' n x = (σs 0).at' x := by
        intro n
        induction n with
        | zero => rfl
        | succ n ih =>
          have e : (Array.replicate ops.size false).getD n false = false := by
            rw [Array.getD_eq_getD_getElem?, Array.getElem?_replicate]
            split <;> rfl
          simp only [mix, e]
          exact ih
      exact (this _).symm
end
end Go.BB
