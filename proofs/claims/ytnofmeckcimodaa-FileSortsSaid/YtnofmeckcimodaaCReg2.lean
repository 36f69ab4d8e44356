/- A symbolic machine for the model's code, and what it shows of this seat's functions. No conditions. -/
import Derived.Test.YtnofmeckcimodaaCReg
set_option linter.unusedSimpArgs false
set_option linter.unusedVariables false
namespace Go.BB
open Go
section
variable {O : ObjK} {cx : Cx} {σ τ : St O} {a : Act} {w : World} {pl : Nat → Pl} {cfg : Cfg O} {P : Program} {o : Oper} {wr : Wr O}

/-! ### where the order is drawn -/
def mix (L : Nat → Bool) (W : Nat → Wr O) (f : Loc → Option (S ⊕ Blk O)) : Nat → Loc → Option (S ⊕ Blk O)
  | 0 => f
  | n + 1 => fun x => match L n with | true => ((W n).at' x).or (mix L W f n x) | false => mix L W f n x
theorem mix_congr {L L' : Nat → Bool} {W : Nat → Wr O} {f : Loc → Option (S ⊕ Blk O)} {x : Loc} : ∀ (n : Nat), (∀ k, k < n → (W k).at' x ≠ none → L k = L' k) → mix L W f n x = mix L' W f n x
  | 0, _ => rfl
  | n + 1, h => by
    have ih := mix_congr (f := f) n (fun k hk => h k (by omega))
    simp only [mix]
    cases hw : (W n).at' x with
    | none => cases L n <;> cases L' n <;> simp [ih]
    | some v => rw [h n (by omega) (by rw [hw]; simp), ih]
theorem mix_lt {W : Nat → Wr O} {f : Loc → Option (S ⊕ Blk O)} {x : Loc} (i : Nat) : ∀ n, i ≤ n → mix (fun k => decide (k < i)) W f n x = mix (fun _ => true) W f i x
  | 0, h => by
    have : i = 0 := by omega
    subst this; rfl
  | n + 1, h => by
    by_cases e : i = n + 1
    · subst e
      exact mix_congr (n + 1) fun k hk _ => by simp [hk]
    · have : ¬ n < i := by omega
      simp only [mix, this, decide_false]
      exact mix_lt i n (by omega)
/-- the states in the order of the text -/
theorem mix_text {W : Nat → Wr O} {σs : Nat → St O} {n : Nat} (h : ∀ i, i < n → Same (σs (i + 1)) ((σs i).app (W i))) : ∀ i, i ≤ n → ∀ x, mix (fun _ => true) W (σs 0).at' i x = (σs i).at' x
  | 0, _, x => rfl
  | i + 1, hi, x => by
    rw [h i (by omega) x, at_app, ← mix_text h i (by omega) x]
    rfl
/-- the order: which stand ahead of which -/
structure Plan (n : Nat) (pre : Nat → Nat → Prop) (l : Nat → Log) : Prop where
  lt : ∀ i j, pre i j → j < i
  apart : ∀ i j, j < i → i < n → pre i j ∨ apart (l j) (l i) = true
theorem apart_bits {x y : Log} (h : apart x y = true) (j : Nat) : ¬ (x.wr.testBit j = true ∧ (y.rd.testBit j = true ∨ y.wr.testBit j = true)) ∧ ¬ (x.rd.testBit j = true ∧ y.wr.testBit j = true) := by
  unfold BB.apart at h
  cases h1 : Nat.beq (Nat.land x.wr (Nat.lor y.rd y.wr)) 0 with
  | false => rw [h1] at h; cases h
  | true =>
    rw [h1] at h
    have h2 := Nat.eq_of_beq_eq_true h1
    have h3 : Nat.land x.rd y.wr = 0 := Nat.eq_of_beq_eq_true h
    constructor
    · rintro ⟨a, b⟩
      have : (Nat.land x.wr (Nat.lor y.rd y.wr)).testBit j = true := by
        show (x.wr &&& (y.rd ||| y.wr)).testBit j = true
        rw [Nat.testBit_and, Nat.testBit_or, a]
        rcases b with b | b <;> simp [b]
      rw [h2] at this; simp at this
    · rintro ⟨a, b⟩
      have : (Nat.land x.rd y.wr).testBit j = true := by
        show (x.rd &&& y.wr).testBit j = true
        rw [Nat.testBit_and, a, b]; rfl
      rw [h3] at this; simp at this
variable {W : Nat → Wr O} {l : Nat → Log} {σs : Nat → St O} {n : Nat} {pre : Nat → Nat → Prop} {L : Nat → Bool} {ops : Array Oper} {nb : Nat}
theorem plan_noread (hp : Plan n pre l) (hdone : ∀ i j, i < n → L i = true → pre i j → L j = true) {i : Nat} (hi : i < n) (hLi : L i = false) (hready : ∀ j, pre i j → L j = true)
    {x : Loc} (hx : (l i).rd.testBit x.ix = true ∨ (l i).wr.testBit x.ix = true) : ∀ k, k < n → k ≠ i → (l k).wr.testBit x.ix = true → L k = decide (k < i) := by
  intro k hk hki hw
  rcases Nat.lt_or_gt_of_ne hki with h | h
  · simp only [h, decide_true]
    rcases hp.apart i k h hi with h1 | h1
    · exact hready k h1
    · exact absurd ⟨hw, hx⟩ (apart_bits h1 x.ix).1
  · have h2 : ¬ k < i := by omega
    simp only [h2, decide_false]
    cases hL : L k with
    | false => rfl
    | true =>
      rcases hp.apart k i h hk with h1 | h1
      · rw [hdone k i hk hL h1] at hLi; cases hLi
      · rcases hx with hx | hx
        · exact absurd ⟨hx, hw⟩ (apart_bits h1 x.ix).2
        · exact absurd ⟨hx, .inr hw⟩ (apart_bits h1 x.ix).1
theorem any_step (hs : ∀ i o, ops.toList[i]? = some o → Step1 cfg (nb + 8 * i) ops.toList o (σs i) (W i) (l i) ∧ Same (σs (i + 1)) ((σs i).app (W i)))
    (hp : Plan ops.size pre l) (hdone : ∀ i j, i < ops.size → L i = true → pre i j → L j = true) (hτ : ∀ x, τ.at' x = mix L W (σs 0).at' ops.size x)
    {i : Nat} (hi : i < ops.size) (hLi : L i = false) (hready : ∀ j, pre i j → L j = true) :
    Does cfg (nb + 8 * i) ops.toList ops[i] τ (W i) ∧ ∀ x, (τ.app (W i)).at' x = mix (fun k => decide (k = i) || L k) W (σs 0).at' ops.size x := by
  have hst : ∀ k, k < ops.size → ∃ o, ops.toList[k]? = some o := fun k hk => ⟨ops[k], by simp [hk]⟩
  have hwr : ∀ k, k < ops.size → ∀ x, (W k).at' x ≠ none → (l k).wr.testBit x.ix = true := fun k hk x hx => by
    obtain ⟨o, ho⟩ := hst k hk
    exact (hs k o ho).1.writes x hx
  have htext := mix_text (W := W) (σs := σs) (n := ops.size) fun k hk => by
    obtain ⟨o, ho⟩ := hst k hk
    exact (hs k o ho).2
  have h1 := (hs i ops[i] (by simp [hi])).1
  constructor
  · refine h1.reads τ fun x hx => ?_
    rw [hτ x, ← htext i (by omega) x, ← mix_lt i ops.size (by omega)]
    refine (mix_congr _ fun k hk hw => ?_).symm
    by_cases e : k = i
    · subst e; rw [hLi]; simp
    · exact plan_noread hp hdone hi hLi hready (.inl hx) k hk e (hwr k hk x hw)
  · intro x
    rw [at_app]
    cases hw : (W i).at' x with
    | none =>
      rw [Option.none_or, hτ x]
      refine mix_congr _ fun k hk hwk => ?_
      have : k ≠ i := fun e => by subst e; rw [hw] at hwk; exact hwk rfl
      simp [this]
    | some v =>
      rw [Option.some_or]
      have hx := hwr i hi x (by rw [hw]; simp)
      have e : mix (fun k => decide (k = i) || L k) W (σs 0).at' ops.size x = mix (fun k => decide (k < i + 1)) W (σs 0).at' ops.size x := by
        refine mix_congr _ fun k hk hwk => ?_
        by_cases e : k = i
        · subst e; simp
        · have := plan_noread hp hdone hi hLi hready (.inr hx) k hk e (hwr k hk x hwk)
          simp only [e, decide_false, Bool.false_or, this]
          congr 1
          simp only [eq_iff_iff]
          omega
      rw [e, mix_lt (i + 1) ops.size (by omega)]
      simp only [mix, hw, Option.some_or]

/-- what stands ahead, by the edges -/
inductive Ahead (ops : Array Oper) : Nat → Nat → Prop
  | edge {i j : Nat} {o : Oper} {e : Edge} : ops[i]? = some o → e ∈ o.after → bindsAny e.ground = true → e.on = j → Ahead ops i j
  | more {i j k : Nat} {o : Oper} {e : Edge} : ops[i]? = some o → e ∈ o.after → bindsAny e.ground = true → e.on = k → Ahead ops k j → Ahead ops i j
theorem bindsAny_eq (e : Edge) : bindsAny e.ground = Region.binds .any e := by
  unfold bindsAny Region.binds
  cases e.ground <;> rfl
theorem any_wp (hT : TTok P cfg.tt) (hΓ : Γok P cfg.Γ) (hN : cfg.N = cx.N) {Q : Exit → Act → World → Prop}
    (hs : ∀ i o, ops.toList[i]? = some o → Step1 cfg (nb + 8 * i) ops.toList o (σs i) (W i) (l i) ∧ Same (σs (i + 1)) ((σs i).app (W i)))
    (hback : ∀ (i : Nat) (o : Oper), ops[i]? = some o → ∀ e ∈ o.after, bindsAny e.ground = true → e.on < i)
    (hp : Plan ops.size (Ahead ops) l)
    (hQ : ∀ a w pl, Rel cx (σs ops.size) a w pl → Q .normal a w) :
    ∀ (fuel : Nat) (listed : Array Bool), listed.size = ops.size → (∀ i j, i < ops.size → listed.getD i false = true → Ahead ops i j → listed.getD j false = true) →
      ∀ (τ : St O) (a : Act) (w : World) (pl : Nat → Pl), (∀ x, τ.at' x = mix (fun k => listed.getD k false) W (σs 0).at' ops.size x) → Rel cx τ a w pl → (ops.size - (listed.toList.countP id) ≤ fuel) →
      wpAny P .any ops Q fuel listed a w := by
  have hend : ∀ (listed : Array Bool), listed.size = ops.size → (∀ k, k < ops.size → listed.getD k false = true) → ∀ (τ : St O) (a : Act) (w : World) (pl : Nat → Pl),
      (∀ x, τ.at' x = mix (fun k => listed.getD k false) W (σs 0).at' ops.size x) → Rel cx τ a w pl → Q .normal a w := by
    intro listed hsz hall τ a w pl hτ hR
    refine hQ a w pl (Rel_same (fun x => ?_) hR)
    rw [hτ x, ← mix_text (W := W) (σs := σs) (n := ops.size) (fun k hk => (hs k ops[k] (by simp [hk])).2) ops.size (Nat.le_refl _) x]
    exact (mix_congr _ fun k hk _ => hall k hk).symm
  have hnone : ∀ (listed : Array Bool), listed.size = ops.size → Region.ready .any ops listed = [] → ∀ k, k < ops.size → listed.getD k false = true := by
    intro listed hsz hr k
    induction k using Nat.strongRecOn with
    | _ k ih =>
      intro hk
      cases hl : listed.getD k false with
      | true => rfl
      | false =>
        have hmem : k ∈ Region.ready .any ops listed := by
          unfold Region.ready
          refine List.mem_filter.2 ⟨List.mem_range.2 hk, ?_⟩
          have h1 : listed.getD k true = false := by
            rw [Array.getD_eq_getD_getElem?, Array.getElem?_eq_getElem (by omega)] at hl ⊢
            simpa using hl
          rw [h1, Array.getElem?_eq_getElem hk]
          simp only [Bool.not_false, Option.map_some, Option.getD_some, Bool.true_and, Array.all_eq_true_iff_forall_mem]
          intro e he
          cases hb : Region.binds .any e with
          | false => rfl
          | true =>
            have := hback k ops[k] (Array.getElem?_eq_getElem hk) e he (by rw [bindsAny_eq]; exact hb)
            simp only [Bool.not_true, Bool.false_or]
            exact ih e.on this (by omega)
        rw [hr] at hmem; cases hmem
  intro fuel
  induction fuel with
  | zero =>
    intro listed hsz hdone τ a w pl hτ hR hf
    have hall : ∀ k, k < ops.size → listed.getD k false = true := by
      intro k hk
      have h1 : listed.toList.countP id = listed.toList.length := by
        have h3 : listed.toList.countP id ≤ listed.toList.length := List.countP_le_length
        have h4 : listed.toList.length = listed.size := by simp
        omega
      have h2 := List.countP_eq_length.1 h1 (listed[k]'(by omega)) (by simp)
      rw [Array.getD_eq_getD_getElem?, Array.getElem?_eq_getElem (by omega)]
      simpa using h2
    refine ⟨?_, hend listed hsz hall τ a w pl hτ hR⟩
    unfold Region.ready
    refine List.filter_eq_nil_iff.2 fun k hk => ?_
    have hk' := List.mem_range.1 hk
    have h1 : listed.getD k true = true := by
      have := hall k hk'
      rw [Array.getD_eq_getD_getElem?, Array.getElem?_eq_getElem (by omega)] at this ⊢
      simpa using this
    rw [h1]
    simp
  | succ fuel ih =>
    intro listed hsz hdone τ a w pl hτ hR hf
    refine ⟨fun hr => hend listed hsz (hnone listed hsz hr) τ a w pl hτ hR, fun i hi => ?_⟩
    unfold Region.ready at hi
    obtain ⟨hi1, hi2⟩ := List.mem_filter.1 hi
    have hi' := List.mem_range.1 hi1
    rw [Array.getElem?_eq_getElem hi'] at hi2
    simp only [Option.map_some, Option.getD_some, Bool.and_eq_true, Bool.not_eq_true', Array.all_eq_true_iff_forall_mem, Bool.or_eq_true] at hi2
    obtain ⟨h1, h2⟩ := hi2
    have hLi : listed.getD i false = false := by
      rw [Array.getD_eq_getD_getElem?, Array.getElem?_eq_getElem (by omega)] at h1 ⊢
      simpa using h1
    have hready : ∀ j, Ahead ops i j → listed.getD j false = true := by
      intro j hj
      have hd : ∀ e ∈ ops[i].after, bindsAny e.ground = true → listed.getD e.on false = true := by
        intro e he hb
        rw [bindsAny_eq] at hb
        rcases h2 e he with h | h
        · rw [hb] at h; cases h
        · exact h
      cases hj with
      | edge ho he hb hon =>
        rw [Array.getElem?_eq_getElem hi'] at ho
        cases ho
        rw [← hon]; exact hd _ he hb
      | more ho he hb hon hk =>
        rw [Array.getElem?_eq_getElem hi'] at ho
        cases ho
        have hlt := hback i ops[i] (Array.getElem?_eq_getElem hi') _ he hb
        have h3 := hd _ he hb
        rw [hon] at h3 hlt
        exact hdone _ j (by omega) h3 hk
    obtain ⟨h3, h4⟩ := any_step (L := fun k => listed.getD k false) hs hp (fun i j h h' => hdone i j h h') hτ hi' hLi hready
    have hget : ∀ k, (listed.setIfInBounds i true).getD k false = (decide (k = i) || listed.getD k false) := by
      intro k
      rw [Array.getD_eq_getD_getElem?, Array.getD_eq_getD_getElem?, Array.getElem?_setIfInBounds]
      by_cases e : i = k
      · subst e
        have : i < listed.size := by omega
        simp [this]
      · simp [e, show ¬ k = i from fun h => e h.symm]
    refine does_wp hT hΓ hN (Array.getElem?_eq_getElem hi') h3 hR fun a' w' pl' hR' => ?_
    refine ih (listed.setIfInBounds i true) (by simpa using hsz) ?_ _ a' w' pl' (fun x => ?_) hR' ?_
    · intro k j hk hkl hkj
      rw [hget] at hkl ⊢
      simp only [Bool.or_eq_true, decide_eq_true_eq] at hkl ⊢
      rcases hkl with rfl | hkl
      · exact .inr (hready j hkj)
      · exact .inr (hdone k j hk hkl hkj)
    · rw [h4 x]
      exact mix_congr _ fun k _ _ => (hget k).symm
    · have hcount : (listed.setIfInBounds i true).toList.countP id = listed.toList.countP id + 1 := by
        rw [Array.toList_setIfInBounds]
        have hlt : i < listed.toList.length := by simpa [hsz] using hi'
        have hx : listed.toList[i] = false := by
          rw [Array.getD_eq_getD_getElem?, Array.getElem?_eq_getElem (by omega)] at hLi
          simpa using hLi
        rw [List.countP_set hlt, hx]
        simp
      rw [hcount]
      omega
end
end Go.BB
