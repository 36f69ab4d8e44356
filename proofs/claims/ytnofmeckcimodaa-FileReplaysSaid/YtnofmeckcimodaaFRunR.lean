/- A symbolic machine for the model's code, and what it shows of this seat's functions. No conditions. -/
import Derived.Test.YtnofmeckcimodaaFPack
import Derived.Scope
set_option linter.unusedSimpArgs false
set_option linter.unusedVariables false
namespace Go.BB
open Go
section
variable {O : ObjK} {cx : Cx} {σ τ : St O} {a : Act} {w : World} {pl : Nat → Pl} {cfg : Cfg O} {P : Program}

theorem next_run {itb mb clk c0 : Nat} {seen : Array Nat} {es : Array MapEntry} (hi : w.heap[itb]? = some (.mapIter (some mb) clk seen c0)) (hb : w.heap[mb]? = some (.map es clk)) (hst : Stamps es.toList clk) (hc : clk ≤ c0) (ty : TypeId) :
  ((∀ (k : Nat) (e : MapEntry), es.toList[k]? = some e → e.born ∈ seen.toList) ∧ (Instr.next (.pointer (some ⟨itb, 0, none⟩)) false ty).run P w = .ok (.tuple #[.bool false]) w) ∨
  ∃ (k : Nat) (e : MapEntry) (w1 : World), es.toList[k]? = some e ∧ e.born ∉ seen.toList ∧ (w1 = w ∨ w1 = w.drew) ∧
   (Instr.next (.pointer (some ⟨itb, 0, none⟩)) false ty).run P w = .ok (.tuple #[.bool true, e.key, e.val]) (setO w1 itb (.mapIter (some mb) clk (seen.push e.born) clk)) := by
 have hold : ∀ x ∈ es.toList, x.born < clk := hst.2
 simp only [Instr.next, getObj, Sem.run_bind, Sem.run, hi, hb, Result.andThen, next_test_false seen es clk c0 hold hc, Bool.false_eq_true, if_false]
 have hmem : ∀ x ∈ (Array.filter (fun e => !seen.contains e.born) es).toList, x ∈ es.toList ∧ x.born ∉ seen.toList := fun x hx => by
  simp at hx ⊢
  exact hx
 have hmem' : ∀ x ∈ es.toList, x.born ∉ seen.toList → x ∈ (Array.filter (fun e => !seen.contains e.born) es).toList := fun x hx hn => by
  simp at hx hn ⊢
  exact ⟨hx, hn⟩
 generalize Array.filter (fun e => !seen.contains e.born) es = L at hmem hmem' ⊢
 have e1 : L.filter (fun x => decide (x.born < clk)) = L := Array.filter_eq_self.2 (fun x hx => by simpa using hold x (hmem x (by simpa using hx)).1)
 have e2 : L.filter (fun x => decide (x.born ≥ clk)) = #[] := by
  rw [Array.filter_eq_empty_iff]
  intro x hx
  have := hold x (hmem x (by simpa using hx)).1
  simp
  omega
 simp only [e1, e2, Array.append_empty]
 by_cases h0 : L.size = 0
 ·left
  have : L = #[] := Array.eq_empty_of_size_eq_zero h0
  subst this
  refine ⟨fun k e hk => ?_, ?_⟩
  ·by_cases hn : e.born ∈ seen.toList
   ·exact hn
   ·exact absurd (hmem' e (List.mem_of_getElem? hk) hn) (by simp)
  ·simp [choose, Sem.run, Question.forced]
 ·right
  have hne : L.isEmpty = false := by simp [Array.isEmpty, h0]
  simp only [hne, Bool.false_eq_true, if_false, Array.empty_append, Array.size_map]
  have hch : ∃ (j : Nat) (w1 : World), j < L.size ∧ (w1 = w ∨ w1 = w.drew) ∧ (choose (Question.mapNext L.size)).run P w = .ok j w1 := by
   by_cases hf : L.size ≤ 1
   ·exact ⟨0, w, by omega, .inl rfl, by simp [choose, Sem.run, Question.forced, hf]⟩
   ·exact ⟨_, w.drew, Nat.mod_lt _ (by omega), .inr rfl, by
     simp only [choose, Sem.run, Question.forced, decide_eq_true_eq, hf, if_false, Question.cut]
     rfl⟩
  obtain ⟨j, w1, hj, hw1, hrun⟩ := hch
  obtain ⟨g1, g2⟩ := hmem L[j] (by simp)
  obtain ⟨k, hk⟩ := List.getElem?_of_mem g1
  have hh : w1.heap[itb]? = some (.mapIter (some mb) clk seen c0) := by rcases hw1 with rfl | rfl <;> exact hi
  refine ⟨k, L[j], w1, hk, g2, hw1, ?_⟩
  have hset : ∀ o', (setObj itb o').run P w1 = .ok () (setO w1 itb o') := fun o' => by
   simp only [setObj, Sem.run, hh]
   rfl
  simp only [hrun, Array.getElem?_map, Array.getElem?_eq_getElem hj, Option.map_some, Sem.run_bind, hset, Result.andThen]
  rfl
theorem entry_run {itb mb clk : Nat} {since : Nat} {seen : Array Nat} {es : Array MapEntry} {k : Nat} {e : MapEntry} (hi : w.heap[itb]? = some (.mapIter (some mb) since (seen.push e.born) clk)) (hb : w.heap[mb]? = some (.map es clk)) (hst : Stamps es.toList clk)
  (hk : es.toList[k]? = some e) : (Instr.entry (.pointer (some ⟨itb, 0, none⟩))).run P w = .ok (.tuple #[e.key, e.val]) w := by
 have hn : (es.toList.map (·.born)).Nodup := by
  have h1 : (es.toList.map (·.born)).Pairwise (· < ·) := by rw [List.pairwise_map]; exact hst.1
  exact h1.imp (fun h => Nat.ne_of_lt h)
 have hf : es.find? (·.born == e.born) = some e := by rw [← Array.find?_toList]; exact find_born e es.toList hn (List.mem_of_getElem? hk)
 simp only [Instr.entry, getObj, Sem.run_bind, Sem.run, hi, hb, Result.andThen, Array.back?_push, bne_self_eq_false, Bool.false_eq_true, if_false, hf]
 rfl

def privAt (cx : Cx) (b : Nat) (o : Obj) : Cx := { cx with priv := fun x => if x = b then some o else cx.priv x }
theorem privAt_same (cx : Cx) (b : Nat) (o : Obj) : (privAt cx b o).priv b = some o := by simp [privAt]
theorem privAt_other (cx : Cx) {b x : Nat} (o : Obj) (h : x ≠ b) : (privAt cx b o).priv x = cx.priv x := by simp [privAt, h]
theorem RO_privAt {b : Nat} {o o' : Obj} {bk : List (Nat × Blk O)} {x : Nat} (h : RO (privAt cx b o) w bk pl x) : RO (privAt cx b o') w bk pl x := by
 refine ⟨h.1, h.2.1, h.2.2.1, ?_⟩
 have := h.2.2.2
 by_cases e : x = b
 ·subst e; rw [privAt_same] at this; cases this
 ·rw [privAt_other _ _ e] at this ⊢; exact this
theorem rel_turn {b : Nat} {o o' : Obj} (hR : Rel (privAt cx b o) σ a w pl) {w1 : World} (hw1 : w1 = w ∨ w1 = w.drew) : Rel (privAt cx b o') σ a (setO w1 b o') pl := by
 have hb : w.heap[b]? = some o := hR.mem.priv b o (privAt_same _ _ _)
 have hh : w1.heap = w.heap := by rcases hw1 with rfl | rfl <;> rfl
 have hlt : b < w.heap.size := (Array.getElem?_eq_some_iff.1 hb).1
 have hother : ∀ x, x ≠ b → (setO w1 b o').heap[x]? = w.heap[x]? := fun x hx => by rw [setO_other o' hx, hh]
 have hsz : (setO w1 b o').heap.size = w.heap.size := by simp [setO, hh]
 have hne : ∀ x, RO (privAt cx b o) w σ.bk pl x → x ≠ b := fun x hx e => by
  have := hx.2.2.2
  rw [e, privAt_same] at this; cases this
 have hfp : ∀ i, liveAt σ.bk i → ∀ x, (pl i).fp x → x ≠ b := fun i hi x hx e => by
  have := hR.mem.apart i hi x hx
  rw [e, privAt_same] at this; cases this
 have hRO : ∀ x, RO (privAt cx b o) w σ.bk pl x → RO (privAt cx b o') (setO w1 b o') σ.bk pl x := fun x hx => by
  obtain ⟨h1, h2, h3, h4⟩ := RO_privAt (o' := o') hx
  exact ⟨h1, by rw [hsz]; exact h2, h3, h4⟩
 have hRw : ∀ x, RO (privAt cx b o) w σ.bk pl x → (setO w1 b o').heap[x]? = w.heap[x]? := fun x hx => hother x (hne x hx)
 have hk := Keeps.refl σ.bk pl
 refine ⟨⟨?_, hR.mem.disj, ?_, ?_, ?_, hR.mem.pin, ?_, ?_, hR.mem.hard, ?_⟩, fun t s hs => ?_, hR.defers, hR.size⟩
 ·intro i B hi
  by_cases hl : B.live
  ·exact BR_mono hRO hRw hk (by rw [hsz]; exact Nat.le_refl _) i B rfl (fun x hx => hother x (hfp i ⟨B, hi, hl⟩ x hx)) (hR.mem.blocks i B hi)
  ·cases B with
   | dead => trivial
   | fro t xs => exact BR_mono hRO hRw hk (by rw [hsz]; exact Nat.le_refl _) i _ rfl (fun x hx => hRw x (hR.mem.frozen i t xs hi x hx)) (hR.mem.blocks i _ hi)
   | row t xs => exact absurd trivial hl
   | box cs => exact absurd trivial hl
   | obj k x => exact absurd trivial hl
   | hol kt t es n j h => exact absurd trivial hl
   | rng k x h => exact absurd trivial hl
   | rngH kt t es n h => exact absurd trivial hl
   | itr m h => exact absurd trivial hl
   | hoD ta tb te tc xs m j => exact absurd trivial hl
 ·intro i hi x hx
  rw [hsz]; exact hR.mem.bound i hi x hx
 ·have he := hR.mem.ext
  refine ⟨?_, ?_, ?_, by rw [hsz]; exact he.size, fun x hx hxw => ?_⟩
  ·rcases hw1 with rfl | rfl <;> exact he.os
  ·rcases hw1 with rfl | rfl <;> exact he.tape
  ·rcases hw1 with rfl | rfl <;> exact he.output
  ·by_cases e : x = b
   ·subst e
    rcases hR.mem.privw x o (privAt_same _ _ _) with h | h
    ·exact absurd h hxw
    ·exact absurd hx (by show ¬ x < cx.w0.heap.size; have : cx.w0.heap.size ≤ x := h; omega)
   ·rw [hother x e]; exact he.keep x hx hxw
 ·intro i t xs hi x hx
  exact hRO x (hR.mem.frozen i t xs hi x hx)
 ·intro i hi x hx
  have := hR.mem.apart i hi x hx
  by_cases e : x = b
  ·exact absurd e (hfp i hi x hx)
  ·rw [privAt_other _ _ e] at this ⊢; exact this
 ·intro x o2 ho
  by_cases e : x = b
  ·subst e
   rw [privAt_same] at ho
   cases ho
   exact setO_same (by rw [hh]; exact hb)
  ·rw [privAt_other _ _ e] at ho
   rw [hother x e]
   exact hR.mem.priv x o2 (by rw [privAt_other _ _ e]; exact ho)
 ·intro x o2 ho
  by_cases e : x = b
  ·subst e; exact hR.mem.privw x o (privAt_same _ _ _)
  ·exact hR.mem.privw x o2 (by rw [privAt_other _ _ e] at ho ⊢; exact ho)
 ·obtain ⟨h1, h2⟩ := hR.slots t s hs
  exact ⟨h1, SR_mono hRO hRw hk _ _ h2⟩
theorem wp_loop_n {c : Code} {Q : Exit → Act → World → Prop} (J : Nat → Act → World → Prop)
  (round : ∀ n a w, J n a w → c.wp P (Exit.then (fun a' w' => ∃ m, m < n ∧ J m a' w') Q) a w) (n : Nat) (a : Act) (w : World) (h0 : J n a w) : (Code.loop c).wp P Q a w := by
 intro b k cs
 have key : ∀ n a w, J n a w → ∃ e a' w', Q e a' w' ∧ Arrives P (lone (b.at a (.code c :: .inLoop c :: k)) cs w) b k cs e a' w' := by
  intro n
  induction n using Nat.strongRecOn with
  | _ n ih =>
   intro a w hJ
   obtain ⟨e, a1, w1, hq, harr⟩ := round n a w hJ b (.inLoop c :: k) cs
   have pass : ∀ {e}, e ≠ Exit.normal → Q e a1 w1 → Arrives P (lone (b.at a (.code c :: .inLoop c :: k)) cs w) b (.inLoop c :: k) cs e a1 w1 →
     ∃ e a' w', Q e a' w' ∧ Arrives P (lone (b.at a (.code c :: .inLoop c :: k)) cs w) b k cs e a' w' := fun hne hq harr =>
    ⟨_, a1, w1, hq, .pass (x := .inLoop c) rfl (fun _ _ => .inl hne) harr⟩
   cases e with
   | normal =>
    obtain ⟨m, hm, hJm⟩ := hq
    obtain ⟨e2, a2, w2, hq2, harr2⟩ := ih m hm a1 w1 hJm
    exact ⟨e2, a2, w2, hq2, .of_steps (Steps.trans harr (.one step_inLoop)) harr2⟩
   | exit id => exact pass (by simp) hq harr
   | goto l => exact pass (by simp) hq harr
   | ret => exact pass (by simp) hq harr
   | panic ch => exact pass (by simp) hq harr
   | outgrown => exact pass (by simp) hq harr
 obtain ⟨e, a', w', hq, harr⟩ := key n a w h0
 exact ⟨e, a', w', hq, .of_steps (.one step_loop) harr⟩

structure Next {R : Type} (cx : Cx) (kn : Nat → St O → Option R) (ke : Nat → Nat → St O → Option R) (kr : St O → Option R) (r : R) (Q : Exit → Act → World → Prop) : Prop where
 normal : ∀ nx σ, kn nx σ = some r → ∀ a w pl, Rel cx σ a w pl → Q .normal a w
 exit : ∀ i nx σ, ke i nx σ = some r → ∀ a w pl, Rel cx σ a w pl → Q (.exit i) a w
 ret : ∀ σ, kr σ = some r → ∀ a w pl, Rel cx σ a w pl → Q .ret a w

theorem getD_put_other {d t : Nat} {v : Value} (h : t ≠ d) : (a.put (some d) v).tmps.getD t undef = a.tmps.getD t undef := by
 simp only [Act.put, Array.getD_eq_getD_getElem?, Array.getElem?_setIfInBounds]
 rw [if_neg (fun e => h e.symm)]
theorem getD_put_same {d : Nat} {v : Value} (h : d < a.tmps.size) : (a.put (some d) v).tmps.getD d undef = v := by
 simp only [Act.put, Array.getD_eq_getD_getElem?, Array.getElem?_setIfInBounds]
 simp [h]
theorem rel_put_out (hR : Rel cx σ a w pl) {d : Nat} {v : Value} (hn : look σ.sl d = none) : Rel cx σ (a.put (some d) v) w pl := by
 refine ⟨hR.mem, fun t s hs => ?_, by rw [put_defers]; exact hR.defers, by rw [put_size]; exact hR.size⟩
 have hne : t ≠ d := fun e => by rw [e, hn] at hs; cases hs
 rw [put_size, getD_put_other hne]
 exact hR.slots t s hs
theorem rel_slot (hR : Rel cx σ a w pl) {t : Nat} {s : S} (ht : t < a.tmps.size) (hs : SR w (RO cx w σ.bk pl) σ.bk pl s (a.tmps.getD t undef)) : Rel cx ⟨(t, s) :: σ.sl, σ.bk⟩ a w pl := by
 refine ⟨hR.mem, fun t' s' h => ?_, hR.defers, hR.size⟩
 rw [look_cons] at h
 split at h
 ·rename_i e
  simp only at e
  subst e
  cases h
  exact ⟨ht, hs⟩
 ·exact hR.slots t' s' h
theorem rel_less {b : Nat} {o : Obj} (hb : cx.priv b = none) (hR : Rel (privAt cx b o) σ a w pl) : Rel cx σ a w pl := by
 have hp : ∀ x, (privAt cx b o).priv x = none → cx.priv x = none := fun x hx => by
  by_cases e : x = b
  ·subst e; exact hb
  ·rw [privAt_other _ _ e] at hx; exact hx
 have hRO : ∀ x, RO (privAt cx b o) w σ.bk pl x → RO cx w σ.bk pl x := fun x hx => ⟨hx.1, hx.2.1, hx.2.2.1, hp x hx.2.2.2⟩
 have hk := Keeps.refl σ.bk pl
 have hpo : ∀ x o', cx.priv x = some o' → (privAt cx b o).priv x = some o' := fun x o' h => by
  have e : x ≠ b := fun e => by rw [e, hb] at h; cases h
  rw [privAt_other _ _ e]; exact h
 refine ⟨⟨fun i B hi => BR_mono hRO (fun _ _ => rfl) hk (Nat.le_refl _) i B rfl (fun _ _ => rfl) (hR.mem.blocks i B hi), hR.mem.disj, hR.mem.bound, hR.mem.ext, fun i t xs hi x hx => hRO x (hR.mem.frozen i t xs hi x hx), hR.mem.pin,
  fun i hi x hx => hp x (hR.mem.apart i hi x hx), fun x o' h => hR.mem.priv x o' (hpo x o' h), hR.mem.hard, fun x o' h => hR.mem.privw x o' (hpo x o' h)⟩, fun t s hs => ?_, hR.defers, hR.size⟩
 obtain ⟨h1, h2⟩ := hR.slots t s hs
 exact ⟨h1, SR_mono hRO (fun _ _ => rfl) hk _ _ h2⟩
theorem rel_open (hR : Rel cx σ a w pl) {L : Nat} {B B' : Blk O} {v : Value} {f f' : Nat → Prop} {p61 p63 : Pl} (hL : look σ.bk L = some B) (hlive : B.live) (hlive' : B'.live) (hO : isObj B) (hrow : ∀ t n, ¬ isRow B' t n) (hbox : ¬ isBox B') (hfro : ∀ t xs, B' ≠ .fro t xs)
  (h61 : look σ.bk 61 = none) (h63 : look σ.bk 63 = none) (hp61 : cx.pins 61 = none) (hp63 : cx.pins 63 = none) (hp : pl L = .obj v f) (hf : ∀ x, f' x → f x)
  (hB : ∀ bk' pl', bk' = (L, B') :: (61, .dead) :: (63, .dead) :: σ.bk → pl' L = .obj v f' → pl' 63 = p63 → look bk' 63 = some .dead → (∀ b, RO cx w σ.bk pl b → RO cx w bk' pl' b) → (∀ b, f b → ¬ f' b → RO cx w bk' pl' b) → BR w (RO cx w bk' pl') bk' pl' L B') :
  ∃ pl', Rel cx ⟨σ.sl, (L, B') :: (61, .dead) :: (63, .dead) :: σ.bk⟩ a w pl' ∧ pl' L = .obj v f' ∧ pl' 61 = p61 ∧ pl' 63 = p63 ∧ (∀ b, f b → ¬ f' b → RO cx w ((L, B') :: (61, .dead) :: (63, .dead) :: σ.bk) pl' b) ∧ Keeps σ.bk ((L, B') :: (61, .dead) :: (63, .dead) :: σ.bk) pl pl' ∧ (∀ b, RO cx w σ.bk pl b → RO cx w ((L, B') :: (61, .dead) :: (63, .dead) :: σ.bk) pl' b) := by
 let pl' := plus (plus (plus pl L (.obj v f')) 61 p61) 63 p63
 let bk' : List (Nat × Blk O) := (L, B') :: (61, .dead) :: (63, .dead) :: σ.bk
 have n1 : L ≠ 61 := fun e => by rw [e, h61] at hL; cases hL
 have n2 : L ≠ 63 := fun e => by rw [e, h63] at hL; cases hL
 have p1 : pl' L = .obj v f' := by simp only [pl']; rw [plus_other _ _ n2, plus_other _ _ n1, plus_same]
 have p2 : pl' 61 = p61 := by simp only [pl']; rw [plus_other _ _ (by decide), plus_same]
 have p3 : pl' 63 = p63 := by simp only [pl']; rw [plus_same]
 have p4 : ∀ j, j ≠ L → j ≠ 61 → j ≠ 63 → pl' j = pl j := fun j g1 g2 g3 => by simp only [pl']; rw [plus_other _ _ g3, plus_other _ _ g2, plus_other _ _ g1]
 have l1 : look bk' L = some B' := by simp only [bk', look_cons, if_pos]
 have l2 : look bk' 61 = some .dead := by simp only [bk', look_cons]; rw [if_neg n1, if_pos trivial]
 have l3 : look bk' 63 = some .dead := by simp only [bk', look_cons]; rw [if_neg n2, if_neg (by decide), if_pos trivial]
 have l4 : ∀ j, j ≠ L → j ≠ 61 → j ≠ 63 → look bk' j = look σ.bk j := fun j g1 g2 g3 => by simp only [bk', look_cons]; rw [if_neg (fun e => g1 e.symm), if_neg (fun e => g2 e.symm), if_neg (fun e => g3 e.symm)]
 have hli : liveAt σ.bk L := ⟨_, hL, hlive⟩
 have hk : Keeps σ.bk bk' pl pl' := by
  intro j Bj hj
  by_cases g1 : j = L
  ·subst g1
   rw [hL] at hj
   cases hj
   exact ⟨by rw [hp, p1]; exact ⟨f', rfl⟩, _, l1, fun t n h => absurd h (hrow t n), fun h => absurd h hbox, fun _ => hO⟩
  ·have g2 : j ≠ 61 := fun e => by rw [e, h61] at hj; cases hj
   have g3 : j ≠ 63 := fun e => by rw [e, h63] at hj; cases hj
   exact ⟨by rw [p4 j g1 g2 g3]; exact Pl.same_refl _, Bj, by rw [l4 j g1 g2 g3]; exact hj, fun _ _ h => h, id, id⟩
 have hdrop : (∀ b, RO cx w σ.bk pl b → RO cx w bk' pl' b) → ∀ b, f b → ¬ f' b → RO cx w bk' pl' b := by
  intro _ b hb hb'
  have h0 : (pl L).fp b := by rw [hp]; exact hb
  obtain ⟨g1, g2⟩ := hR.mem.bound L hli b h0
  refine ⟨.inr g2, g1, fun i hi hbi => ?_, hR.mem.apart L hli b h0⟩
  obtain ⟨Bi, q1, q2⟩ := hi
  by_cases e1 : i = L
  ·subst e1; rw [p1] at hbi; exact hb' hbi
  ·by_cases e2 : i = 61
   ·subst e2; rw [l2] at q1; cases q1; exact q2
   ·by_cases e3 : i = 63
    ·subst e3; rw [l3] at q1; cases q1; exact q2
    ·rw [l4 i e1 e2 e3] at q1
     rw [p4 i e1 e2 e3] at hbi
     exact hR.mem.disj i L ⟨Bi, q1, q2⟩ hli e1 b hbi h0
 have hM := mem_gen' hR.mem (w' := w) (bk' := bk') (pl' := pl') (fun j => j = L ∨ j = 61 ∨ j = 63) (Ext.refl _ _) (fun _ _ _ => rfl) hk ?_ ?_ ?_ ?_ ?_ ?_
 ·refine ⟨pl', ⟨hM.1, fun t s hs => ?_, hR.defers, hR.size⟩, p1, p2, p3, hdrop hM.2.1, hk, hM.2.1⟩
  obtain ⟨g1, g2⟩ := hR.slots t s hs
  exact ⟨g1, SR_mono hM.2.1 hM.2.2 hk _ _ g2⟩
 ·intro j Bj hj hu
  simp only [not_or] at hu
  exact ⟨by rw [l4 j hu.1 hu.2.1 hu.2.2] at hj; exact hj, p4 j hu.1 hu.2.1 hu.2.2⟩
 ·intro j hu hl b hb
  rcases hu with rfl | rfl | rfl
  ·rw [p1] at hb
   have h0 : (pl j).fp b := by rw [hp]; exact hf b hb
   exact ⟨(hR.mem.bound j hli b h0).1, .inr ⟨j, .inl rfl, hli, h0⟩⟩
  ·obtain ⟨Bj, g1, g2⟩ := hl
   rw [l2] at g1; cases g1; exact g2.elim
  ·obtain ⟨Bj, g1, g2⟩ := hl
   rw [l3] at g1; cases g1; exact g2.elim
 ·intro j j' hu hu' hl hl' hne b hb hb'
  have nd : ∀ j, liveAt bk' j → (j = L ∨ j = 61 ∨ j = 63) → j = L := by
   rintro j ⟨Bj, g1, g2⟩ (h | rfl | rfl)
   ·exact h
   ·rw [l2] at g1; cases g1; exact g2.elim
   ·rw [l3] at g1; cases g1; exact g2.elim
  exact hne ((nd j hl hu).trans (nd j' hl' hu').symm)
 ·intro hRO hRw j Bj hu hj
  rcases hu with rfl | rfl | rfl
  ·rw [l1] at hj
   cases hj
   exact hB bk' pl' rfl p1 p3 l3 hRO (hdrop hRO)
  ·rw [l2] at hj; cases hj; trivial
  ·rw [l3] at hj; cases hj; trivial
 ·intro hRO j t xs hu hj
  rcases hu with rfl | rfl | rfl
  ·rw [l1] at hj; cases hj; exact absurd rfl (hfro t xs)
  ·rw [l2] at hj; cases hj
  ·rw [l3] at hj; cases hj
 ·intro j hu hj
  rcases hu with rfl | rfl | rfl
  ·rw [hL] at hj; cases hj
  ·exact .inr hp61
  ·exact .inr hp63
def openCx (cx : Cx) (L : Nat) (p61 p63 pL : Pl) : Cx :=
 { cx with
  pins := fun i => if i = 61 then some p61 else if i = 63 then some p63 else if i = L then some pL else cx.pins i
  hard := fun i => cx.hard i ∨ i = 61 ∨ i = 63 ∨ i = L
  pinlt := fun i p h => by
   split at h
   ·omega
   ·split at h
    ·omega
    ·split at h
     ·rename_i e; exact .inr (.inr (.inr (.inr e)))
     ·rcases cx.pinlt i p h with h | h
      ·exact .inl h
      ·exact .inr (.inl h) }
theorem rel_openCx (hR : Rel cx σ a w pl) (hh : ∀ i, ¬ cx.hard i) {L : Nat} (h61 : ∃ B, look σ.bk 61 = some B) (h63 : ∃ B, look σ.bk 63 = some B) (hL : ∃ B, look σ.bk L = some B) : Rel (openCx cx L (pl 61) (pl 63) (pl L)) σ a w pl := by
 refine ⟨⟨hR.mem.blocks, hR.mem.disj, hR.mem.bound, hR.mem.ext, hR.mem.frozen, fun i p B hp hi => ?_, hR.mem.apart, hR.mem.priv, fun i hi => ?_, hR.mem.privw⟩, hR.slots, hR.defers, hR.size⟩
 ·simp only [openCx] at hp
  split at hp
  ·rename_i e; subst e; cases hp; exact Pl.same_refl _
  ·split at hp
   ·rename_i e; subst e; cases hp; exact Pl.same_refl _
   ·split at hp
    ·rename_i e; subst e; cases hp; exact Pl.same_refl _
    ·exact hR.mem.pin i p B hp hi
 ·rcases hi with hi | rfl | rfl | rfl
  ·exact absurd hi (hh i)
  ·exact h61
  ·exact h63
  ·exact hL
theorem onward_open {L : Nat} {p61 p63 pL : Pl} (hh : ∀ i, ¬ cx.hard i) (hpin : ∀ i p, cx.pins i = some p → i < 61) (h64 : 64 ≤ L) : Onward (openCx cx L p61 p63 pL) cx := by
 refine ⟨rfl, rfl, rfl, rfl, fun i p hp => ?_, hh, fun _ h => h⟩
 have := hpin i p hp
 refine ⟨by omega, ?_⟩
 show (if i = 61 then some p61 else if i = 63 then some p63 else if i = L then some pL else cx.pins i) = _
 rw [if_neg (by omega), if_neg (by omega), if_neg (by omega)]
 exact hp
theorem wpOp_value {ops : Array Oper} {Q : Exit → Act → World → Prop} {K : Act → World → Prop} {i : Nat} {o : Oper} {v : Value} {w' : World} (ho : ops[i]? = some o) (hg : o.guard = none) (hrun : (execOp a.eval o).run P w = .ok (.value v) w') (hK : K (a.put o.dst v) w') :
  wpOp P ops Q i K a w := by
 unfold wpOp
 rw [ho]
 simp only
 rw [if_pos (by simp [Region.wanted, hg])]
 left
 unfold Oper.wp
 rw [hrun]
 exact hK
theorem text_from (hT : TTok P cfg.tt) (hΓ : Γok P cfg.Γ) (hN : cfg.N = cx.N) {ops : Array Oper} {nb : Nat → Nat} {Q : Exit → Act → World → Prop} {W : Nat → Wr O} {l : Nat → Log} {σs : Nat → St O} {j0 : Nat}
  (hs : ∀ i o, j0 ≤ i → ops.toList[i]? = some o → Step1 cfg (nb i) ops.toList o (σs i) (W i) (l i) ∧ Same (σs (i + 1)) ((σs i).app (W i)))
  (hQ : ∀ a w pl, Rel cx (σs ops.size) a w pl → Q .normal a w) : ∀ (m j : Nat), j0 ≤ j → j + m = ops.size → ∀ (a : Act) (w : World) (pl : Nat → Pl), Rel cx (σs j) a w pl →
   wpOps P ops Q (List.range' j m) a w
 | 0, j, _, hj, a, w, pl, hR => by
  have : j = ops.size := by omega
  subst this
  exact hQ a w pl hR
 | m + 1, j, hj0, hj, a, w, pl, hR => by
  rw [List.range'_succ, wpOps_cons]
  have hlt : j < ops.size := by omega
  have ho : ops[j]? = some ops[j] := Array.getElem?_eq_getElem hlt
  obtain ⟨h1, h2⟩ := hs j ops[j] hj0 (by simp)
  exact does_wp hT hΓ hN ho h1.does hR fun a' w' pl' hR' => text_from hT hΓ hN hs hQ m (j + 1) (by omega) (by omega) a' w' pl' (Rel_same h2 hR')
theorem allOf_some {R : Type} {is : List Nat} {f : Nat → Option R} {r : R} (h : allOf is f = some r) (hne : is ≠ []) : ∀ i ∈ is, f i = some r := by
 unfold allOf at h
 split at h
 ·rename_i hex
  simp only [Option.some.injEq] at h
  have := Classical.choose_spec hex
  rw [h] at this
  exact this
 ·cases h
end
end Go.BB
