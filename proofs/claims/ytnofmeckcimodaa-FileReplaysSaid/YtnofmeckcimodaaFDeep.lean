/- A symbolic machine for the model's code, and what it shows of this seat's functions. No conditions. -/
import Derived.Test.YtnofmeckcimodaaFCtr
set_option linter.unusedSimpArgs false
set_option linter.unusedVariables false
namespace Go.BB
open Go
section
variable {O : ObjK} {cx : Cx} {σ : St O} {a : Act} {w : World} {pl : Nat → Pl} {cfg : Cfg O} {P : Program} {o : Oper} {wr : Wr O}
theorem drow_rep {R R' : Nat → Prop} {p : Pl} {ta tb e tc : Ty} {S : Nat → List e.den → Value → Prop} {xs zs : List (dT ta tb e tc).den} {u : Value}
  (h : DRow w R ta tb e tc S p xs) (hv : ownV p xs.length u) (hR : ∀ b, R b → R' b) (hp : ∀ b, p.fp b → R' b) (hl : zs.length = xs.length)
  (hS : ∀ j x v, xs[j]? = some x → S j (dsl x) v → ∃ z, zs[j]? = some (dwith x z) ∧ Rep w R' (.slice e) z [v]) : Rep w R' (.slice (dT ta tb e tc)) zs [u] := by
 cases p with
 | nil =>
  have h : xs = [] := h
  subst h
  have : zs = [] := List.length_eq_zero_iff.1 hl
  subst this
  exact ⟨none, 0, by rw [hv.1]; rfl, Nat.le_refl _, fun h => by simp at h⟩
 | obj v f => exact h.elim
 | «at» bl cap =>
  obtain ⟨arr, e', h1, h2, h3, h4, h5⟩ := h
  refine ⟨some ⟨bl, 0, none⟩, cap, by rw [show u = _ from hv, hl], by rw [hl]; exact h3, fun _ => ⟨_, rfl, hp bl rfl, fun j z hz => ?_⟩⟩
  have hj : j < xs.length := by
   have := (List.getElem?_eq_some_iff.1 hz).1
   rw [hl] at this; exact this
  obtain ⟨cs, ⟨v1, v2, w', v4, g1, g2, g3, g4, g5⟩, g6⟩ := h5 j _ (List.getElem?_eq_getElem hj)
  obtain ⟨y, k1, k2⟩ := hS j _ w' (List.getElem?_eq_getElem hj) g4
  rw [hz] at k1
  cases k1
  refine ⟨cs, ⟨v1, v2 ++ (w' :: v4), g1, Rep_mono hR (fun _ _ => rfl) _ _ _ g2, v2, w' :: v4, rfl, Rep_mono hR (fun _ _ => rfl) _ _ _ g3, [w'], v4, rfl, k2, Rep_mono hR (fun _ _ => rfl) _ _ _ g5⟩, fun q v hq => ?_⟩
  rw [add_at, cell_of_row w bl _ arr e' (0, 0) h1]
  have := g6 q v hq
  simpa using this
theorem deep_rep {R R' : Nat → Prop} {ta tb e tc : Ty} {xs : List (dT ta tb e tc).den} {v : Value} {fp : Nat → Prop} (h : MapRel w R (.deep ta tb e tc) xs v fp) (hR : ∀ b, R b → R' b) (hf : ∀ b, fp b → R' b) :
  Rep w R' (.slice (dT ta tb e tc)) xs [v] := by
 obtain ⟨h0, p, ps, h1, h2, h3, h4, h5⟩ := h
 refine drow_rep h3 h2 hR (fun b hb => hf b ((h4 b).2 (.inl hb))) rfl fun j x u hx ⟨q, g1, g2, g3⟩ => ⟨_, hx, ?_⟩
 exact rep_own h0 g2 g3 hR fun b hb => hf b ((h4 b).2 (.inr ⟨q, List.mem_of_getElem? g1, hb⟩))
theorem dput_len {ta tb e tc : Ty} (xs : List (dT ta tb e tc).den) (n : Nat) (ys : List e.den) : (dput xs n ys).length = xs.length := by
 unfold dput; split <;> simp
theorem dput_get {ta tb e tc : Ty} {xs : List (dT ta tb e tc).den} {n j : Nat} {ys : List e.den} {x : (dT ta tb e tc).den} (h : xs[j]? = some x) :
  (dput xs n ys)[j]? = some (dwith x (if j = n then ys else dsl x)) := by
 unfold dput
 by_cases e' : j = n
 ·subst e'
  rw [h, if_pos rfl]
  exact List.getElem?_set_self (List.getElem?_eq_some_iff.1 h).1
 ·rw [if_neg e']
  split
  ·rw [List.getElem?_set_ne (Ne.symm e'), h]; rfl
  ·exact h
theorem castD_some {ta tb e tc : Ty} {s : (k : MapK) × k.den} {es : List (dT ta tb e tc).den} (h : castD ta tb e tc s = some es) : s = ⟨.deep ta tb e tc, es⟩ := by
 obtain ⟨k, x⟩ := s
 unfold castD at h
 split at h
 ·rename_i e'
  have e' : k = .deep ta tb e tc := e'
  subst e'
  exact congrArg (fun z => (⟨.deep ta tb e tc, z⟩ : (k : MapK) × k.den)) (Option.some.inj h)
 ·cases h
end
end Go.BB
