/- A symbolic machine for the model's code, and what it shows of this seat's functions. No conditions. -/
import Derived.Test.YtnofmeckcimodaaFReg2
set_option linter.unusedSimpArgs false
set_option linter.unusedVariables false
namespace Go.BB
open Go
section
variable {O : ObjK} {cx : Cx} {σ : St O} {a : Act} {w : World} {pl : Nat → Pl} {cfg : Cfg O} {P : Program} {o : Oper} {wr : Wr O} {ops : Array Oper}

theorem mem_ext (hR : Rel cx σ a w pl) {nb : Nat} (hn : look σ.bk nb = none) (h64 : 64 ≤ nb) {w' : World} (hx : Ext (fun _ => True) w w') :
  (Mem cx w' ((nb, .dead) :: σ.bk) pl ∧ (∀ b, RO cx w σ.bk pl b → RO cx w' ((nb, .dead) :: σ.bk) pl b) ∧ (∀ b, RO cx w σ.bk pl b → w'.heap[b]? = w.heap[b]?)) ∧ Keeps σ.bk ((nb, .dead) :: σ.bk) pl pl := by
 have hk : Keeps σ.bk ((nb, .dead) :: σ.bk) pl pl := fun i B hi =>
  ⟨Pl.same_refl _, B, by rw [look_cons, if_neg (fun e => by simp only at e; rw [← e, hn] at hi; cases hi)]; exact hi, fun _ _ h => h, id, id⟩
 have dead : ¬ liveAt ((nb, Blk.dead) :: σ.bk) nb := by
  rintro ⟨B, hB, hl⟩
  rw [look_cons, if_pos rfl] at hB
  cases hB
  exact hl
 refine ⟨mem_gen hR.mem (fun i => i = nb) (hx.mono fun _ _ h => h.elim) (fun b hb _ => hx.keep b hb trivial) hk ?_ ?_ ?_ ?_ ?_ ?_, hk⟩
 ·intro i B hi hne
  rw [look_cons, if_neg (fun e => hne e.symm)] at hi
  exact ⟨hi, rfl⟩
 ·rintro i rfl hl
  exact absurd hl dead
 ·rintro i j rfl rfl _ _ hij
  exact absurd rfl hij
 ·rintro hRO hRw i B rfl hi
  rw [look_cons, if_pos rfl] at hi
  cases hi
  trivial
 ·rintro hRO i t xs rfl hi
  rw [look_cons, if_pos rfl] at hi
  cases hi
 ·rintro i rfl _
  exact h64
theorem enter_call {c : Ctr O} {g : Nat} (hV : Valid P g c) {vs : Array Value} (ho : (execOp a.eval o).run P w = (callFunc g vs).run P w) (next : Act → World → Prop) (Q : Exit → Act → World → Prop)
  (hc : Calls P g vs w fun e w' => ∃ v, e = .returned v ∧ next (a.put o.dst v) w') : o.wp P a w next Q := by
 obtain ⟨fn, e1, e2, e3⟩ := hV.fn
 unfold Oper.wp
 rw [ho]
 have : (callFunc g vs).run P w = .ok (.enter g vs) w := by
  simp [callFunc, go_sem, e1, show ¬ fn.name = "runtime.NumGoroutine" by simpa using e2, show ¬ fn.body = none from fun h => by rw [h] at e3; cases e3]
 rw [this, Oper.upon_enter]
 refine Calls.mono hc fun e w' he => ?_
 obtain ⟨v, rfl, hv⟩ := he
 exact hv
theorem callOf_some {g : Nat} {xs : List Operand} {d : Tmp} (h : callOf o = some (g, xs, d)) : o.dst = some d ∧ ∀ (a : Act) (w : World), (execOp a.eval o).run P w = (callFunc g (xs.map a.eval).toArray).run P w := by
 unfold callOf at h
 split at h
 ·rename_i c d' ho hd
  split at h
  ·rename_i g' hc
   cases h
   exact ⟨hd, fun a w => call_value_run hc (by rfl) ho⟩
  ·cases h
 ·cases h
theorem fuse_good (hΓ : Γok P cfg.Γ) (hR : Rel cx σ a w pl) {o1 o2 : Oper} {nb : Nat} {p : Nat × Operand × Tmp × Nat × Tmp} (h1 : callOf o1 = some (p.1, [p.2.1], p.2.2.1)) (h2 : callOf o2 = some (p.2.2.2.1, [.tmp p.2.2.1], p.2.2.2.2))
  (hd1 : p.2.2.1 < cx.N) (hd2 : p.2.2.2.2 < cx.N) (h : (fuseRM cfg nb p).to σ wr) (next : Act → World → Prop) (Q : Exit → Act → World → Prop) (hn : ∀ a' w' pl', Rel cx (σ.app wr) a' w' pl' → next a' w') :
  o1.wp P a w (fun a1 w1 => (∃ v1, a1 = a.put o1.dst v1) ∧ o2.wp P a1 w1 next Q) Q := by
 obtain ⟨g1, x, d1, g2, d2⟩ := p
 obtain ⟨e1, r1⟩ := callOf_some (P := P) h1
 obtain ⟨e2, r2⟩ := callOf_some (P := P) h2
 simp only at e1 e2 r1 r2 hd1 hd2
 unfold fuseRM at h
 simp only at h
 cases hl1 : look cfg.Γ g1 with
 | none => rw [hl1] at h; exact h.elim
 | some c1 =>
 cases hl2 : look cfg.Γ g2 with
 | none => rw [hl1, hl2] at h; exact h.elim
 | some c2 =>
 rw [hl1, hl2] at h
 simp only at h
 have V1 := hΓ g1 c1 hl1
 have V2 := hΓ g2 c2 hl2
 unfold fuseF at h
 split at h
 rotate_left
 ·exact h.elim
 rename_i t u F1 u' tr F2
 split at h
 rotate_left
 ·exact h.elim
 rename_i heq _ hflat
 subst heq
 obtain ⟨c, h3, h4⟩ := evC_to h
 obtain ⟨xs, fz, h5, hz, hrep⟩ := ofCellsD_to hR _ _ _ _ h4
 obtain ⟨hnb, h64, h6⟩ := fresh_to h5
 obtain ⟨y, hF, rfl⟩ := h6
 obtain ⟨⟨⟨ys, ⟨⟩⟩, u1⟩, hF1, hF'⟩ := bd_some hF
 obtain ⟨⟨⟨z, ⟨⟩⟩, u2⟩, hF2, hy⟩ := bd_some hF'
 cases hy
 have hx := opd_CR hR h3
 have hxs : Rep w (R2 cx w σ pl fz) (.slice t) xs [a.eval x] := hrep [a.eval x] ⟨hx, trivial⟩
 obtain ⟨_, hb2⟩ := R2_before hR hz (ids := []) (by simp) (by simp)
 refine enter_call V1 (r1 a w) _ Q (Calls.mono (V1.calls w (R2 cx w σ pl fz) _ [] (xs, ()) (ys, ()) u1 hF1 ⟨⟨a.eval x, [], [], [], rfl, rfl, VRel_val hxs, rfl, rfl⟩, trivial, by simp, hb2⟩) ?_)
 rintro e w1 ⟨vs, pls', rpl, rfl, hA⟩
 obtain ⟨v, vs', q, pls2, ev, ep, hres, hnil, _⟩ := hA.res
 have hnil : vs' = [] := hnil
 subst hnil
 subst ev
 have hres : ShRel w1 _ (.own u) ys [v] q := hres
 obtain ⟨v1, p1, ev1, eq1, hz1, hrow, hov, hone⟩ := hres
 cases ev1
 refine ⟨v, rfl, ⟨v, rfl⟩, ?_⟩
 have hp1 : ∀ b, p1.fp b → b < w1.heap.size := fun b hb => hA.bound p1 (by rw [ep, eq1]; simp) b hb
 let R3 : Nat → Prop := fun b => R' w w1 (R2 cx w σ pl fz) [] (pls' ++ rpl) b ∨ p1.fp b
 have hrep2 : Rep w1 R3 (.slice u) ys [v] := rep_own hz1 hrow hov (fun b hb => .inl hb) fun b hb => .inr hb
 have hd1' : d1 < a.tmps.size := by rw [hR.size]; exact hd1
 have hev : (a.put o1.dst v).eval (.tmp d1) = v := by
  have := put_getD (a := a) (dst := o1.dst) (v := v) d1 (by rw [e1]; intro d hd; cases hd; exact hd1')
  rw [e1, if_pos rfl] at this
  rw [e1]
  exact this
 have r2' := r2 (a.put o1.dst v) w1
 simp only [List.map_cons, List.map_nil, hev] at r2'
 refine enter_call V2 r2' _ Q (Calls.mono (V2.calls w1 R3 _ [] (ys, ()) (z, ()) u2 hF2 ⟨⟨v, [], [], [], rfl, rfl, VRel_val hrep2, rfl, rfl⟩, trivial, by simp, ?_⟩) ?_)
 ·rintro b (hb | hb)
  ·exact hb.2.1
  ·exact hp1 b hb
 rintro e w2 ⟨vs, pls3, rpl3, rfl, hA2⟩
 obtain ⟨v2, vs', q2, pls4, ev, ep2, hres2, hnil, _⟩ := hA2.res
 have hnil : vs' = [] := hnil
 subst hnil
 subst ev
 have hres2 : VRel w2 _ (.val tr) z v2 q2 := hres2
 have hx12 : Ext (fun _ => True) w w2 := (hA.ext.mono fun _ _ _ => by simp).trans (hA2.ext.mono fun _ _ _ => by simp)
 obtain ⟨hM, hk⟩ := mem_ext hR hnb h64 hx12
 have hR1 := rel_gen hR hM hk (dst := o1.dst) (by rw [e1]; intro d hd; cases hd; exact hd1) (s := .t (.one (.own nb))) (v := v)
  ⟨hone, .dead, by rw [look_cons, if_pos rfl], fun t' n hr => by obtain ⟨zs, h | h, _⟩ := hr <;> cases h⟩
 have hT : TRep w2 (RO cx w2 ((nb, .dead) :: σ.bk) pl) tr z v2 := by
  unfold VRel at hres2
  refine TRep_flat (w := w2) (R := R' w1 w2 R3 [] (pls3 ++ rpl3)) hflat ?_
  unfold TRep
  cases ha : tr.isAgg with
  | true =>
   have ha' : (Sh.val tr).isAgg = true := ha
   rw [ha'] at hres2
   obtain ⟨arr, g1, g2⟩ := hres2
   exact ⟨arr, g1, g2.1⟩
  | false =>
   have ha' : (Sh.val tr).isAgg = false := ha
   rw [ha'] at hres2
   exact hres2.1
 have hR2 := rel_put hR1 (dst := o2.dst) (by rw [e2]; intro d hd; cases hd; exact hd2) (s := .t (tOf tr z)) (v := v2) (tOf_TR hT)
 refine ⟨v2, rfl, hn _ _ pl ?_⟩
 rw [e1, e2] at hR2
 rw [e1, e2]
 exact hR2
theorem fuOf_some {o1 o2 : Oper} {p : Nat × Operand × Tmp × Nat × Tmp} (h : fuOf cfg o1 o2 = some p) : callOf o1 = some (p.1, [p.2.1], p.2.2.1) ∧ callOf o2 = some (p.2.2.2.1, [.tmp p.2.2.1], p.2.2.2.2) := by
 unfold fuOf at h
 split at h
 ·rename_i g1 x d1 g2 t d2 h1 h2
  split at h
  ·rename_i hb _
   cases h
   have := Nat.eq_of_beq_eq_true hb
   subst this
   exact ⟨h1, h2⟩
  ·cases h
 ·cases h
theorem wanted_slot (hR : Rel cx σ a w pl) {all : List Oper} (hall : all = ops.toList) {j : Nat} {want : Bool} (hg : o.guard = some (j, want)) {g : Nat} (hj : (all[j]?).bind (·.dst) = some g) {b : Bool} (hv : look σ.sl g = some (.t (.one (.sc (.bool b))))) :
  Region.wanted o (yielded ops a.tmps) = beqB b want := by
 obtain ⟨h1, h2⟩ := hR.slots g _ hv
 have h2' : a.tmps.getD g undef = .bool b := h2
 have hj' : (ops[j]?).bind (·.dst) = some g := by rw [hall] at hj; simpa using hj
 have h3 : a.tmps[g]? = some (.bool b) := by
  rw [Array.getD_eq_getD_getElem?, Array.getElem?_eq_getElem h1] at h2'
  rw [Array.getElem?_eq_getElem h1]
  simpa using h2'
 unfold Region.wanted
 rw [hg]
 simp only [yielded, hj', Option.bind_some, h3]
 cases b <;> cases want <;> rfl
theorem fuse_wp (hT : TTok P cfg.tt) (hΓ : Γok P cfg.Γ) (hN : cfg.N = cx.N) {R : Type} {nb i : Nat} {o1 o2 : Oper} {p : Nat × Operand × Tmp × Nat × Tmp} (hp : fuOf cfg o1 o2 = some p) {k : St O → Option R} {r : R}
  (h : fuseOp cfg nb ops.toList o1 o2 p σ k = some r) (ho1 : ops[i]? = some o1) (ho2 : ops[i + 1]? = some o2) (hR : Rel cx σ a w pl) {Q : Exit → Act → World → Prop} {K : Act → World → Prop}
  (hK : ∀ σ', k σ' = some r → ∀ a' w' pl', Rel cx σ' a' w' pl' → K a' w') : wpOp P ops Q i (wpOp P ops Q (i + 1) K) a w := by
 obtain ⟨c1, c2⟩ := fuOf_some hp
 obtain ⟨e1, _⟩ := callOf_some (P := P) c1
 obtain ⟨e2, _⟩ := callOf_some (P := P) c2
 unfold fuseOp at h
 split at h
 rotate_left
 ·cases h
 rename_i hd1 hd2
 have hd1 : p.2.2.1 < cx.N := by rw [← hN]; exact Nat.le_of_ble_eq_true hd1
 have hd2 : p.2.2.2.2 < cx.N := by rw [← hN]; exact Nat.le_of_ble_eq_true hd2
 have go : ∀ {σ1 : St O}, Same σ1 σ → ((fuseRM cfg nb p).ev σ1 fun w => w.force fun w => (σ1.app w).force k) = some r →
   ∃ wr σ', (fuseRM cfg nb p).to σ wr ∧ Same σ' (σ.app wr) ∧ k σ' = some r := by
  intro σ1 hs h
  obtain ⟨wr, g1, g2⟩ := ev_to h
  rw [Wr.force_eq, St.force_eq] at g2
  exact ⟨wr, _, to_agree _ 0 (Agree.of_same hs) g1, hs.app wr, g2⟩
 split at h
 ·rename_i hg1 hg2
  obtain ⟨wr, σ', g1, g2, g3⟩ := go Same.rfl' h
  unfold wpOp
  rw [ho1]
  simp only
  rw [if_pos (by simp [Region.wanted, hg1])]
  refine .inl (Oper.wp_mono (fun a1 w1 h1 => ?_) (fuse_good hΓ hR c1 c2 hd1 hd2 g1 K Q fun a' w' pl' hR' => hK σ' g3 a' w' pl' (Rel_same g2 hR')))
  rw [ho2]
  simp only
  rw [if_pos (by simp [Region.wanted, hg2])]
  exact .inl h1.2
 ·rename_i j want j' want' hg1 hg2
  split at h
  rotate_left
  ·cases h
  rename_i g hjj hww hgd
  have hjj := Nat.eq_of_beq_eq_true hjj
  subst hjj
  have hww : want = want' := by cases want <;> cases want' <;> simp [beqB] at hww ⊢
  subst hww
  split at h
  rotate_left
  ·cases h
  rename_i hne
  have hne : g ≠ p.2.2.1 := fun e => by rw [e] at hne; simp at hne
  obtain ⟨b, hb, σ1, hs, h1⟩ := onSlot_some h
  have hw1 := wanted_slot (o := o1) hR rfl hg1 hgd hb
  have hw2 : ∀ v1, Region.wanted o2 (yielded ops (a.put o1.dst v1).tmps) = Region.wanted o1 (yielded ops a.tmps) := by
   intro v1
   have hj' : (ops[j]?).bind (·.dst) = some g := by simpa using hgd
   have : yielded ops (a.put o1.dst v1).tmps j = yielded ops a.tmps j := by
    unfold yielded
    rw [hj', Option.bind_some, Option.bind_some]
    have h5 : (a.put o1.dst v1).tmps[g]? = a.tmps[g]? := by
     rw [e1]
     simp only [Act.put]
     rw [Array.getElem?_setIfInBounds_ne (Ne.symm hne)]
    rw [h5]
   unfold Region.wanted
   rw [hg1, hg2]
   simp only [this]
  unfold wpOp
  rw [ho1]
  simp only
  cases hbw : beqB b want with
  | true =>
   rw [hbw] at h1 hw1
   simp only at h1
   obtain ⟨wr, σ', g1, g2, g3⟩ := go hs h1
   rw [if_pos hw1]
   refine .inl (Oper.wp_mono (fun a1 w1 h1 => ?_) (fuse_good hΓ hR c1 c2 hd1 hd2 g1 K Q fun a' w' pl' hR' => hK σ' g3 a' w' pl' (Rel_same g2 hR')))
   obtain ⟨⟨v1, rfl⟩, h1⟩ := h1
   rw [ho2]
   simp only
   rw [if_pos (by rw [hw2]; exact hw1)]
   exact .inl h1
  | false =>
   rw [hbw] at h1 hw1
   simp only at h1
   rw [St.force_eq] at h1
   rw [if_neg (by rw [hw1]; simp), ho2]
   simp only
   rw [if_neg (by rw [hw2, hw1]; simp)]
   have hR1 := rel_put hR (dst := o1.dst) (by rw [e1]; intro d hd; cases hd; exact hd1) (s := undefS) (v := undef) rfl
   have hR2 := rel_put hR1 (dst := o2.dst) (by rw [e2]; intro d hd; cases hd; exact hd2) (s := undefS) (v := undef) rfl
   refine hK _ h1 _ _ pl (Rel_same (hs.app _) ?_)
   rw [e1, e2] at hR2
   rw [e1, e2]
   exact hR2
 ·cases h
theorem runOpsF_wp (hT : TTok P cfg.tt) (hΓ : Γok P cfg.Γ) (hN : cfg.N = cx.N) {R : Type} {Q : Exit → Act → World → Prop} {k : St O → Option R} {r : R} (hQ : ∀ σ', k σ' = some r → ∀ a w pl, Rel cx σ' a w pl → Q .normal a w) :
  ∀ (os : List Oper) (j nb : Nat) (σ : St O), runOpsF cfg ops.toList os nb σ k = some r → (∀ i o, os[i]? = some o → ops[j + i]? = some o) → ∀ (a : Act) (w : World) (pl : Nat → Pl), Rel cx σ a w pl → wpOps P ops Q (List.range' j os.length) a w
 | [], j, nb, σ, h, _, a, w, pl, hR => hQ σ h a w pl hR
 | [o], j, nb, σ, h, ho, a, w, pl, hR => by
  unfold runOpsF at h
  obtain ⟨wr, l, σ', h1, h2, h3⟩ := runOp_to h
  rw [show List.range' j [o].length = [j] from rfl, wpOps_cons]
  exact does_wp hT hΓ hN (ho 0 o rfl) h1.does hR fun a' w' pl' hR' => hQ σ' h3 a' w' pl' (Rel_same h2 hR')
 | o1 :: o2 :: os, j, nb, σ, h, ho, a, w, pl, hR => by
  unfold runOpsF at h
  cases hf : fuOf cfg o1 o2 with
  | some p =>
   rw [hf] at h
   simp only at h
   rw [show (o1 :: o2 :: os).length = os.length + 1 + 1 from rfl, List.range'_succ, List.range'_succ, wpOps_cons]
   have : wpOps P ops Q ((j + 1) :: List.range' (j + 1 + 1) os.length) = wpOp P ops Q (j + 1) (wpOps P ops Q (List.range' (j + 1 + 1) os.length)) := by
    funext a w; rw [wpOps_cons]
   rw [this]
   exact fuse_wp hT hΓ hN hf h (ho 0 o1 rfl) (ho 1 o2 rfl) hR fun σ' h' a' w' pl' hR' => runOpsF_wp hT hΓ hN hQ os (j + 2) (nb + 16) σ' h' (fun i o hi => by
    have := ho (i + 2) o (by simpa using hi)
    rw [← this]; congr 1; omega) a' w' pl' hR'
  | none =>
   rw [hf] at h
   simp only at h
   obtain ⟨wr, l, σ', h1, h2, h3⟩ := runOp_to h
   rw [show (o1 :: o2 :: os).length = (o2 :: os).length + 1 from rfl, List.range'_succ, wpOps_cons]
   exact does_wp hT hΓ hN (ho 0 o1 rfl) h1.does hR fun a' w' pl' hR' => runOpsF_wp hT hΓ hN hQ (o2 :: os) (j + 1) (nb + 8) σ' h3 (fun i o hi => by
    have := ho (i + 1) o (by simpa using hi)
    rw [← this]; congr 1; omega) a' w' pl' (Rel_same h2 hR')
end
end Go.BB
set_option linter.unusedSimpArgs false
set_option linter.unusedVariables false
namespace Go.BB
open Go
section
variable {O : ObjK} {cx : Cx} {σ τ : St O} {a : Act} {w : World} {pl : Nat → Pl} {cfg : Cfg O} {P : Program} {o : Oper} {wr : Wr O} {ops : Array Oper}

theorem Rel_drew (hR : Rel cx σ a w pl) : Rel cx σ a { w with drawn := w.drawn + 1 } pl := by
 have hM := mem_gen hR.mem (w' := { w with drawn := w.drawn + 1 }) (bk' := σ.bk) (pl' := pl) (fun _ => False) ⟨rfl, rfl, rfl, Nat.le_refl _, fun _ _ _ => rfl⟩ (fun _ _ _ => rfl) (Keeps.refl _ _)
  (fun i B h _ => ⟨h, rfl⟩) (fun _ h => h.elim) (fun _ _ h => h.elim) (fun _ _ _ _ h => h.elim) (fun _ _ _ _ h => h.elim) (fun _ h => h.elim)
 refine ⟨hM.1, fun t s hs => ?_, hR.defers, hR.size⟩
 obtain ⟨h1, h2⟩ := hR.slots t s hs
 exact ⟨h1, SR_mono hM.2.1 hM.2.2 (Keeps.refl _ _) _ _ h2⟩

theorem backs1_spec {n : Nat} : ∀ (es : List Edge), backs1 n es = true → ∀ e ∈ es, bindsAny e.ground = true → e.on < n
 | [], _, e, he, _ => by cases he
 | e' :: es, h, e, he, hb => by
  unfold backs1 at h
  cases h1 : bindsAny e'.ground with
  | true =>
   rw [h1] at h
   simp only at h
   cases h2 : Nat.blt e'.on n with
   | false => rw [h2] at h; cases h
   | true =>
    rw [h2] at h
    rcases List.mem_cons.1 he with rfl | he
    ·exact Nat.le_of_ble_eq_true h2
    ·exact backs1_spec es h e he hb
  | false =>
   rw [h1] at h
   rcases List.mem_cons.1 he with rfl | he
   ·rw [h1] at hb; cases hb
   ·exact backs1_spec es h e he hb
theorem backs_spec : ∀ (os : List Oper) (n : Nat), backs os n = true → ∀ i o, os[i]? = some o → ∀ e ∈ o.after, bindsAny e.ground = true → e.on < n + i
 | [], n, _, i, o, ho, e, he, _ => by simp at ho
 | o' :: os, n, h, i, o, ho, e, he, hb => by
  unfold backs at h
  cases h1 : backs1 n o'.after.toList with
  | false => rw [h1] at h; cases h
  | true =>
   rw [h1] at h
   cases i with
   | zero =>
    simp only [List.getElem?_cons_zero, Option.some.injEq] at ho
    subst ho
    exact backs1_spec _ h1 e (by simpa using he) hb
   | succ i =>
    have := backs_spec os (n + 1) h i o (by simpa using ho) e he hb
    omega
def Bits (ops : Array Oper) (acc : List Nat) : Prop := ∀ i c, acc.reverse[i]? = some c → ∀ j, c.testBit j = true → Ahead ops i j
theorem edgeBits_spec {A : Type} {acc : List Nat} (hacc : Bits ops acc) : ∀ (es : List Edge) (b : Nat) (k : Nat → A), ∃ b', edgeBits acc acc.length es b k = k b' ∧
  ∀ j, b'.testBit j = true → b.testBit j = true ∨ ∃ e ∈ es, bindsAny e.ground = true ∧ e.on < acc.length ∧ (j = e.on ∨ Ahead ops e.on j)
 | [], b, k => ⟨b, rfl, fun j h => .inl h⟩
 | e :: es, b, k => by
  unfold edgeBits
  have more : ∀ b0, (∃ b', edgeBits acc acc.length es b0 k = k b' ∧ ∀ j, b'.testBit j = true → b0.testBit j = true ∨ ∃ e ∈ es, bindsAny e.ground = true ∧ e.on < acc.length ∧ (j = e.on ∨ Ahead ops e.on j)) := fun b0 => edgeBits_spec hacc es b0 k
  have skip : ∃ b', edgeBits acc acc.length es b k = k b' ∧ ∀ j, b'.testBit j = true → b.testBit j = true ∨ ∃ e' ∈ e :: es, bindsAny e'.ground = true ∧ e'.on < acc.length ∧ (j = e'.on ∨ Ahead ops e'.on j) := by
   obtain ⟨b', h1, h2⟩ := more b
   refine ⟨b', h1, fun j hj => ?_⟩
   rcases h2 j hj with h | ⟨e', he, h⟩
   ·exact .inl h
   ·exact .inr ⟨e', List.mem_cons_of_mem _ he, h⟩
  cases hb : bindsAny e.ground with
  | false => exact skip
  | true =>
   simp only
   cases hlt : Nat.blt e.on acc.length with
   | false => exact skip
   | true =>
    have hlt' : e.on < acc.length := Nat.le_of_ble_eq_true hlt
    simp only
    have hget : acc[Nat.sub (Nat.sub acc.length 1) e.on]? = acc.reverse[e.on]? := by
     rw [List.getElem?_reverse hlt']; rfl
    rw [hget]
    cases hc : acc.reverse[e.on]? with
    | none => exact skip
    | some c =>
     obtain ⟨b', h1, h2⟩ := more (Nat.lor b (Nat.lor (Nat.pow 2 e.on) c))
     refine ⟨b', h1, fun j hj => ?_⟩
     rcases h2 j hj with h | ⟨e', he, h⟩
     ·rw [testBit_lor, testBit_lor] at h
      simp only [Bool.or_eq_true] at h
      rcases h with h | h | h
      ·exact .inl h
      ·have : (2 ^ e.on).testBit j = true := h
       rw [Nat.testBit_two_pow] at this
       exact .inr ⟨e, List.mem_cons_self, hb, hlt', .inl (of_decide_eq_true this).symm⟩
      ·exact .inr ⟨e, List.mem_cons_self, hb, hlt', .inr (hacc _ _ hc j h)⟩
     ·exact .inr ⟨e', List.mem_cons_of_mem _ he, h⟩
theorem befores_spec {A : Type} : ∀ (os : List Oper) (acc : List Nat) (k : List Nat → A), (∀ i o, os[i]? = some o → ops[acc.length + i]? = some o) → Bits ops acc →
  ∃ bs, befores os acc.length acc k = k bs ∧ bs.length = acc.length + os.length ∧ Bits ops bs
 | [], acc, k, _, h => ⟨acc, rfl, rfl, h⟩
 | o :: os, acc, k, hops, h => by
  unfold befores
  obtain ⟨b, h1, h2⟩ := edgeBits_spec h o.after.toList 0 (fun b => forceN b fun b => befores os (Nat.add acc.length 1) (b :: acc) k)
  rw [h1, forceN_eq]
  have hb : Bits ops (b :: acc) := by
   intro i c hc j hj
   rw [List.reverse_cons, List.getElem?_append] at hc
   split at hc
   ·exact h i c hc j hj
   ·rename_i hi
    have hi' : i = acc.length := by
     have := (List.getElem?_eq_some_iff.1 hc).1
     simp at this hi
     omega
    subst hi'
    simp only [List.length_reverse, Nat.sub_self, List.getElem?_cons_zero, Option.some.injEq] at hc
    subst hc
    have ho := hops 0 o rfl
    rw [Nat.add_zero] at ho
    rcases h2 j hj with h3 | ⟨e, he, hbd, hlt, h3⟩
    ·simp at h3
    ·rcases h3 with h3 | h3
     ·exact .edge ho (by simpa using he) hbd h3.symm
     ·exact .more ho (by simpa using he) hbd rfl h3
  obtain ⟨bs, g1, g2, g3⟩ := befores_spec os (b :: acc) k (fun i o' ho => by
   have := hops (i + 1) o' (by simpa using ho)
   rw [show (b :: acc).length + i = acc.length + (i + 1) by simp; omega]
   exact this) hb
  refine ⟨bs, g1, by rw [g2]; simp; omega, g3⟩
theorem chkOne_spec {bef : Nat} {y : Log} : ∀ (xs : List Log), chkOne bef y xs = true → ∀ j x, xs.reverse[j]? = some x → bef.testBit j = true ∨ apart x y = true
 | [], _, j, x, hx => by simp at hx
 | x' :: xs, h, j, x, hx => by
  unfold chkOne at h
  rw [List.reverse_cons, List.getElem?_append] at hx
  cases hb : Nat.beq (Nat.land (Nat.shiftRight bef (clen xs)) 1) 1 with
  | true =>
   rw [hb] at h
   split at hx
   ·exact chkOne_spec xs h j x hx
   ·rename_i hi
    left
    have hj : j = xs.length := by
     have := (List.getElem?_eq_some_iff.1 hx).1
     simp at this hi
     omega
    subst hj
    rw [clen_eq] at hb
    have h1 : (bef >>> xs.length) &&& 1 = 1 := Nat.eq_of_beq_eq_true hb
    simp only [Nat.testBit]
    rw [Nat.and_comm, h1]
    rfl
  | false =>
   rw [hb] at h
   simp only at h
   cases ha : BB.apart x' y with
   | false => rw [ha] at h; cases h
   | true =>
    rw [ha] at h
    split at hx
    ·exact chkOne_spec xs h j x hx
    ·rename_i hi
     right
     have hj : j = xs.length := by
      have := (List.getElem?_eq_some_iff.1 hx).1
      simp at this hi
      omega
     subst hj
     simp only [List.length_reverse, Nat.sub_self, List.getElem?_cons_zero, Option.some.injEq] at hx
     subst hx
     exact ha
theorem chkAll_spec : ∀ (bs : List Nat) (ls : List Log), chkAll bs ls = true → bs.length = ls.length ∧ ∀ (i j : Nat) (b : Nat) (x y : Log), j < i → bs.reverse[i]? = some b → ls.reverse[i]? = some y → ls.reverse[j]? = some x → b.testBit j = true ∨ apart x y = true
 | [], [], _ => ⟨rfl, by simp⟩
 | [], _ :: _, h => by cases h
 | _ :: _, [], h => by cases h
 | b :: bs, y :: ys, h => by
  unfold chkAll at h
  cases h1 : chkOne b y ys with
  | false => rw [h1] at h; cases h
  | true =>
   rw [h1] at h
   obtain ⟨h2, h3⟩ := chkAll_spec bs ys h
   refine ⟨by simp [h2], fun i j b' x y' hji hb hy hx => ?_⟩
   rw [List.reverse_cons, List.getElem?_append] at hb hy hx
   simp only [List.length_reverse] at hb hy hx
   by_cases hi : i < ys.length
   ·rw [if_pos (by omega)] at hb
    rw [if_pos hi] at hy
    rw [if_pos (by omega)] at hx
    exact h3 i j b' x y' hji hb hy hx
   ·rw [if_neg (by omega)] at hb
    rw [if_neg hi] at hy
    have hi' : i = ys.length := by
     have := (List.getElem?_eq_some_iff.1 hy).1
     simp at this
     omega
    subst hi'
    rw [h2] at hb
    simp only [Nat.sub_self, List.getElem?_cons_zero, Option.some.injEq] at hb hy
    subst hb
    subst hy
    rw [if_pos hji] at hx
    exact chkOne_spec ys h1 j x hx

theorem region_wp (hm : P.follows .mixedOrders = true) (hT : TTok P cfg.tt) (hΓ : Γok P cfg.Γ) (hN : cfg.N = cx.N) {R : Type} {K id nx : Nat} {draw : Bool} {an : An O} {r : R}
  {kn : Nat → St O → Option R} {ke : Nat → Nat → St O → Option R} {kr : St O → Option R} {Q : Exit → Act → World → Prop}
  (hR : Rel cx σ a w pl) (h : run cfg K (.region id ops draw) an nx σ kn ke kr = some r)
  (hQ : ∀ nx' σ', kn nx' σ' = some r → ∀ a w pl, Rel cx σ' a w pl → Q .normal a w) : (Code.region id ops draw).wp P Q a w := by
 unfold run at h
 have hlen : ops.toList.length = ops.size := by simp
 split at h
 ·refine wp_region ?_
  rw [List.range_eq_range', ← hlen]
  exact runOpsF_wp hT hΓ hN (fun σ' h' a w pl hR' => hQ _ _ h' a w pl hR') ops.toList 0 nx σ h (fun i o ho => by simpa using ho) a w pl hR
 rename_i draw _ _ _
 obtain ⟨W, l, σs, h1, h2, h3⟩ := runOps_to ops.toList nx σ [] _ r h
 rw [hlen] at h3
 have hR0 : Rel cx (σs 0) a w pl := by rw [h1]; exact hR
 cases draw with
 | false =>
  simp only at h3
  refine wp_region ?_
  rw [List.range_eq_range']
  exact text_wp hT hΓ hN h2 (fun a w pl hR' => hQ _ _ h3 a w pl hR') ops.size 0 (by omega) a w pl hR0
 | true =>
  simp only at h3
  cases hbk : backs ops.toList 0 with
  | false => rw [hbk] at h3; cases h3
  | true =>
  rw [hbk] at h3
  simp only at h3
  have hback : ∀ (i : Nat) (o : Oper), ops[i]? = some o → ∀ e ∈ o.after, bindsAny e.ground = true → e.on < i := fun i o ho e he hb => by
   have := backs_spec _ _ hbk i o (by simpa using ho) e he hb
   omega
  obtain ⟨bs, g1, g2, g3⟩ := befores_spec (ops := ops) ops.toList [] (fun bs => match chkAll bs (((List.range ops.size).map l).reverse ++ []) with | true => kn (Nat.add nx 1024) (σs ops.size) | false => none) (fun i o ho => by simpa using ho) (fun i c hc => by simp at hc)
  have h4 : (match chkAll bs (((List.range ops.size).map l).reverse ++ []) with | true => kn (Nat.add nx 1024) (σs ops.size) | false => none) = some r := g1.symm.trans h3
  rw [List.append_nil] at h4
  cases hc : chkAll bs ((List.range ops.size).map l).reverse with
  | false => rw [hc] at h4; cases h4
  | true =>
  rw [hc] at h4
  simp only at h4
  obtain ⟨_, hck⟩ := chkAll_spec _ _ hc
  have ahead_lt : ∀ i j, Ahead ops i j → j < i := by
   intro i j hij
   induction hij with
   | edge ho he hb hon => rw [← hon]; exact hback _ _ ho _ he hb
   | more ho he hb hon hk ih => have := hback _ _ ho _ he hb; omega
  have hplan : Plan ops.size (Ahead ops) l := by
   refine ⟨ahead_lt, fun i j hji hi => ?_⟩
   have hbl : i < bs.reverse.length := by rw [List.length_reverse, g2]; simpa using hi
   have e1 : bs.reverse[i]? = some (bs.reverse[i]) := List.getElem?_eq_getElem hbl
   rcases hck i j _ (l j) (l i) hji e1 (by rw [List.reverse_reverse, List.getElem?_map, List.getElem?_range hi]; rfl) (by rw [List.reverse_reverse, List.getElem?_map, List.getElem?_range (by omega)]; rfl) with h5 | h5
   ·exact .inl (g3 i _ e1 j h5)
   ·exact .inr h5
  refine wp_region_any hm ?_
  refine any_wp hT hΓ hN h2 hback hplan (fun a w pl hR' => hQ _ _ h4 a w pl hR') ops.size _ (by simp) ?_ (σs 0) a _ pl ?_ (Rel_drew hR0) (by omega)
  ·intro i j hi hl
   rw [Array.getD_eq_getD_getElem?, Array.getElem?_replicate] at hl
   simp [hi] at hl
  ·intro x
   have : ∀ n, mix (fun k => (Array.replicate ops.size false).getD k false) W (σs 0).at' n x = (σs 0).at' x := by
    intro n
    induction n with
    | zero => rfl
    | succ n ih =>
     have e : (Array.replicate ops.size false).getD n false = false := by
      rw [Array.getD_eq_getD_getElem?, Array.getElem?_replicate]
      split <;> rfl
     simp only [mix, e]
     exact ih
   exact (this _).symm
end
end Go.BB
