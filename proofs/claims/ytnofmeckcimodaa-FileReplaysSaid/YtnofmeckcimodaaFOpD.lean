/- A symbolic machine for the model's code, and what it shows of this seat's functions. No conditions. -/
import Derived.Test.YtnofmeckcimodaaFOps10
set_option linter.unusedSimpArgs false
set_option linter.unusedVariables false
namespace Go.BB
open Go
section
variable {O : ObjK} {cx : Cx} {σ : St O} {a : Act} {w : World} {pl : Nat → Pl} {cfg : Cfg O} {P : Program} {o : Oper} {wr : Wr O}

theorem good_indexAddrD (hT : TTok P cfg.tt) (hR : Rel cx σ a w pl) (hd : ∀ d, o.dst = some d → d < cx.N) {t : TypeId} {x ix : Operand}
  (ho : o.op = .indexAddr t x ix) (h : (opIndexAddrD cfg o.dst t x ix : RM O).to σ wr) : Good P cx σ a w o wr := by
 unfold opIndexAddrD at h
 obtain ⟨c, h1, h2⟩ := evC_to h
 have hc := opd_CR hR h1
 split at h2
 ·rename_i i
  obtain ⟨e, ety, ei, hu, he, hty, hz, h3⟩ := elemTI_to hT h2
  obtain ⟨k, n, h4, h5⟩ := evI_to h3
  have hi := opd_sc hR h4
  have hsz : ety.sz = ei.size := he.size ety hty
  have key : ∀ (m : Nat) (B : Blk O), look σ.bk i = some B → isObj B → (∃ f p, pl i = .obj (a.eval x) f ∧ ownV p m (a.eval x)) → 0 ≤ n → n < (m : Int) →
    (ret1 o.dst (.one (.dptr i ety.sz n.toNat 0)) : RM O).to σ wr → Good P cx σ a w o wr := by
   intro m B hB hO ⟨f, p, hp, hv⟩ h0 hlt h6
   cases p with
   | nil => have := hv.2; omega
   | obj v f => exact hv.elim
   | «at» b cap =>
    have hx : a.eval x = .slice (some ⟨b, 0, none⟩) m cap := hv
    rw [ret1_to h6]
    refine good_put hR hd (v := .pointer (some ((⟨b, 0, none⟩ : Addr).add (n.toNat * ety.sz)))) ?_ ?_
    ·simp [execOp, ho, hx, hi, indexAt_run hu he h0 hlt, hsz]
    ·exact ⟨rfl, B, hB, fun _ => ⟨b, m, cap, f, by rw [hp, hx], by omega, by rw [add_at]; simp⟩⟩
  simp only [RM.to] at h5
  obtain ⟨_, B, hB, hB2⟩ := hc
  rw [hB] at h5
  cases B with
  | obj kk xs =>
   cases kk with
   | deep ta tb te tc =>
    simp only at h5
    cases hdq : decEq (dT ta tb te tc) ety with
    | isFalse hne => rw [hdq] at h5; exact h5.elim
    | isTrue heq =>
     rw [hdq] at h5
     subst heq
     obtain ⟨h6, h7, h8⟩ := h5
     obtain ⟨f, hp⟩ := hB2 rfl
     obtain ⟨v, f', hp', _, p, ps, q1, q2, _⟩ := hR.mem.blocks i _ hB
     rw [hp] at hp'
     cases hp'
     exact key _ _ hB rfl ⟨f, p, hp, q2⟩ (of_decide_eq_true h6) (of_decide_eq_true h7) h8
   | map _ _ => exact h5.elim
   | mapS _ _ => exact h5.elim
  | hoD ta tb te tc xs m j =>
   simp only at h5
   cases hdq : decEq (dT ta tb te tc) ety with
   | isFalse hne => rw [hdq] at h5; exact h5.elim
   | isTrue heq =>
    rw [hdq] at h5
    subst heq
    obtain ⟨h6, h7, h8⟩ := h5
    obtain ⟨f, hp⟩ := hB2 rfl
    obtain ⟨_, v, f', p, ps, hp', q1, _, q2, _⟩ := hR.mem.blocks i _ hB
    rw [hp] at hp'
    cases hp'
    exact key _ _ hB rfl ⟨f, p, hp, q2⟩ (of_decide_eq_true h6) (of_decide_eq_true h7) h8
  | _ => exact h5.elim
 ·exact good_indexAddrA hT hR hd ho h2
theorem good_fieldAddrD (hT : TTok P cfg.tt) (hR : Rel cx σ a w pl) (hd : ∀ d, o.dst = some d → d < cx.N) {t : TypeId} {x : Operand} {f : Nat}
  (ho : o.op = .fieldAddr t x f) (h : (opFieldAddrD cfg o.dst t x f : RM O).to σ wr) : Good P cx σ a w o wr := by
 unfold opFieldAddrD at h
 obtain ⟨c, h1, h2⟩ := evC_to h
 have hc := opd_CR hR h1
 split at h2
 ·rename_i i sz idx off
  obtain ⟨fields, fd, fi, g1, g2, g3, g4⟩ := fieldTI_to hT h2
  cases hz : Nat.beq fi.size 0 with
  | true => rw [hz] at g4; exact g4.elim
  | false =>
   rw [hz] at g4
   have hz' : fi.size ≠ 0 := fun e => by rw [e] at hz; simp at hz
   simp only [RM.to] at g4
   obtain ⟨_, B, hB, hB2⟩ := hc
   rw [hB] at g4
   have key : isObj B → (ret1 o.dst (.one (.dptr i sz idx (Nat.add off fd.offset))) : RM O).to σ wr → Good P cx σ a w o wr := by
    intro hO h7
    obtain ⟨b, n, c, f', hp, hlt, he⟩ := hB2 hO
    rw [ret1_to h7]
    refine good_put hR hd (v := .pointer (some ((⟨b, idx * sz + off, none⟩ : Addr).add fd.offset))) ?_ ⟨rfl, B, hB, fun _ => ⟨b, n, c, f', hp, hlt, by rw [add_at, Nat.add_eq, Nat.add_assoc]⟩⟩
    simp [execOp, ho, he, Instr.fieldAt, underlying, g1, g2, Instr.sureAddr, fieldPlace, sizeOf_run g3, hz']
   cases B with
   | obj kk xs => exact key rfl g4
   | hoD ta tb te tc xs m j => exact key rfl g4
   | _ => exact g4.elim
 ·exact good_fieldAddr hT hR hd ho h2
theorem dent_at {R : Nat → Prop} {ta tb te tc : Ty} {S : List te.den → Value → Prop} {x : (dT ta tb te tc).den} {cs : List Value} (h : DEnt w R ta tb te tc S x cs) :
  ∃ u, cs[ta.sz + tb.sz]? = some u ∧ S (dsl x) u := by
 obtain ⟨v1, v2, u, v4, e, h1, h2, h3, h4⟩ := h
 refine ⟨u, ?_, h3⟩
 rw [e, List.getElem?_append_right (by rw [Rep_len _ _ _ h1]; omega), List.getElem?_append_right (by rw [Rep_len _ _ _ h1, Rep_len _ _ _ h2]; omega), Rep_len _ _ _ h1, Rep_len _ _ _ h2,
  show ta.sz + tb.sz - ta.sz - tb.sz = 0 by omega]
 rfl
theorem load1_run {t : Nat} {ti : TI} (hti : TIok P t ti) (ha : ti.agg = false) (hs : ti.size = 1) {b k : Nat} {arr : Array Value} {e : TypeId} (hb : w.heap[b]? = some (.cells arr e (0, 0))) {u : Value} (hu : arr[k]? = some u) :
  (loadVar t ⟨b, k, none⟩).run P w = .ok u w := by
 refine loadVar_run hti (vs := [u]) (by rw [hs]; rfl) (fun j v hj => ?_) (.inr ⟨ha, rfl⟩)
 cases j with
 | zero =>
  simp only [List.getElem?_cons_zero, Option.some.injEq] at hj
  subst hj
  rw [add_at, cell_of_row w b _ arr e (0, 0) hb]
  simpa using hu
 | succ j => simp at hj
theorem dget_at {ta tb te tc : Ty} {xs : List (dT ta tb te tc).den} {n : Nat} {x : (dT ta tb te tc).den} (h : xs[n]? = some x) : dget xs n = dsl x := by
 unfold dget; rw [h]
theorem good_loadD (hT : TTok P cfg.tt) (hR : Rel cx σ a w pl) (hd : ∀ d, o.dst = some d → d < cx.N) {nb : Nat} {t : TypeId} {x : Operand}
  (ho : o.op = .load t x) (h : (opLoadD cfg nb o.dst t x : RM O).to σ wr) : Good P cx σ a w o wr := by
 unfold opLoadD at h
 obtain ⟨c, h1, h2⟩ := evC_to h
 have hc := opd_CR hR h1
 split at h2
 ·rename_i i sz idx off
  obtain ⟨ti, h3, h4⟩ := getTI_to h2
  have hti := hT t ti h3
  split at h4
  rotate_left
  ·exact h4.elim
  rename_i hag hs1
  have hs1 : ti.size = 1 := Nat.eq_of_beq_eq_true hs1
  simp only [RM.to] at h4
  obtain ⟨_, B, hB, hB2⟩ := hc
  rw [hB] at h4
  cases B with
  | obj kk xs =>
   cases kk with
   | map _ _ => exact h4.elim
   | mapS _ _ => exact h4.elim
   | deep ta tb te tc =>
    obtain ⟨xs, rfl⟩ : ∃ xs' : List (dT ta tb te tc).den, xs' = xs := ⟨xs, rfl⟩
    simp only at h4
    split at h4
    rotate_left
    ·exact h4.elim
    rename_i ho1 ho2
    have ho1 : off = ta.sz + tb.sz := Nat.eq_of_beq_eq_true ho1
    have ho2 : sz = (dT ta tb te tc).sz := Nat.eq_of_beq_eq_true ho2
    obtain ⟨hn, h64, h5⟩ := fresh_to h4
    cases h5
    obtain ⟨b, n, cp, f, hp, hlt, he⟩ := hB2 rfl
    obtain ⟨v, f', hp', h0, p, ps, q1, q2, q3, q4, q5⟩ := hR.mem.blocks i _ hB
    rw [hp] at hp'
    cases hp'
    cases p with
    | nil => cases q2.1
    | obj v f => exact q2.elim
    | «at» bb cap =>
    cases q2
    obtain ⟨arr, e', r1, r2, r3, r4, r5⟩ := q3
    obtain ⟨y, hy⟩ : ∃ y, xs[idx]? = some y := ⟨_, List.getElem?_eq_getElem hlt⟩
    obtain ⟨cs, hent, hcs⟩ := r5 idx y hy
    obtain ⟨u, hu1, q, g1, g2, g3⟩ := dent_at hent
    have hcell := hcs _ _ hu1
    have hrun : (execOp a.eval o).run P w = .ok (.value u) w := by
     have := load1_run (t := t) hti hag hs1 r1 hcell
     rw [← Nat.add_assoc] at this
     have he' : a.eval x = .pointer (some ⟨b, idx * (dT ta tb te tc).sz + ta.sz + tb.sz, none⟩) := by rw [he, ho1, ho2, Nat.add_assoc]
     simp only [execOp, ho, he', Instr.loadAt, Instr.sureAddr, Sem.run_bind, Sem.run_pure, Result.andThen_ok, this]
    have hne : i ≠ nb := fun e => by rw [e, hn] at hB; cases hB
    obtain ⟨d1, d2⟩ := Disj_drop q5.2 g1
    let pl' := plus (plus pl i (.obj (.slice (some ⟨b, 0, none⟩) xs.length cp) (fun z => z = b ∨ ∃ q' ∈ ps.set idx .nil, q'.fp z))) nb q
    let bk' : List (Nat × Blk O) := (nb, .row te (dget xs idx)) :: (i, .hoD ta tb te tc xs idx nb) :: σ.bk
    have p1 : pl' nb = q := plus_same _ _ _
    have p2 : pl' i = .obj (.slice (some ⟨b, 0, none⟩) xs.length cp) (fun z => z = b ∨ ∃ q' ∈ ps.set idx .nil, q'.fp z) := by simp only [pl']; rw [plus_other _ _ hne, plus_same]
    have p3 : ∀ j, j ≠ nb → j ≠ i → pl' j = pl j := fun j h1 h2 => by simp only [pl']; rw [plus_other _ _ h1, plus_other _ _ h2]
    have l1 : look bk' nb = some (.row te (dget xs idx)) := by simp only [bk', look_cons, if_pos]
    have l2 : look bk' i = some (.hoD ta tb te tc xs idx nb) := by simp only [bk', look_cons]; rw [if_neg (fun e => hne e.symm), if_pos trivial]
    have l3 : ∀ j, j ≠ nb → j ≠ i → look bk' j = look σ.bk j := fun j h1 h2 => by simp only [bk', look_cons]; rw [if_neg (fun e => h1 e.symm), if_neg (fun e => h2 e.symm)]
    have hli : liveAt σ.bk i := ⟨_, hB, trivial⟩
    have hqf : ∀ z, q.fp z → f z := fun z hz => (q4 z).2 (.inr ⟨q, List.mem_of_getElem? g1, hz⟩)
    have hsf : ∀ z, (z = b ∨ ∃ q' ∈ ps.set idx .nil, q'.fp z) → f z := by
     rintro z (rfl | ⟨q', hq', hz⟩)
     ·exact (q4 _).2 (.inl rfl)
     ·rcases List.mem_or_eq_of_mem_set hq' with hq' | rfl
      ·exact (q4 z).2 (.inr ⟨q', hq', hz⟩)
      ·exact hz.elim
    have hone : u.oneCell' = true := by
     cases q with
     | nil => rw [g3.1]; rfl
     | «at» b c => rw [show u = _ from g3]; rfl
     | obj v f => exact g3.elim
    have hk : Keeps σ.bk bk' pl pl' := by
     intro j Bj hj
     have hjn : j ≠ nb := fun e => by rw [e, hn] at hj; cases hj
     by_cases hji : j = i
     ·subst hji
      exact ⟨by rw [hp, p2]; exact ⟨_, rfl⟩, _, l2, (by rintro t n ⟨ys, h | h, _⟩ <;> cases h), (fun ⟨_, h⟩ => by cases h), fun _ => by rw [hB] at hj; cases hj; rfl⟩
     ·exact ⟨by rw [p3 j hjn hji]; exact Pl.same_refl _, Bj, by rw [l3 j hjn hji]; exact hj, fun _ _ h => h, id, id⟩
    have hcu : ∀ (w' : World) (R' : Nat → Prop), CR w' R' bk' pl' (.own nb) u := fun w' R' => ⟨hone, _, l1, fun t n hr => by
     obtain ⟨zs, hz1 | hz1, hz2⟩ := hr <;> cases hz1
     rw [p1, ← hz2, dget_at hy]
     exact g3⟩
    have hM := mem_gen hR.mem (w' := w) (bk' := bk') (pl' := pl') (fun j => j = nb ∨ j = i) (Ext.refl _ _) (fun _ _ _ => rfl) hk ?_ ?_ ?_ ?_ ?_ ?_
    ·exact good_value (v := u) (w' := w) (pl' := pl') hrun (rel_gen hR hM hk hd (s := .t (.one (.own nb))) (hcu w (RO cx w bk' pl')))
    ·intro j Bj hj hu'
     simp only [not_or] at hu'
     exact ⟨by rw [l3 j hu'.1 hu'.2] at hj; exact hj, p3 j hu'.1 hu'.2⟩
    ·rintro j (rfl | rfl) _ z hz
     ·rw [p1] at hz
      exact ⟨(hR.mem.bound i hli z (by rw [hp]; exact hqf z hz)).1, .inr ⟨i, .inr rfl, hli, by rw [hp]; exact hqf z hz⟩⟩
     ·rw [p2] at hz
      exact ⟨(hR.mem.bound j hli z (by rw [hp]; exact hsf z hz)).1, .inr ⟨j, .inr rfl, hli, by rw [hp]; exact hsf z hz⟩⟩
    ·have hdj : ∀ z, q.fp z → ¬ (z = b ∨ ∃ q' ∈ ps.set idx .nil, q'.fp z) := by
      rintro z hz (rfl | ⟨q', hq', hz'⟩)
      ·exact q5.1 q (List.mem_of_getElem? g1) _ rfl hz
      ·exact d2 q' hq' z hz hz'
     rintro j k (rfl | rfl) (rfl | rfl) _ _ hjk z hz hz'
     ·exact hjk rfl
     ·rw [p1] at hz; rw [p2] at hz'; exact hdj z hz hz'
     ·rw [p2] at hz; rw [p1] at hz'; exact hdj z hz' hz
     ·exact hjk rfl
    ·rintro hRO hRw j Bj (rfl | rfl) hj
     ·rw [l1] at hj
      cases hj
      refine ⟨h0, ?_⟩
      rw [p1, dget_at hy]
      exact RowAt_mono hRO hRw (Pl.same_refl _) (fun _ _ => rfl) g2
     ·rw [l2] at hj
      cases hj
      have hil : idx < ps.length := by rw [q1]; exact hlt
      refine ⟨h0, _, _, .at b cp, ps.set idx .nil, p2, by rw [List.length_set]; exact q1, List.getElem?_set_self hil, rfl, ⟨arr, e', r1, r2, r3, r4, fun k z hz => ?_⟩, fun z => Iff.rfl, ⟨fun q' hq' z hz hz' => ?_, d1⟩⟩
      ·obtain ⟨cs', ⟨v1, v2, u', v4, k1, k2, k3, k4, k5⟩, k6⟩ := r5 k z hz
       refine ⟨cs', ⟨v1, v2, u', v4, k1, Rep_mono hRO hRw _ _ _ k2, Rep_mono hRO hRw _ _ _ k3, ⟨fun hkn => ?_, fun hkn => ?_⟩, Rep_mono hRO hRw _ _ _ k5⟩, k6⟩
       ·subst hkn
        have e1 : some z = some y := hz.symm.trans hy
        cases e1
        have : some u' = some u := by
         have e2 : cs'[ta.sz + tb.sz]? = some u' := by
          rw [k1, List.getElem?_append_right (by rw [Rep_len _ _ _ k2]; omega), List.getElem?_append_right (by rw [Rep_len _ _ _ k2, Rep_len _ _ _ k3]; omega), Rep_len _ _ _ k2, Rep_len _ _ _ k3,
           show ta.sz + tb.sz - ta.sz - tb.sz = 0 by omega]
          rfl
         rw [← k6 _ _ e2]
         exact hcell
        cases this
        exact hcu _ _
       ·obtain ⟨q', m1, m2, m3⟩ := k4
        exact ⟨q', by rw [List.getElem?_set_ne (Ne.symm hkn)]; exact m1, RowAt_mono hRO hRw (Pl.same_refl _) (fun _ _ => rfl) m2, m3⟩
      ·rcases List.mem_or_eq_of_mem_set hq' with hq' | rfl
       ·exact q5.1 q' hq' z hz hz'
       ·exact hz'.elim
    ·rintro hRO j t' ys (rfl | rfl) hj
     ·rw [l1] at hj; cases hj
     ·rw [l2] at hj; cases hj
    ·rintro j (rfl | rfl) hj
     ·exact h64
     ·rw [hB] at hj; cases hj
  | hoD ta tb te tc xs m j =>
   simp only at h4
   split at h4
   rotate_left
   ·exact h4.elim
   rename_i ho1 ho2
   have ho1 : off = ta.sz + tb.sz := Nat.eq_of_beq_eq_true ho1
   have ho2 : sz = (dT ta tb te tc).sz := Nat.eq_of_beq_eq_true ho2
   obtain ⟨hm, h5⟩ := h4
   have hm : idx = m := of_decide_eq_true hm
   subst hm
   obtain ⟨b, n, cp, f, hp, hlt, he⟩ := hB2 rfl
   obtain ⟨h0, v, f', p, ps, hp', q1, q6, q2, q3, q4, q5⟩ := hR.mem.blocks i _ hB
   rw [hp] at hp'
   cases hp'
   cases p with
   | nil => cases q2.1
   | obj v f => exact q2.elim
   | «at» bb cap =>
   cases q2
   obtain ⟨arr, e', r1, r2, r3, r4, r5⟩ := q3
   obtain ⟨y, hy⟩ : ∃ y, xs[idx]? = some y := ⟨_, List.getElem?_eq_getElem hlt⟩
   obtain ⟨cs, hent, hcs⟩ := r5 idx y hy
   obtain ⟨u, hu1, g1, _⟩ := dent_at hent
   have hcell := hcs _ _ hu1
   have he' : a.eval x = .pointer (some ⟨b, idx * (dT ta tb te tc).sz + ta.sz + tb.sz, none⟩) := by rw [he, ho1, ho2, Nat.add_assoc]
   have := load1_run (t := t) hti hag hs1 r1 hcell
   rw [← Nat.add_assoc] at this
   rw [ret1_to h5]
   refine good_put hR hd (v := u) ?_ (g1 rfl)
   simp only [execOp, ho, he', Instr.loadAt, Instr.sureAddr, Sem.run_bind, Sem.run_pure, Result.andThen_ok, this]
  | _ => exact h4.elim
 ·exact good_loadA hT hR hd ho h2
theorem mem_kill (hR : Rel cx σ a w pl) {nb : Nat} (hn : look σ.bk nb = none) (h64 : 64 ≤ nb) {is : List Nat} (his : ∀ i ∈ is, 64 ≤ i ∧ liveAt σ.bk i)
  {w' : World} {p : Pl} {B : Blk O} (hlive : B.live) (hx : Ext (fun b => ∀ i ∈ is, ¬ (pl i).fp b) w w') (hp : ∀ b, p.fp b → b < w'.heap.size ∧ (w.heap.size ≤ b ∨ ∃ i ∈ is, (pl i).fp b))
  (hB : (∀ b, RO cx w σ.bk pl b → RO cx w' ((nb, B) :: (deads is ++ σ.bk)) (plus pl nb p) b) → (∀ b, RO cx w σ.bk pl b → w'.heap[b]? = w.heap[b]?) →
   BR w' (RO cx w' ((nb, B) :: (deads is ++ σ.bk)) (plus pl nb p)) ((nb, B) :: (deads is ++ σ.bk)) (plus pl nb p) nb B) :
  (Mem cx w' ((nb, B) :: (deads is ++ σ.bk)) (plus pl nb p) ∧ (∀ b, RO cx w σ.bk pl b → RO cx w' ((nb, B) :: (deads is ++ σ.bk)) (plus pl nb p) b) ∧
   (∀ b, RO cx w σ.bk pl b → w'.heap[b]? = w.heap[b]?)) ∧ Keeps σ.bk ((nb, B) :: (deads is ++ σ.bk)) pl (plus pl nb p) := by
 have hni : ∀ i ∈ is, i ≠ nb := fun i hi e => by obtain ⟨B', hB', _⟩ := (his i hi).2; rw [e, hn] at hB'; cases hB'
 have lk : ∀ j, look ((nb, B) :: (deads is ++ σ.bk)) j = if nb = j then some B else if j ∈ is then some .dead else look σ.bk j := fun j => by
  rw [look_cons, look_append, look_deads]
  split
  ·rfl
  ·split <;> simp
 have hk : Keeps σ.bk ((nb, B) :: (deads is ++ σ.bk)) pl (plus pl nb p) := by
  intro j Bj hj
  have hjn : j ≠ nb := fun e => by rw [e, hn] at hj; cases hj
  refine ⟨by rw [plus_other _ _ hjn]; exact Pl.same_refl _, ?_⟩
  rw [lk, if_neg (fun e => hjn e.symm)]
  by_cases e : j ∈ is
  ·rw [if_pos e]
   exact ⟨_, rfl, (by rintro t n ⟨ys, h | h, _⟩ <;> cases h), (fun ⟨_, h⟩ => by cases h), (fun h => by cases h)⟩
  ·rw [if_neg e]
   exact ⟨Bj, hj, fun _ _ h => h, id, id⟩
 have dead : ∀ i ∈ is, ¬ liveAt ((nb, B) :: (deads is ++ σ.bk)) i := by
  rintro i hi ⟨Bj, h1, h2⟩
  rw [lk, if_neg (fun e => hni i hi e.symm), if_pos hi] at h1
  cases h1
  exact h2.elim
 refine ⟨mem_gen hR.mem (fun j => j = nb ∨ j ∈ is) (hx.mono fun _ _ h => h.elim) ?_ hk ?_ ?_ ?_ ?_ ?_ ?_, hk⟩
 ·intro b hb h
  exact hx.keep b hb fun i hi => h i (.inr hi) (his i hi).2
 ·intro j Bj hj hu
  have h1 : j ≠ nb := fun e => hu (.inl e)
  have h2 : j ∉ is := fun e => hu (.inr e)
  rw [lk, if_neg (fun e => h1 e.symm), if_neg h2] at hj
  exact ⟨hj, plus_other _ _ h1⟩
 ·rintro j (rfl | hj) hl b hb
  ·rw [plus_same] at hb
   obtain ⟨h1, h2⟩ := hp b hb
   refine ⟨h1, ?_⟩
   rcases h2 with h2 | ⟨i, hi, h2⟩
   ·exact .inl h2
   ·exact .inr ⟨i, .inr hi, (his i hi).2, h2⟩
  ·exact absurd hl (dead j hj)
 ·rintro j k (rfl | hj) (rfl | hk') hl hl' hjk
  ·exact absurd rfl hjk
  ·exact absurd hl' (dead k hk')
  ·exact absurd hl (dead j hj)
  ·exact absurd hl (dead j hj)
 ·rintro hRO hRw j Bj (rfl | hj') hj
  ·rw [lk, if_pos rfl] at hj
   cases hj
   exact hB hRO hRw
  ·rw [lk, if_neg (fun e => hni j hj' e.symm), if_pos hj'] at hj
   cases hj
   trivial
 ·rintro hRO j t' ys (rfl | hj') hj
  ·rw [lk, if_pos rfl] at hj
   cases hj
   exact hlive.elim
  ·rw [lk, if_neg (fun e => hni j hj' e.symm), if_pos hj'] at hj
   cases hj
 ·rintro j (rfl | hj) _
  ·exact h64
  ·exact (his j hj).1
theorem append_cells {t e : TypeId} {ei : TI} {ty : Ty} (hu : P.underlying t = some (.slice e)) (he : TIok P e ei) (hty : ei.ty = some ty) (hz : 0 < ty.sz) {ty' : TypeId} {p : Pl} {n m : Nat} {ux : Value} (hux : ownV p n ux)
  {old : Nat → Option Value} (hrow : ∀ b cap, p = .at b cap → ∃ arr e', w.heap[b]? = some (.cells arr e' (0, 0)) ∧ arr.size = cap * ty.sz ∧ n ≤ cap ∧ cap ≤ maxLen ∧ ∀ k v, k < n * ty.sz → old k = some v → arr[k]? = some v)
  {A : Option Addr} {c : Nat} {news : List Value} (hA : 0 < m → ∃ ad, A = some ad) (hnl : news.length = m * ty.sz) (hn1 : ∀ v ∈ news, v.oneCell' = true)
  (hnc : ∀ ad, A = some ad → ∀ k v, news[k]? = some v → w.cell? (ad.add k) = some v) (b1 : (n + m) * ei.bytes ≤ LIM) (b2 : n + m ≤ LIM) :
  ∃ (p' : Pl) (w' : World) (v' : Value), (Builtin.append_ #[t, t] ty' #[ux, .slice A m c]).run P w = .ok v' w' ∧ Ext (fun b => ¬ p.fp b) w w' ∧ (∀ b, p'.fp b → b < w'.heap.size ∧ (w.heap.size ≤ b ∨ p.fp b)) ∧
   v'.oneCell' = true ∧ ownV p' (n + m) v' ∧
   ((p' = .nil ∧ n + m = 0) ∨ ∃ b cap arr e', p' = .at b cap ∧ w'.heap[b]? = some (.cells arr e' (0, 0)) ∧ arr.size = cap * ty.sz ∧ n + m ≤ cap ∧ cap ≤ maxLen ∧
    (∀ k v, k < n * ty.sz → old k = some v → arr[k]? = some v) ∧ ∀ k v, news[k]? = some v → arr[n * ty.sz + k]? = some v) := by
 obtain ⟨i0, z, q1, q2, q3, q4⟩ := info_of he
 have hsz : ty.sz = ei.size := he.size ty hty
 have hzc : z.cells.size = ty.sz := by
  obtain ⟨i', z', g1, g2, g3, g4, g5⟩ := he.info
  rw [q1] at g1
  cases g1
  rw [q4] at g4
  cases g4
  have := Rep_len _ _ _ (he.zero ty hty w (fun _ => True))
  rw [← g5] at this
  simpa using this
 cases p with
 | obj v f => exact hux.elim
 | nil =>
  obtain ⟨hx', hn⟩ := hux
  subst hn
  simp only [LIM, Nat.zero_add] at b1 b2
  by_cases hpos : 0 < m
  ·obtain ⟨ad, rfl⟩ := hA hpos
   have hr := run_append_nil (P := P) w t ty' e i0 z hu q1 q4 ad m c news (by rw [q2, ← hsz]; exact hnl) (hnc ad rfl) hpos (by omega) (by rw [q3]; omega)
   have hcap := grownCap_ge w m 0 e
   have hcapm := grownCap_le_maxLen w m 0 e (by simp only [maxLen]; omega)
   refine ⟨.at w.heap.size (grownCap w m 0 e), _, _, by rw [hx']; exact hr, ((Ext.drew w).trans (Ext.alloc _ _)).mono fun _ _ _ => trivial, fun b hb => by cases hb; exact ⟨by simp, .inl (Nat.le_refl _)⟩, rfl, by rw [Nat.zero_add]; rfl, .inr ⟨_, _, _, e, rfl, heap_alloc_new w.drew _, ?_, by omega, hcapm, fun k v hk => by omega, fun k v hv => ?_⟩⟩
   ·simp only [Array.size_append, List.size_toArray, hnl, size_zeroCells, hzc, ← Nat.add_mul]
    congr 1; omega
   ·rw [Nat.zero_mul, Nat.zero_add, Array.getElem?_append_left (by simpa using (List.getElem?_eq_some_iff.1 hv).1)]
    simpa using hv
  ·obtain rfl : m = 0 := by omega
   obtain rfl : news = [] := List.eq_nil_of_length_eq_zero (by simpa using hnl)
   refine ⟨.nil, w, .slice none 0 0, ?_, Ext.refl _ _, fun b hb => hb.elim, rfl, ⟨rfl, rfl⟩, .inl ⟨rfl, rfl⟩⟩
   have hf := firstCells_run (P := P) (c := c) ei.size 0 hA (by simp) (Nat.le_refl _) hnc
   rw [hx']
   simp [Builtin.append_, run_underlying hu, sizeOf, typeInfo, q1, q2, Builtin.lenOf, hf]
 | «at» b cap =>
  obtain ⟨arr, e', g1, g2, g3, g4, g5⟩ := hrow b cap rfl
  have hux : ux = .slice (some ⟨b, 0, none⟩) n cap := hux
  simp only [LIM] at b1 b2
  have hxl : n * ty.sz ≤ arr.size := by rw [g2]; exact Nat.mul_le_mul_right _ g3
  by_cases hroom : n + m ≤ cap
  ·have hfit : n * ei.size + news.length ≤ arr.size := by
    rw [hnl, g2, ← hsz, ← Nat.add_mul]; exact Nat.mul_le_mul_right _ hroom
   have hr := append_room_run (P := P) hu he (ty' := ty') g1 (cap := cap) (n := n) (c := c) hA (by rw [← hsz]; exact hnl) hnc hn1 hroom hfit
   obtain ⟨L, hL⟩ : ∃ L : List Value, L = arr.toList.take (n * ei.size) ++ news ++ arr.toList.drop (n * ei.size + news.length) := ⟨_, rfl⟩
   rw [← hL] at hr
   have hLn : L = arr.toList.take (n * ei.size) ++ (news ++ arr.toList.drop (n * ei.size + news.length)) := by rw [hL, List.append_assoc]
   refine ⟨.at b cap, w.setRow b L.toArray, .slice (some ⟨b, 0, none⟩) (n + m) cap, by rw [hux]; exact hr, setRow_Ext w b _, ?_, rfl, rfl, .inr ⟨b, cap, _, e', rfl, setRow_heap w b arr _ e' (0, 0) g1, ?_, hroom, g4, ?_, ?_⟩⟩
   ·intro x hx; cases hx
    have := (Array.getElem?_eq_some_iff.1 g1).1
    exact ⟨by simpa using this, .inr rfl⟩
   ·rw [List.size_toArray, hL, ← g2]
    simp only [List.length_append, List.length_take, List.length_drop, Array.length_toList]
    omega
   ·intro k v hk hv
    rw [List.getElem?_toArray, hLn, splice_get (by simpa using hfit), if_pos (by rw [← hsz]; exact hk)]
    simpa using g5 k v hk hv
   ·intro k v hv
    have hk := (List.getElem?_eq_some_iff.1 hv).1
    rw [List.getElem?_toArray, hLn, splice_get (by simpa using hfit), if_neg (by rw [hsz]; omega), if_pos (by rw [hsz]; omega), hsz, show n * ei.size + k - n * ei.size = k by omega]
    exact hv
  ·have hpos : 0 < m := by omega
   obtain ⟨ad, rfl⟩ := hA hpos
   obtain ⟨olds, hol⟩ : ∃ olds : List Value, olds = arr.toList.take (n * ty.sz) := ⟨_, rfl⟩
   have holl : olds.length = n * ty.sz := by
    have hals : arr.toList.length = arr.size := by simp
    rw [hol, List.length_take, hals]; omega
   have hold : ∀ k, k < n * ty.sz → olds[k]? = arr[k]? := fun k hk => by rw [hol, List.getElem?_take, if_pos hk]; simp
   have hr := run_append_grow (P := P) w t ty' e i0 z hu q1 q4 ⟨b, 0, none⟩ n cap olds (by rw [q2, ← hsz]; exact holl)
    (fun j v hj => by
     rw [add_at, cell_of_row w b _ arr e' (0, 0) g1, Nat.zero_add, ← hold j (by rw [← holl]; exact (List.getElem?_eq_some_iff.1 hj).1)]
     exact hj)
    ad m c news (by rw [q2, ← hsz]; exact hnl) (hnc ad rfl) (by omega) (by omega) (by rw [q3]; exact growslice_fits (by omega) b1)
   have hcap := grownCap_ge w (n + m) cap e
   have hcapm := grownCap_le_maxLen w (n + m) cap e (by simp only [maxLen]; omega)
   refine ⟨.at w.heap.size (grownCap w (n + m) cap e), _, _, by rw [hux]; exact hr, ((Ext.drew w).trans (Ext.alloc _ _)).mono fun _ _ _ => trivial, fun x hx => by cases hx; exact ⟨by simp, .inl (Nat.le_refl _)⟩, rfl, rfl,
    .inr ⟨_, _, _, e, rfl, heap_alloc_new w.drew _, ?_, hcap, hcapm, ?_, ?_⟩⟩
   ·simp only [Array.size_append, List.size_toArray, hnl, holl, size_zeroCells, hzc, ← Nat.add_mul]
    congr 1; omega
   ·intro k v hk hv
    rw [Array.append_assoc, Array.getElem?_append_left (by rw [List.size_toArray, holl]; exact hk)]
    simp only [List.getElem?_toArray]
    rw [hold k hk]
    exact g5 k v hk hv
   ·intro k v hv
    have hk := (List.getElem?_eq_some_iff.1 hv).1
    rw [Array.append_assoc, Array.getElem?_append_right (by rw [List.size_toArray, holl]; omega), Array.getElem?_append_left (by rw [List.size_toArray, List.size_toArray, holl]; omega)]
    simp only [List.getElem?_toArray, List.size_toArray, holl, Nat.add_sub_cancel_left]
    exact hv
theorem dent_len {R : Nat → Prop} {ta tb te tc : Ty} {S : List te.den → Value → Prop} {x : (dT ta tb te tc).den} {cs : List Value} (h : DEnt w R ta tb te tc S x cs) : cs.length = (dT ta tb te tc).sz := by
 obtain ⟨v1, v2, u, v4, e, h1, h2, h3, h4⟩ := h
 subst e
 simp only [List.length_append, List.length_cons, Rep_len _ _ _ h1, Rep_len _ _ _ h2, Rep_len _ _ _ h4]
 show _ = Nat.add ta.sz (Nat.add tb.sz (Nat.add 1 tc.sz))
 simp only [Nat.add_eq]; omega
theorem Disj_app : ∀ {ps qs : List Pl}, Disj ps → Disj qs → (∀ p ∈ ps, ∀ q ∈ qs, ∀ b, p.fp b → ¬ q.fp b) → Disj (ps ++ qs)
 | [], _, _, h, _ => h
 | p :: ps, qs, h, h', hc => ⟨fun q hq b hb => by
   rcases List.mem_append.1 hq with hq | hq
   ·exact h.1 q hq b hb
   ·exact hc p List.mem_cons_self q hq b hb, Disj_app h.2 h' fun p' hp' => hc p' (List.mem_cons_of_mem _ hp')⟩
theorem getI {α : Type} {xs : List α} {n : Nat} {x : α} (h : xs[n]? = some x) : n < xs.length := (List.getElem?_eq_some_iff.1 h).1
theorem good_appendD (hT : TTok P cfg.tt) (hR : Rel cx σ a w pl) (hd : ∀ d, o.dst = some d → d < cx.N) {nb : Nat} {t e : TypeId} {x y : Operand} {i j : Nat} {ta tb te tc : Ty} {ei : TI} {xs ys : List (dT ta tb te tc).den}
  (ho : o.op = .call { callee := .builtin .append, args := #[x, y], argTypes := #[t, t] }) (hu : P.underlying t = some (.slice e)) (he : TIok P e ei) (hty : ei.ty = some (dT ta tb te tc)) (hz : 0 < (dT ta tb te tc).sz)
  (hx : CR w (RO cx w σ.bk pl) σ.bk pl (.obj i) (a.eval x)) (hy : CR w (RO cx w σ.bk pl) σ.bk pl (.obj j) (a.eval y))
  (hi : look σ.bk i = some (.obj (.deep ta tb te tc) xs)) (hj : look σ.bk j = some (.obj (.deep ta tb te tc) ys)) (h1 : 64 ≤ i) (h2 : 64 ≤ j) (hij : i ≠ j)
  (b1 : (xs.length + ys.length) * ei.bytes ≤ LIM) (b2 : xs.length + ys.length ≤ LIM) (hn : look σ.bk nb = none) (h64 : 64 ≤ nb) :
  Good P cx σ a w o { sl := putS o.dst (.t (.one (.obj nb))), bk := [(nb, .obj (.deep ta tb te tc) (cat xs ys)), (i, .dead), (j, .dead)] } := by
 obtain ⟨_, B, hB, hB2⟩ := hx
 rw [hi] at hB; cases hB
 obtain ⟨f, hp⟩ := hB2 rfl
 obtain ⟨v, f', hp', h0, p, ps, q1, q2, q3, q4, q5⟩ := hR.mem.blocks i _ hi
 rw [hp] at hp'; cases hp'
 obtain ⟨_, B, hB, hB2⟩ := hy
 rw [hj] at hB; cases hB
 obtain ⟨g, hq⟩ := hB2 rfl
 obtain ⟨v, g', hq', _, r, qs, r1, r2, r3, r4, r5⟩ := hR.mem.blocks j _ hj
 have hyrep := deep_rep (R' := fun _ => True) (show MapRel w (RO cx w σ.bk pl) (.deep ta tb te tc) ys v g' from ⟨h0, r, qs, r1, r2, r3, r4, r5⟩) (fun _ _ => trivial) (fun _ _ => trivial)
 rw [hq] at hq'; cases hq'
 obtain ⟨A, c, news, ey, _, hA, hnl, hn1, hnc, _⟩ := src_cells (R := fun _ => True) hyrep
 have hli : liveAt σ.bk i := ⟨_, hi, trivial⟩
 have hlj : liveAt σ.bk j := ⟨_, hj, trivial⟩
 have bi : ∀ z, f z → z < w.heap.size := fun z hz => (hR.mem.bound i hli z (by rw [hp]; exact hz)).1
 have bj : ∀ z, g z → z < w.heap.size := fun z hz => (hR.mem.bound j hlj z (by rw [hq]; exact hz)).1
 have hfg : ∀ z, f z → ¬ g z := fun z hz hz' => hR.mem.disj i j hli hlj hij z (by rw [hp]; exact hz) (by rw [hq]; exact hz')
 obtain ⟨old, hold, hx1⟩ : ∃ old : Nat → Option Value, (∀ b cap, p = .at b cap → ∃ arr e', w.heap[b]? = some (.cells arr e' (0, 0)) ∧ arr.size = cap * (dT ta tb te tc).sz ∧ xs.length ≤ cap ∧ cap ≤ maxLen ∧ ∀ k v, k < xs.length * (dT ta tb te tc).sz → old k = some v → arr[k]? = some v) ∧
   ∀ k x, xs[k]? = some x → ∃ cs, DEnt w (RO cx w σ.bk pl) ta tb te tc (ownS w (RO cx w σ.bk pl) te ps k) x cs ∧ ∀ q v, cs[q]? = some v → old (k * (dT ta tb te tc).sz + q) = some v := by
  cases p with
  | nil =>
   have q3 : xs = [] := q3
   subst q3
   exact ⟨fun _ => none, (fun b cap h => by cases h), (fun k x h => by simp at h)⟩
  | obj v f => exact q3.elim
  | «at» b cap =>
   obtain ⟨arr, e', s1, s2, s3, s4, s5⟩ := q3
   exact ⟨fun k => arr[k]?, fun b' cap' h => by cases h; exact ⟨arr, e', s1, s2, s3, s4, fun _ _ _ h => h⟩, s5⟩
 have hy1 : ∀ k x, ys[k]? = some x → ∃ cs, DEnt w (RO cx w σ.bk pl) ta tb te tc (ownS w (RO cx w σ.bk pl) te qs k) x cs ∧ ∀ q v, cs[q]? = some v → news[k * (dT ta tb te tc).sz + q]? = some v := by
  intro k x hk
  cases r with
  | nil =>
   have r3 : ys = [] := r3
   subst r3
   simp at hk
  | obj v f => exact r3.elim
  | «at» b cap =>
   obtain ⟨arr, e', s1, s2, s3, s4, s5⟩ := r3
   have hv : a.eval y = .slice (some ⟨b, 0, none⟩) ys.length cap := r2
   rw [hv] at ey
   cases ey
   obtain ⟨cs, k1, k2⟩ := s5 k x hk
   refine ⟨cs, k1, fun q v hq => ?_⟩
   have hqs : q < (dT ta tb te tc).sz := by rw [← dent_len k1]; exact getI hq
   have hlt : k * (dT ta tb te tc).sz + q < news.length := by
    rw [hnl]
    have : (k + 1) * (dT ta tb te tc).sz ≤ ys.length * (dT ta tb te tc).sz := Nat.mul_le_mul_right _ (getI hk)
    rw [Nat.add_mul, Nat.one_mul] at this
    omega
   have h3 := hnc _ rfl _ _ (List.getElem?_eq_getElem hlt)
   rw [add_at, cell_of_row w b _ arr e' (0, 0) s1, Nat.zero_add, k2 q v hq] at h3
   rw [List.getElem?_eq_getElem hlt]
   exact h3.symm
 obtain ⟨p', w', v', hrun, hext, hpf, hone, hov, hcells⟩ := append_cells (P := P) (w := w) hu he hty hz (ty' := o.type) q2 hold hA hnl hn1 hnc b1 b2
 have exec : (execOp a.eval o).run P w = .ok (.value v') w' := by
  simp only [execOp, ho, resolve, invoke, builtin, Sem.run_bind, Sem.run_pure, Result.andThen_ok, List.map_toArray, List.map_cons, List.map_nil, ey]
  rw [hrun]
  rfl
 have hpsf : ∀ q ∈ ps, ∀ z, q.fp z → f z := fun q hq' z hz => (q4 z).2 (.inr ⟨q, hq', hz⟩)
 have hqsf : ∀ q ∈ qs, ∀ z, q.fp z → g z := fun q hq' z hz => (r4 z).2 (.inr ⟨q, hq', hz⟩)
 have hpff : ∀ z, p.fp z → f z := fun z hz => (q4 z).2 (.inl hz)
 have keepP : ∀ q ∈ ps, ∀ z, q.fp z → w'.heap[z]? = w.heap[z]? := fun q hq' z hz => hext.keep z (bi z (hpsf q hq' z hz)) fun h => q5.1 q hq' z h hz
 have keepQ : ∀ q ∈ qs, ∀ z, q.fp z → w'.heap[z]? = w.heap[z]? := fun q hq' z hz => hext.keep z (bj z (hqsf q hq' z hz)) fun h => hfg z (hpff z h) (hqsf q hq' z hz)
 have hM := mem_kill hR hn h64 (is := [i, j]) (p := .obj v' (fun z => p'.fp z ∨ ∃ q ∈ ps ++ qs, q.fp z)) (B := .obj (.deep ta tb te tc) (cat xs ys)) (w' := w') (by
   intro k hk
   rcases List.mem_cons.1 hk with rfl | hk
   ·exact ⟨h1, hli⟩
   ·rw [List.mem_singleton.1 hk]; exact ⟨h2, hlj⟩) trivial
  (hext.mono fun z _ h hz => h i List.mem_cons_self (by rw [hp]; exact hpff z hz)) (by
   rintro z (hz | ⟨q, hq', hz⟩)
   ·obtain ⟨s1, s2⟩ := hpf z hz
    refine ⟨s1, ?_⟩
    rcases s2 with s2 | s2
    ·exact .inl s2
    ·exact .inr ⟨i, List.mem_cons_self, by rw [hp]; exact hpff z s2⟩
   ·rcases List.mem_append.1 hq' with hq' | hq'
    ·exact ⟨Nat.lt_of_lt_of_le (bi z (hpsf q hq' z hz)) hext.size, .inr ⟨i, List.mem_cons_self, by rw [hp]; exact hpsf q hq' z hz⟩⟩
    ·exact ⟨Nat.lt_of_lt_of_le (bj z (hqsf q hq' z hz)) hext.size, .inr ⟨j, List.mem_cons_of_mem _ (List.mem_singleton.2 rfl), by rw [hq]; exact hqsf q hq' z hz⟩⟩)
  (fun hRO hRw => by
   have hcl : (cat xs ys).length = xs.length + ys.length := by simp [cat]
   refine ⟨v', _, plus_same _ _ _, h0, p', ps ++ qs, ?_, ?_, ?_, fun z => Iff.rfl, ⟨?_, Disj_app q5.2 r5.2 fun p1 hp1 q1 hq1 z hz hz' => hfg z (hpsf p1 hp1 z hz) (hqsf q1 hq1 z hz')⟩⟩
   ·show (ps ++ qs).length = (cat xs ys).length
    rw [hcl, List.length_append, q1, r1]
   ·show ownV p' (cat xs ys).length v'
    rw [hcl]; exact hov
   ·rcases hcells with ⟨rfl, hl0⟩ | ⟨b, cap, arr, e', rfl, s1, s2, s3, s4, s5, s6⟩
    ·show cat xs ys = []
     exact List.eq_nil_of_length_eq_zero (by rw [hcl]; exact hl0)
    ·refine ⟨arr, e', s1, s2, by rw [show List.length _ = _ from hcl]; exact s3, s4, fun k z hk => ?_⟩
     have hk : (xs ++ ys)[k]? = some z := hk
     by_cases hlt : k < xs.length
     ·rw [List.getElem?_append_left hlt] at hk
      obtain ⟨cs, ⟨v1, v2, u, v4, k1, k2, k3, ⟨q, m1, m2, m3⟩, k5⟩, k6⟩ := hx1 k z hk
      have hlen := dent_len (S := fun _ _ => True) (x := z) ⟨v1, v2, u, v4, k1, k2, k3, trivial, k5⟩
      refine ⟨cs, ⟨v1, v2, u, v4, k1, Rep_mono hRO hRw _ _ _ k2, Rep_mono hRO hRw _ _ _ k3, ⟨q, by rw [List.getElem?_append_left (getI m1)]; exact m1, RowAt_mono hRO hRw (Pl.same_refl _) (keepP q (List.mem_of_getElem? m1)) m2, m3⟩, Rep_mono hRO hRw _ _ _ k5⟩, fun q' v hq' => s5 _ v ?_ (k6 q' v hq')⟩
      have hqs : q' < (dT ta tb te tc).sz := by rw [← hlen]; exact getI hq'
      have : (k + 1) * (dT ta tb te tc).sz ≤ xs.length * (dT ta tb te tc).sz := Nat.mul_le_mul_right _ hlt
      rw [Nat.add_mul, Nat.one_mul] at this
      omega
     ·rw [List.getElem?_append_right (by omega)] at hk
      obtain ⟨cs, ⟨v1, v2, u, v4, k1, k2, k3, ⟨q, m1, m2, m3⟩, k5⟩, k6⟩ := hy1 _ z hk
      refine ⟨cs, ⟨v1, v2, u, v4, k1, Rep_mono hRO hRw _ _ _ k2, Rep_mono hRO hRw _ _ _ k3, ⟨q, by rw [List.getElem?_append_right (by rw [q1]; exact Nat.le_of_not_lt hlt), q1]; exact m1, RowAt_mono hRO hRw (Pl.same_refl _) (keepQ q (List.mem_of_getElem? m1)) m2, m3⟩, Rep_mono hRO hRw _ _ _ k5⟩, fun q' v hq' => ?_⟩
      have := s6 _ v (k6 q' v hq')
      have e1 : k * (dT ta tb te tc).sz = xs.length * (dT ta tb te tc).sz + (k - xs.length) * (dT ta tb te tc).sz := by rw [← Nat.add_mul]; congr 1; omega
      rw [e1, Nat.add_assoc]
      exact this
   ·intro q hq' z hz hz'
    rcases (hpf z hz).2 with s | s
    ·rcases List.mem_append.1 hq' with hq' | hq'
     ·have := bi z (hpsf q hq' z hz'); omega
     ·have := bj z (hqsf q hq' z hz'); omega
    ·rcases List.mem_append.1 hq' with hq' | hq'
     ·exact q5.1 q hq' z s hz'
     ·exact hfg z (hpff z s) (hqsf q hq' z hz'))
 exact good_value exec (rel_gen hR hM.1 hM.2 hd (s := .t (.one (.obj nb))) ⟨hone, _, by rw [look_cons, if_pos rfl], fun _ => ⟨_, plus_same _ _ _⟩⟩)
theorem ctake_cells {R : Nat → Prop} {bk : List (Nat × Blk O)} {vs : List C} {us : List Value} (h : All2 (CR w R bk pl) vs us) (n : Nat) : All2 (CR w R bk pl) (ctake n vs) (us.take n) := by
 rw [ctake_eq]; exact h.take n
theorem cdrop_cells {R : Nat → Prop} {bk : List (Nat × Blk O)} {vs : List C} {us : List Value} (h : All2 (CR w R bk pl) vs us) (n : Nat) : All2 (CR w R bk pl) (cdrop n vs) (us.drop n) := by
 rw [cdrop_eq]; exact h.drop n
theorem good_buildSliceD (hT : TTok P cfg.tt) (hR : Rel cx σ a w pl) (hd : ∀ d, o.dst = some d → d < cx.N) {nb : Nat} {t n : Nat} {parts : Array (Nat × Operand)}
  (ho : o.op = .buildSlice t n parts) (h : (opBuildSliceD cfg nb o.dst t n parts : RM O).to σ wr) : Good P cx σ a w o wr := by
 unfold opBuildSliceD at h
 split at h
 rotate_left
 ·exact good_buildSlice hT hR hd ho h
 rename_i x _ hparts
 split at h
 rotate_left
 ·exact h.elim
 rename_i hn1
 have hn1 : n = 1 := Nat.eq_of_beq_eq_true hn1
 subst hn1
 obtain ⟨e, ty, ei, hu, he, hty, hz, h1⟩ := elemTI_to hT h
 split at h1
 rotate_left
 ·exact h1.elim
 rename_i ta tb te tc
 split at h1
 rotate_left
 ·exact h1.elim
 rename_i hs1 hs2
 have hs1 : (dT ta tb te tc).sz ≤ 16777216 := Nat.le_of_ble_eq_true hs1
 have h0 : 0 < te.sz := Nat.le_of_ble_eq_true hs2
 obtain ⟨v, h2, h3⟩ := evT_to h1
 split at h3
 rotate_left
 ·exact h3.elim
 rename_i vs
 obtain ⟨arr0, ev, hall⟩ := opd_TR hR h2
 split at h3
 rotate_left
 ·exact h3.elim
 rename_i i hown
 simp only [RM.to] at h3
 cases hr : rowW te (look σ.bk i) with
 | none => rw [hr] at h3; exact h3.elim
 | some ys =>
 rw [hr] at h3
 simp only at h3
 have hli := rowW_some hr
 obtain ⟨x1, f1, h4, z1, y1⟩ := ofCells_to hR _ _ _ _ h3
 obtain ⟨x2, f2, h5, z2, y2⟩ := ofCells_to hR _ _ _ _ h4
 obtain ⟨x4, f4, h6, z4, y4⟩ := ofCells_to hR _ _ _ _ h5
 split at h6
 rotate_left
 ·exact h6.elim
 rename_i hfz hmem hi64
 obtain ⟨hn, h64, h7⟩ := fresh_to h6
 cases h7
 have hi64 : 64 ≤ i := Nat.le_of_ble_eq_true hi64
 obtain ⟨us, hus⟩ : ∃ us, us = arr0.toList := ⟨_, rfl⟩
 rw [← hus] at hall
 have a1 := y1 _ (ctake_cells hall ta.sz)
 have a2 := y2 _ (ctake_cells (cdrop_cells hall ta.sz) tb.sz)
 have a4 := y4 _ (cdrop_cells (cdrop_cells (cdrop_cells hall ta.sz) tb.sz) 1)
 have a3 := ctake_cells (cdrop_cells (cdrop_cells hall ta.sz) tb.sz) 1
 rw [hown] at a3
 obtain ⟨u, hu3⟩ : ∃ u, ((us.drop ta.sz).drop tb.sz).take 1 = [u] := by
  match hq : ((us.drop ta.sz).drop tb.sz).take 1, a3 with
  | [u], _ => exact ⟨u, rfl⟩
  | [], h => exact h.elim
  | _ :: _ :: _, h => exact h.2.elim
 rw [hu3] at a3
 have hov := own_of hR (.inl hli) a3.1
 obtain ⟨_, hrow⟩ := row_of hR (.inl hli)
 have hsplit : us = us.take ta.sz ++ ((us.drop ta.sz).take tb.sz ++ (u :: ((us.drop ta.sz).drop tb.sz).drop 1)) := by
  have e1 : u :: ((us.drop ta.sz).drop tb.sz).drop 1 = ((us.drop ta.sz).drop tb.sz).take 1 ++ ((us.drop ta.sz).drop tb.sz).drop 1 := by rw [hu3]; rfl
  rw [e1, List.take_append_drop, List.take_append_drop, List.take_append_drop]
 have hulen : us.length = (dT ta tb te tc).sz := dent_len (S := fun _ _ => True) (x := (x1, x2, ys, x4)) ⟨_, _, u, _, hsplit, Rep_mono (R' := fun _ => True) (fun _ _ => trivial) (fun _ _ => rfl) _ _ _ a1, Rep_mono (fun _ _ => trivial) (fun _ _ => rfl) _ _ _ a2, trivial, Rep_mono (fun _ _ => trivial) (fun _ _ => rfl) _ _ _ a4⟩
 have hsz : (dT ta tb te tc).sz = ei.size := he.size _ hty
 obtain ⟨i0, z, q1, q2, q3, q4⟩ := info_of he
 have harr : arr0.size = (dT ta tb te tc).sz := by rw [← hulen, hus]; simp
 have hrun : (execOp a.eval o).run P w = .ok (.value (.slice (some ⟨w.heap.size, 0, none⟩) 1 1)) (w.alloc (.cells us.toArray e)) := by
  have hp : parts = #[(0, x)] := by
   obtain ⟨l⟩ := parts
   simp only at hparts
   rw [hparts]
  have hfill := Great.fill_whole hz [a.eval x] ((Array.range (1 * i0.size)).map (z.cells[· % z.cells.size]!)) (by
   intro v hv
   rw [List.mem_singleton.1 hv, ev]
   exact harr) (by simp [q2, hsz])
  have hr := run_buildSlice (P := P) w t e 1 (parts.map fun (i, x) => (i, a.eval x)) us.toArray i0 z hu q1 q4 (by rw [q2, ← hsz, Nat.one_mul]; exact Nat.not_lt.2 hs1) (by rw [q2, ← hsz, Nat.one_mul]; exact Nat.pos_iff_ne_zero.1 hz) (by
   rw [hp, q2, ← hsz]
   rw [q2, ← hsz] at hfill
   have e2 : ([a.eval x].flatMap fun v => v.cells.toList).toArray = us.toArray := by rw [ev, hus]; simp [Value.cells]
   rw [e2] at hfill
   simpa using hfill)
  simp only [execOp, ho, hr, Sem.run_bind, Result.andThen_ok, Sem.run_pure]
 obtain ⟨fz, hfzd⟩ : ∃ fz, fz = capp f1 (capp f2 f4) := ⟨_, rfl⟩
 rw [← hfzd] at hfz hmem ⊢
 have hFz : Fz σ fz := by
  rw [hfzd, capp_eq, capp_eq]
  intro p hp
  rcases List.mem_append.1 hp with hp | hp
  ·exact z1 p hp
  ·rcases List.mem_append.1 hp with hp | hp
   ·exact z2 p hp
   ·exact z4 p hp
 have m1 : ∀ b, R2 cx w σ pl f1 b → R2 cx w σ pl fz b := by
  rintro b (hb | ⟨p, hp, hb⟩)
  ·exact .inl hb
  ·exact .inr ⟨p, by rw [hfzd, capp_eq]; exact List.mem_append_left _ hp, hb⟩
 have m2 : ∀ b, R2 cx w σ pl f2 b → R2 cx w σ pl fz b := by
  rintro b (hb | ⟨p, hp, hb⟩)
  ·exact .inl hb
  ·exact .inr ⟨p, by rw [hfzd, capp_eq, capp_eq]; exact List.mem_append_right _ (List.mem_append_left _ hp), hb⟩
 have m4 : ∀ b, R2 cx w σ pl f4 b → R2 cx w σ pl fz b := by
  rintro b (hb | ⟨p, hp, hb⟩)
  ·exact .inl hb
  ·exact .inr ⟨p, by rw [hfzd, capp_eq, capp_eq]; exact List.mem_append_right _ (List.mem_append_right _ hp), hb⟩
 obtain ⟨hRf, hkf, hROf⟩ := rel_freeze hR hFz (fzOk_mem hfz)
 have hnf : look (fz ++ σ.bk) nb = none := by
  rw [look_append]
  cases hl : look fz nb with
  | none => simpa using hn
  | some B =>
   obtain ⟨t', ys, _, g⟩ := hFz (nb, B) (look_mem hl)
   simp only at g
   rcases g with g | g <;> rw [hn] at g <;> cases g
 have hif : look (fz ++ σ.bk) i = some (.row te ys) := by
  rw [look_append]
  cases hl : look fz i with
  | none => simpa using hli
  | some B =>
   exfalso
   have : memN i (fz.map (·.1)) = true := (memN_iff _ _).2 (List.mem_map.2 ⟨_, look_mem hl, rfl⟩)
   rw [hmem] at this
   cases this
 have hlivei : liveAt (fz ++ σ.bk) i := ⟨_, hif, trivial⟩
 have hx : Ext (fun _ => True) w (w.alloc (.cells us.toArray e)) := Ext.alloc _ _
 have hbi : ∀ z, (pl i).fp z → z < w.heap.size := fun z hz => (hRf.mem.bound i hlivei z hz).1
 have hM := mem_kill hRf hnf h64 (is := [i]) (p := .obj (.slice (some ⟨w.heap.size, 0, none⟩) 1 1) (fun z => (Pl.at w.heap.size 1).fp z ∨ ∃ q ∈ [pl i], q.fp z)) (B := .obj (.deep ta tb te tc) [(x1, x2, ys, x4)]) (w' := w.alloc (.cells us.toArray e))
  (fun k hk => by rw [List.mem_singleton.1 hk]; exact ⟨hi64, hlivei⟩) trivial (hx.mono fun _ _ _ => trivial) (by
   rintro z (hz | ⟨q, hq, hz⟩)
   ·have hz : z = w.heap.size := hz
    subst hz
    exact ⟨by simp, .inl (Nat.le_refl _)⟩
   ·rw [List.mem_singleton.1 hq] at hz
    exact ⟨Nat.lt_of_lt_of_le (hbi z hz) hx.size, .inr ⟨i, List.mem_cons_self, hz⟩⟩)
  (fun hRO hRw => by
   refine ⟨_, _, plus_same _ _ _, h0, .at w.heap.size 1, [pl i], rfl, rfl, ⟨us.toArray, e, heap_alloc_new w _, by rw [List.size_toArray, hulen, Nat.one_mul], Nat.le_refl _, by simp [maxLen], fun j y hj => ?_⟩, fun z => Iff.rfl, ⟨fun q hq z hz hz' => ?_, ⟨fun q hq => (by cases hq), trivial⟩⟩⟩
   ·cases j with
    | succ j => cases hj
    | zero =>
     cases hj
     have kw : ∀ b, RO cx w (fz ++ σ.bk) pl b → (w.alloc (.cells us.toArray e)).heap[b]? = w.heap[b]? := hRw
     refine ⟨us, ⟨_, _, u, _, hsplit, Rep_mono hRO kw _ _ _ (Rep_mono (fun b hb => hROf b (m1 b hb)) (fun _ _ => rfl) _ _ _ a1), Rep_mono hRO kw _ _ _ (Rep_mono (fun b hb => hROf b (m2 b hb)) (fun _ _ => rfl) _ _ _ a2), ⟨pl i, rfl, ?_, hov⟩,
      Rep_mono hRO kw _ _ _ (Rep_mono (fun b hb => hROf b (m4 b hb)) (fun _ _ => rfl) _ _ _ a4)⟩, fun q v hq => ?_⟩
     ·exact RowAt_mono hRO kw (Pl.same_refl _) (fun b hb => hx.keep b (hbi b hb) trivial) (RowAt_mono (fun b hb => hROf b (.inl hb)) (fun _ _ => rfl) (Pl.same_refl _) (fun _ _ => rfl) hrow)
     ·rw [Nat.zero_mul, Nat.zero_add, List.getElem?_toArray]; exact hq
   ·have hz : z = w.heap.size := hz
    rw [List.mem_singleton.1 hq] at hz'
    have := hbi z hz'
    omega)
 refine good_value hrun (pl' := plus pl nb (.obj (.slice (some ⟨w.heap.size, 0, none⟩) 1 1) (fun z => (Pl.at w.heap.size 1).fp z ∨ ∃ q ∈ [pl i], q.fp z))) ?_
 have hfin := rel_gen hRf hM.1 hM.2 hd (s := .t (.one (.obj nb))) (v := .slice (some ⟨w.heap.size, 0, none⟩) 1 1) ⟨rfl, _, by rw [look_cons, if_pos rfl], fun _ => ⟨_, plus_same _ _ _⟩⟩
 have e3 : σ.app { sl := putS o.dst (.t (.one (.obj nb))), bk := (nb, .obj (.deep ta tb te tc) [(x1, x2, ys, x4)]) :: (i, .dead) :: fz } =
   ⟨capp (putS o.dst (.t (.one (.obj nb)))) σ.sl, (nb, .obj (.deep ta tb te tc) [(x1, x2, ys, x4)]) :: (deads [i] ++ (fz ++ σ.bk))⟩ := by
  show (⟨_, (nb, _) :: (i, .dead) :: capp fz σ.bk⟩ : St O) = _
  rw [capp_eq fz]
  rfl
 rw [e3]
 exact hfin
end
end Go.BB
