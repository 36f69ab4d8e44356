/- A symbolic machine for the model's code, and what it shows of this seat's functions. No conditions. -/
import Derived.Test.YtnofmeckcimodaaFRunR
set_option linter.unusedSimpArgs false
set_option linter.unusedVariables false
namespace Go.BB
open Go
section
variable {O : ObjK} {cx : Cx} {σ τ : St O} {a : Act} {w : World} {pl : Nat → Pl} {cfg : Cfg O} {P : Program}

theorem rngOps_some {o1 o2 : List Oper} {c : Operand} {ti nx m pr : Tmp} {rest : List Oper} (h : rngOps o1 o2 c = some (ti, nx, m, pr, rest)) :
  ∃ x y e, o1 = [x, y] ∧ o2 = e :: rest ∧ c = .tmp m ∧ x.op = .next (.tmp ti) false ∧ x.dst = some nx ∧ x.guard = none ∧ y.op = .extract (.tmp nx) 0 ∧ y.dst = some m ∧ y.guard = none ∧
   e.op = .entry (.tmp ti) ∧ e.dst = some pr ∧ e.guard = none := by
 unfold rngOps at h
 split at h
 ·rename_i x y e rest' m'
  split at h
  ·rename_i ti1 nx1 nx2 m1 hxo hxd hxg hyo hyd hyg
   split at h
   ·rename_i ti2 pr1 heo hed heg
    split at h
    ·rename_i g1 g2 g3
     simp only [Option.some.injEq, Prod.mk.injEq] at h
     obtain ⟨rfl, rfl, rfl, rfl, rfl⟩ := h
     have e1 := Nat.eq_of_beq_eq_true g1
     have e2 := Nat.eq_of_beq_eq_true g2
     have e3 := Nat.eq_of_beq_eq_true g3
     subst e1; subst e2; subst e3
     exact ⟨x, y, e, rfl, rfl, rfl, hxo, hxd, hxg, hyo, hyd, hyg, heo, hed, heg⟩
    ·cases h
   ·cases h
  ·cases h
 ·cases h
theorem notIn_look {tm : Tm} : ∀ {xs : List Nat}, notIn tm xs = true → ∀ x ∈ xs, x ∉ tm.map (·.1)
 | [], _, x, hx => by cases hx
 | y :: ys, h, x, hx => by
  unfold notIn at h
  cases hm : memN y (tm.map (·.1)) with
  | true => rw [hm] at h; cases h
  | false =>
   rw [hm] at h
   rcases List.mem_cons.1 hx with rfl | hx
   ·intro hc
    rw [(memN_iff _ _).2 hc] at hm; cases hm
   ·exact notIn_look h x hx
theorem allLt_mem {N : Nat} : ∀ {xs : List Nat}, allLt N xs = true → ∀ x ∈ xs, x < N
 | [], _, x, hx => by cases hx
 | y :: ys, h, x, hx => by
  unfold allLt at h
  cases hm : Nat.blt y N with
  | false => rw [hm] at h; cases h
  | true =>
   rw [hm] at h
   rcases List.mem_cons.1 hx with rfl | hx
   ·exact Nat.le_of_ble_eq_true hm
   ·exact allLt_mem h x hx
theorem rngOk_some {N L : Nat} {tm : Tm} {ti nx m pr : Nat} (h : rngOk N L tm ti nx m pr = true) :
  (∀ x ∈ [ti, nx, m, pr], x ∉ tm.map (·.1)) ∧ (∀ x ∈ [ti, nx, m, pr], x < N) ∧ [ti, nx, m, pr].Nodup ∧ 64 ≤ L := by
 unfold rngOk at h
 cases h1 : notIn tm [ti, nx, m, pr] with
 | false => rw [h1] at h; cases h
 | true =>
  rw [h1] at h
  simp only at h
  cases h2 : allLt N [ti, nx, m, pr] with
  | false => rw [h2] at h; cases h
  | true =>
   rw [h2] at h
   simp only at h
   cases h3 : nodupN [ti, nx, m, pr] with
   | false => rw [h3] at h; cases h
   | true =>
    rw [h3] at h
    exact ⟨notIn_look h1, allLt_mem h2, nodupN_iff h3, Nat.le_of_ble_eq_true h⟩
theorem unpack_slots : ∀ (tm : Tm) (nb : Nat) (x : sdens tm), (unpack (O := O) nb tm x).1.map (·.1) = tm.map (·.1)
 | [], _, _ => rfl
 | s :: ss, nb, x => by
  show _ :: _ = _
  exact congrArg _ (unpack_slots ss _ x.2)
theorem unpack_no {tm : Tm} {x : sdens tm} {t : Nat} (h : t ∉ tm.map (·.1)) : look (unpackSt (O := O) tm x).sl t = none := by
 refine look_none.2 fun s hs => h ?_
 rw [← unpack_slots (O := O) tm 64 x]
 exact List.mem_map.2 ⟨(t, s), hs, rfl⟩
structure RJ (O : ObjK) (cx : Cx) (tm : Tm) (L ti itb mb clk : Nat) (ss : List Nat) (l : sdens tm) (left : List Nat) (pl : Nat → Pl) (seen : Array Nat) (c0 : Nat) (f : Nat → Prop) (es : Array MapEntry) (a : Act) (w : World) : Prop where
 rel : Rel (O := O) (privAt cx itb (.mapIter (some mb) clk seen c0)) (unpackSt (O := O) tm l) a w pl
 place : pl L = .obj (.map (some mb)) f
 heap : w.heap[mb]? = some (.map es clk)
 born : es.toList.map (·.born) = ss
 stamps : Stamps es.toList clk
 le : clk ≤ c0
 it : a.tmps.getD ti undef = .pointer (some ⟨itb, 0, none⟩)
 nodup : left.Nodup
 left : ∀ k, k ∈ left ↔ ∃ b, ss[k]? = some b ∧ b ∉ seen.toList
theorem All2.map {α β : Type} {r : α → β → Prop} {xs : List α} {ys : List β} (h : All2 r xs ys) {i : Nat} {y : β} (hy : ys[i]? = some y) : ∃ x, xs[i]? = some x ∧ r x y := by
 have hlt := (List.getElem?_eq_some_iff.1 hy).1
 rw [← h.length] at hlt
 exact ⟨xs[i], List.getElem?_eq_getElem hlt, h.get' (List.getElem?_eq_getElem hlt) hy⟩
theorem getD_of {α : Type} {xs : List α} {i : Nat} {x d : α} (h : xs[i]? = some x) : xs.getD i d = x := by rw [List.getD_eq_getElem?_getD, h]; rfl
theorem rngEnt_rel {R : Type} {L ti pr k itb mb clk : Nat} {e : MapEntry} {es : Array MapEntry} {f : Nat → Prop} {kn : St O → Option R} {r : R} (hR : Rel cx σ a w pl) (hh : ∀ i, ¬ cx.hard i) (hp61 : cx.pins 61 = none) (hp63 : cx.pins 63 = none)
  (h : rngEnt σ L ti pr k kn = some r) (hp : pl L = .obj (.map (some mb)) f) (hm : w.heap[mb]? = some (.map es clk)) (hk : es.toList[k]? = some e)
  (hit : a.tmps.getD ti undef = .pointer (some ⟨itb, 0, none⟩)) (hti : ti < a.tmps.size) (hpr : pr < a.tmps.size) (hpv : a.tmps.getD pr undef = .tuple #[e.key, e.val]) :
  ∃ σ' pl', kn σ' = some r ∧ Rel (openCx cx L (.at itb 0) (.obj (stV (es.toList.map (·.born)) clk) (fun _ => False)) (pl' L)) σ' a w pl' ∧ ∃ f', pl' L = .obj (.map (some mb)) f' := by
 unfold rngEnt at h
 split at h
 ·rename_i kk y hL h61 h63
  obtain ⟨v0, f0, g1, g2⟩ := hR.mem.blocks L _ hL
  rw [hp] at g1
  cases g1
  have fin : ∀ {B' : Blk O} {f' : Nat → Prop} {x : T}, B'.live → (∀ t n, ¬ isRow B' t n) → ¬ isBox B' → (∀ t xs, B' ≠ .fro t xs) → (∀ x, f' x → f x) →
    (∀ bk' pl', bk' = (L, B') :: (61, .dead) :: (63, .dead) :: σ.bk → pl' L = .obj (.map (some mb)) f' → pl' 63 = .obj (stV (es.toList.map (·.born)) clk) (fun _ => False) → look bk' 63 = some .dead → (∀ b, RO cx w σ.bk pl b → RO cx w bk' pl' b) →
     (∀ b, f b → ¬ f' b → RO cx w bk' pl' b) → BR w (RO cx w bk' pl') bk' pl' L B') →
    (∀ (key : T), TR w (RO cx w σ.bk pl) σ.bk pl key e.key →
    (∀ bk' pl', (∀ b, RO cx w σ.bk pl b → RO cx w bk' pl' b) → (∀ b, f b → ¬ f' b → RO cx w bk' pl' b) → Keeps σ.bk bk' pl pl' → TR w (RO cx w bk' pl') bk' pl' x e.val) →
    kn ⟨(pr, .tup [key, x]) :: (ti, .t (.one (.it 61))) :: σ.sl, (L, B') :: (61, .dead) :: (63, .dead) :: σ.bk⟩ = some r →
    ∃ σ' pl', kn σ' = some r ∧ Rel (openCx cx L (.at itb 0) (.obj (stV (es.toList.map (·.born)) clk) (fun _ => False)) (pl' L)) σ' a w pl' ∧ ∃ f', pl' L = .obj (.map (some mb)) f') := by
   intro B' f' x hl hrw hbx hfr hf hB key hkey hx hkn
   obtain ⟨pl', q1, q2, q3, q4, q5, q6, q7⟩ := rel_open hR (B' := B') (f' := f') (p61 := .at itb 0) (p63 := .obj (stV (es.toList.map (·.born)) clk) (fun _ => False)) hL trivial hl rfl hrw hbx hfr h61 h63 hp61 hp63 hp hf hB
   have n1 : L ≠ 61 := fun e => by rw [e, h61] at hL; cases hL
   have n2 : L ≠ 63 := fun e => by rw [e, h63] at hL; cases hL
   have l61 : look ((L, B') :: (61, Blk.dead) :: (63, .dead) :: σ.bk) 61 = some .dead := by simp only [look_cons]; rw [if_neg n1, if_pos trivial]
   have l63 : look ((L, B') :: (61, Blk.dead) :: (63, .dead) :: σ.bk) 63 = some .dead := by simp only [look_cons]; rw [if_neg n2, if_neg (by decide), if_pos trivial]
   have q8 := rel_slot q1 (t := ti) (s := .t (.one (.it 61))) hti (by rw [hit]; exact ⟨rfl, _, l61, itb, 0, q3, rfl⟩)
   have q9 := rel_slot q8 (t := pr) (s := .tup [key, x]) hpr (by
    rw [hpv]
    exact ⟨_, rfl, TR_mono q7 (fun _ _ => rfl) q6 _ _ hkey, hx _ _ q7 q5 q6, trivial⟩)
   refine ⟨_, pl', hkn, ?_, f', q2⟩
   have := rel_openCx q9 hh (L := L) ⟨_, l61⟩ ⟨_, l63⟩ ⟨B', by simp only [look_cons, if_pos]⟩
   rw [q3, q4] at this
   exact this
  split at h
  ·rename_i kt vt m
   rw [St.force_eq] at h
   obtain ⟨hkf, b, me, clock, k1, k2, k3, k4, k5⟩ := g2
   cases k1
   rw [hm] at k2
   cases k2
   obtain ⟨p, q1, q2, q3⟩ := k5.map hk
   rw [getD_of q1] at h
   refine fin (B' := .rng (.map kt vt) m 63) (f' := f) (x := tOf vt p.2) trivial (by rintro t n ⟨ys, h | h, _⟩ <;> cases h) (fun ⟨_, h⟩ => by cases h) (fun _ _ h => by cases h) (fun _ h => h) ?_ (tOf kt p.1) (tOf_TR q2) ?_ h
   ·intro bk' pl' hbk hpL hp63' hl63 hRO _
    exact ⟨⟨_, hl63⟩, .map (some mb), f, _, clk, _, hpL, hp63', MapRel_R (k := .map kt vt) hRO ⟨hkf, mb, es, clk, rfl, hm, k3, k4, k5⟩, mb, es, rfl, hm, rfl⟩
   ·intro bk' pl' hRO _ hkk
    exact tOf_TR (TRep_mono hRO (fun _ _ => rfl) q3)
  ·rename_i kt t m
   rw [St.force_eq] at h
   obtain ⟨hkf, hz, b, me, clock, ps, k1, k2, k3, k4, k5, k6, k7⟩ := g2
   cases k1
   rw [hm] at k2
   cases k2
   obtain ⟨p, q1, q2⟩ := (EntS_keys k5).map hk
   rw [getD_of q1] at h
   obtain ⟨e', p0, r1, r2, r3, r4, r5⟩ := EntS_take (V := fun _ => True) k k5 q1
   rw [hk] at r1
   cases r1
   obtain ⟨d1, d2⟩ := Disj_drop k6 r2
   have hmem0 : p0 ∈ ps := List.mem_of_getElem? r2
   let f' : Nat → Prop := fun x => x = mb ∨ ∃ q ∈ ps.set k .nil, q.fp x
   have hf' : ∀ x, f' x → f x := by
    rintro x (rfl | ⟨q, hq, hx⟩)
    ·exact (k3 x).2 (.inl rfl)
    ·rcases List.mem_or_eq_of_mem_set hq with hq | rfl
     ·exact (k3 x).2 (.inr ⟨q, hq, hx⟩)
     ·exact hx.elim
   have hout : ∀ x, p0.fp x → f x ∧ ¬ f' x := fun x hx => ⟨(k3 x).2 (.inr ⟨p0, hmem0, hx⟩), by
    rintro (rfl | ⟨q, hq, hqx⟩)
    ·exact k7 p0 hmem0 hx
    ·exact d2 q hq x hx hqx⟩
   have hlen : k < m.length := (List.getElem?_eq_some_iff.1 q1).1
   refine fin (B' := .rngH kt t m k 63) (f' := f') (x := .one (.ro t p.2)) trivial (by rintro t n ⟨ys, h | h, _⟩ <;> cases h) (fun ⟨_, h⟩ => by cases h) (fun _ _ h => by cases h) hf' ?_ (tOf kt p.1) (tOf_TR q2) ?_ h
   ·intro bk' pl' hbk hpL hp63' hl63 hRO _
    refine ⟨hkf, hz, ⟨_, hl63⟩, mb, es, clk, ps.set k .nil, f', _, hpL, hp63', hm, fun x => Iff.rfl, k4, ?_, hlen, d1, fun q hq hx => ?_⟩
    ·exact EntH_mono hRO (fun _ _ => rfl) (fun _ h => h) (fun _ _ _ _ => rfl) (r5 trivial)
    ·rcases List.mem_or_eq_of_mem_set hq with hq | rfl
     ·exact k7 q hq hx
     ·exact hx.elim
   ·intro bk' pl' hRO hdrop hkk
    show Rep w (RO cx w bk' pl') (.slice t) p.2 [e.val]
    exact rep_own hz r3 r4 hRO (fun b hb => hdrop b (hout b hb).1 (hout b hb).2)
  ·cases h
 ·cases h
theorem openCx_61 {L : Nat} {p61 p63 pL : Pl} : (openCx cx L p61 p63 pL).pins 61 = some p61 := by simp [openCx]
theorem openCx_63 {L : Nat} {p61 p63 pL : Pl} : (openCx cx L p61 p63 pL).pins 63 = some p63 := by simp [openCx]
theorem openCx_L {L : Nat} {p61 p63 pL : Pl} (h64 : 64 ≤ L) : (openCx cx L p61 p63 pL).pins L = some pL := by
 show (if L = 61 then some p61 else if L = 63 then some p63 else if L = L then some pL else cx.pins L) = _
 rw [if_neg (by omega), if_neg (by omega), if_pos rfl]
theorem rngNext_rel {R : Type} {tm : Tm} {L ti itb mb clk : Nat} {ss : List Nat} {o : Obj} {f : Nat → Prop} {rec : sdens tm → Option R} {r : R} (hh : ∀ i, ¬ cx.hard i) (hpin : ∀ i p, cx.pins i = some p → i < 61) (h64 : 64 ≤ L)
  (hR : Rel (openCx (privAt cx itb o) L (.at itb 0) (.obj (stV ss clk) (fun _ => False)) (.obj (.map (some mb)) f)) σ a w pl) (h : rngNext σ tm L ti rec = some r) :
  ∃ l pl' f' es, rec l = some r ∧ Rel (privAt cx itb o) (unpackSt (O := O) tm l) a w pl' ∧ pl' L = .obj (.map (some mb)) f' ∧ w.heap[mb]? = some (.map es clk) ∧ es.toList.map (·.born) = ss ∧ Stamps es.toList clk ∧
   a.tmps.getD ti undef = .pointer (some ⟨itb, 0, none⟩) := by
 unfold rngNext at h
 split at h
 ·rename_i j hs
  split at h
  ·rename_i hj
   have := Nat.eq_of_beq_eq_true hj
   subst this
   split at h
   ·rename_i kk y h0 hL
    split at h
    ·rename_i h63
     have := Nat.eq_of_beq_eq_true h63
     subst this
     rw [St.force_eq] at h
     obtain ⟨B61, hB61⟩ := hR.mem.hard 61 (.inr (.inl rfl))
     obtain ⟨B63, hB63⟩ := hR.mem.hard 63 (.inr (.inr (.inl rfl)))
     have p61 := hR.mem.pin 61 _ B61 openCx_61 hB61
     obtain ⟨g63, p63⟩ := hR.mem.pin 63 _ B63 openCx_63 hB63
     obtain ⟨fL, pL⟩ := hR.mem.pin L _ _ (openCx_L h64) hL
     have hit : a.tmps.getD ti undef = .pointer (some ⟨itb, 0, none⟩) := by
      obtain ⟨_, _, B, hB, b, c, q1, q2⟩ := hR.slots _ _ hs
      have p61 : pl 61 = .at itb 0 := p61
      rw [p61] at q1
      cases q1
      exact q2
     obtain ⟨_, v, f1, ss', clk', g', q1, q2, q3, b, es, q4, q5, q6⟩ := hR.mem.blocks L _ hL
     rw [pL] at q1
     cases q1
     rw [p63] at q2
     have hst : stV ss clk = stV ss' clk' := (Pl.obj.inj q2).1
     obtain ⟨e1, e2⟩ := stV_inj hst
     subst e1
     subst e2
     cases q4
     obtain ⟨b', es', clk', r1, r2, r3, r4, _⟩ := MapRel_heap (MapRel_map q3) q3
     cases r1
     rw [q5] at r2
     cases r2
     have hk := mem_obj hR hL trivial (B' := .obj kk y) trivial (w' := w) (Ext.refl _ _) (by rintro t n ⟨ys, h | h, hn⟩ <;> cases h) (fun ⟨_, h⟩ => by cases h) (fun _ => rfl)
      (fun hRO hRw hk => ⟨_, fL, pL, MapRel_R hRO q3⟩)
     have hR' : Rel (openCx (privAt cx itb o) L (.at itb 0) (.obj (stV ss clk) (fun _ => False)) (.obj (.map (some mb)) f)) ⟨σ.sl, (L, .obj kk y) :: σ.bk⟩ a w pl := by
      refine ⟨hk.1.1, fun t s hs => ?_, hR.defers, hR.size⟩
      obtain ⟨q1, q2⟩ := hR.slots t s hs
      exact ⟨q1, SR_mono hk.1.2.1 hk.1.2.2 hk.2 _ _ q2⟩
     obtain ⟨l, is, g1, g2⟩ := packAt_rel hR' h
     obtain ⟨pl', g3, g4⟩ := g2 (privAt cx itb o) (onward_open (cx := privAt cx itb o) hh hpin h64) (fun b o' ho => .inl ho)
     exact ⟨l, pl', fL, es, g1, g3, by rw [g4, pL], q5, q6, r4, hit⟩
    ·cases h
   ·cases h
  ·cases h
 ·cases h
theorem rloop_wp {R : Type} (hT : TTok P cfg.tt) (hΓ : Γok P cfg.Γ) (hN : cfg.N = cx.N) (hh : ∀ i, ¬ cx.hard i) (hpin : ∀ i p, cx.pins i = some p → i < 61) {K i1 i2 out nxt : Nat} {ops1 ops2 : Array Oper} {c : Operand} {body : Code}
  {ti nx m pr L : Nat} {rest : List Oper} {tm : Tm} {ke : Nat → Nat → St O → Option R} {r : R} {Q : Exit → Act → World → Prop}
  (ihb : ∀ (cx' : Cx), cfg.N = cx'.N → ∀ (nx : Nat) (σ : St O) (kn : Nat → St O → Option R) (ke : Nat → Nat → St O → Option R) (kr : St O → Option R) (r : R) (Q : Exit → Act → World → Prop), run cfg K body .no nx σ kn ke kr = some r → Next cx' kn ke kr r Q → ∀ a w pl, Rel cx' σ a w pl → body.wp P Q a w)
  (hops : rngOps ops1.toList ops2.toList c = some (ti, nx, m, pr, rest)) (hok : rngOk cfg.N L tm ti nx m pr = true)
  (h : (rngIn σ tm L ti fun n l => rngN (fun i rec l => (unpackSt tm l).force fun σ => rngEnt σ L ti pr i fun σ => runOps cfg ops2.toList rest (Nat.add (widths tm) 8) σ [] fun σ _ =>
       run cfg K body .no (Nat.add (widths tm) 1024) σ (fun _ σ => rngNext σ tm L ti rec) (fun i _ σ => match Nat.beq i nxt with | true => rngNext σ tm L ti rec | false => none) (fun _ => none))
      (fun l => (unpackSt tm l).force fun σ => ke out (widths tm) σ) n (rangeL n) l) = some r)
  (hQ : ∀ i nx σ, ke i nx σ = some r → ∀ a w pl, Rel cx σ a w pl → Q (.exit i) a w) (hR : Rel cx σ a w pl) :
  (Code.loop (.seq (.region i1 ops1 false) (.seq (.cond c .skip (.exit out)) (.block nxt (.seq (.region i2 ops2 false) body))))).wp P Q a w := by
 obtain ⟨x, y, en, ho1, ho2, rfl, hxo, hxd, hxg, hyo, hyd, hyg, heo, hed, heg⟩ := rngOps_some hops
 obtain ⟨hnot, hlt, hnd, h64⟩ := rngOk_some hok
 generalize hstep : (fun (i : Nat) (rec : sdens tm → Option R) (l : sdens tm) => (unpackSt (O := O) tm l).force fun σ => rngEnt σ L ti pr i fun σ => runOps cfg ops2.toList rest (Nat.add (widths tm) 8) σ [] fun σ _ =>
   run cfg K body .no (Nat.add (widths tm) 1024) σ (fun _ σ => rngNext σ tm L ti rec) (fun i _ σ => match Nat.beq i nxt with | true => rngNext σ tm L ti rec | false => none) (fun _ => none)) = step at h
 have hs' : ∀ i rec l, step i rec l = rngEnt (unpackSt (O := O) tm l) L ti pr i fun σ => runOps cfg ops2.toList rest (Nat.add (widths tm) 8) σ [] fun σ _ =>
   run cfg K body .no (Nat.add (widths tm) 1024) σ (fun _ σ => rngNext σ tm L ti rec) (fun i _ σ => match Nat.beq i nxt with | true => rngNext σ tm L ti rec | false => none) (fun _ => none) := fun i rec l => by
  rw [← hstep]; exact St.force_eq _ _
 generalize hfin : (fun l : sdens tm => (unpackSt (O := O) tm l).force fun σ => ke out (widths tm) σ) = fin at h
 have nne : ti ≠ nx ∧ ti ≠ m ∧ ti ≠ pr ∧ nx ≠ m ∧ nx ≠ pr ∧ m ≠ pr := by
  simp only [List.nodup_cons, List.mem_cons, not_or] at hnd
  obtain ⟨⟨a1, a2, a3, _⟩, ⟨b1, b2, _⟩, ⟨c1, _⟩, _⟩ := hnd
  exact ⟨a1, a2, a3, b1, b2, c1⟩
 obtain ⟨n1, n2, n3, n4, n5, n6⟩ := nne
 have hops1 : ops1 = #[x, y] := by apply Array.ext'; simpa using ho1
 subst hops1
 have hsz2 : ops2.size = rest.length + 1 := by rw [← Array.length_toList, ho2]; rfl
 have hen : ops2[0]? = some en := by
  rw [← Array.getElem?_toList, ho2]; rfl
 unfold rngIn at h
 split at h
 rotate_left
 ·cases h
 rename_i j hsj
 split at h
 rotate_left
 ·cases h
 rename_i i h0 hbj
 split at h
 rotate_left
 ·cases h
 rename_i kk y0 h1 hbi
 split at h
 rotate_left
 ·cases h
 rename_i hb01
 have := Nat.eq_of_beq_eq_true hb01
 subst this
 rw [St.force_eq] at h
 obtain ⟨htisz, _, Bj, hBj, itb, cj, qj1, qj2⟩ := hR.slots _ _ hsj
 obtain ⟨_, b', c', ss, clk, g, r1, r2, Bi, r3, r4⟩ := hR.mem.blocks j _ hbj
 rw [qj1] at r1
 cases r1
 rw [hbi] at r3
 cases r3
 obtain ⟨mb, f, r5, r6⟩ := r4 rfl
 obtain ⟨_, v, f1, ss', clk', g', s1, s2, s3, b2, es, s4, s5, s6⟩ := hR.mem.blocks i _ hbi
 rw [r5] at s1
 cases s1
 rw [r2] at s2
 obtain ⟨e1, e2⟩ := stV_inj (Pl.obj.inj s2).1
 subst e1
 subst e2
 cases s4
 obtain ⟨b3, es3, clk3, t1, t2, t3, t4, t5⟩ := MapRel_heap (MapRel_map s3) s3
 cases t1
 rw [s5] at t2
 cases t2
 have hij : i ≠ j := fun e => by rw [e, hbj] at hbi; cases hbi
 have hlj : liveAt σ.bk j := ⟨_, hbj, trivial⟩
 have hitb : (pl j).fp itb := by rw [qj1]; rfl
 have hpb : cx.priv itb = none := hR.mem.apart j hlj itb hitb
 have hk := mem_obj hR hbi trivial (B' := .obj kk y0) trivial (w' := w) (Ext.refl _ _) (by rintro t n ⟨ys, h | h, hn⟩ <;> cases h) (fun ⟨_, h⟩ => by cases h) (fun _ => rfl)
  (fun hRO hRw hk => ⟨_, f, r5, MapRel_R hRO s3⟩)
 have hR1 : Rel cx ⟨σ.sl, (i, .obj kk y0) :: σ.bk⟩ a w pl := by
  refine ⟨hk.1.1, fun t s hs => ?_, hR.defers, hR.size⟩
  obtain ⟨q1, q2⟩ := hR.slots t s hs
  exact ⟨q1, SR_mono hk.1.2.1 hk.1.2.2 hk.2 _ _ q2⟩
 obtain ⟨l0, is, g1, g2⟩ := packAt_rel hR1 h
 cases hmj : memN j is with
 | true => rw [hmj] at g1; cases g1
 | false =>
 rw [hmj] at g1
 simp only at g1
 have hljx : look ((i, Blk.obj kk y0) :: σ.bk) j = some (.itr i h0) := by rw [look_cons, if_neg hij]; exact hbj
 obtain ⟨pl0, g3, g4⟩ := g2 (privAt cx itb (.mapIter (some mb) clk #[] clk)) ⟨rfl, rfl, rfl, rfl, fun q p hp => ⟨by have := hpin q p hp; omega, hp⟩, hh, fun b hb => by
   by_cases e : b = itb
   ·subst e; exact hpb
   ·rw [privAt_other _ _ e] at hb; exact hb⟩ (fun b o ho => by
  by_cases e : b = itb
  ·subst e
   rw [privAt_same] at ho
   cases ho
   exact .inr ⟨r6, j, ⟨_, hljx, trivial⟩, hitb, (fun hc => by rw [(memN_iff _ _).2 hc] at hmj; cases hmj), (fun t xs => by
    show look ((i, Blk.obj kk y0) :: σ.bk) j ≠ _ ∧ look ((i, Blk.obj kk y0) :: σ.bk) j ≠ _
    rw [hljx]; exact ⟨(by simp), (by simp)⟩)⟩
  ·rw [privAt_other _ _ e] at ho; exact .inl ho)
 have hss : ss.Nodup := by
  have h1 : (es.toList.map (·.born)).Pairwise (· < ·) := by rw [List.pairwise_map]; exact t4.1
  rw [s6] at h1
  exact h1.imp (fun h => Nat.ne_of_lt h)
 have hlen : mlen kk y0 = ss.length := by rw [← t5, ← s6]; simp
 refine wp_loop_n (fun n a w => ∃ l left pl seen c0 f es, rngN step fin n left l = some r ∧ RJ O cx tm L ti itb mb clk ss l left pl seen c0 f es a w) ?_ (mlen kk y0) a w
  ⟨l0, rangeL (mlen kk y0), pl0, #[], clk, f, es, g1, g3, by rw [g4]; exact r5, s5, s6, t4, Nat.le_refl _, qj2, List.nodup_range, fun k => ?_⟩
 rotate_left
 ·show k ∈ List.range _ ↔ _
  rw [List.mem_range, hlen]
  constructor
  ·intro hk
   exact ⟨ss[k], List.getElem?_eq_getElem hk, by simp⟩
  ·rintro ⟨b, hb, _⟩
   exact (List.getElem?_eq_some_iff.1 hb).1
 clear h g1 g2 g3 g4 hR hR1 hk
 rintro n a w ⟨l, left, pl, seen, c0, f, es, hr, hJ⟩
 have hsz : ∀ d, d < cfg.N → d < a.tmps.size := fun d hd => by rw [hJ.rel.size]; show d < cx.N; rw [← hN]; exact hd
 have htis := hsz ti (hlt ti (by simp))
 have hnxs := hsz nx (hlt nx (by simp))
 have hms := hsz m (hlt m (by simp))
 have hprs := hsz pr (hlt pr (by simp))
 have lk : ∀ d, d ∈ [ti, nx, m, pr] → look (unpackSt (O := O) tm l).sl d = none := fun d hd => unpack_no (hnot d hd)
 have heval : a.eval (.tmp ti) = .pointer (some ⟨itb, 0, none⟩) := hJ.it
 have hitbh : w.heap[itb]? = some (.mapIter (some mb) clk seen c0) := hJ.rel.mem.priv itb _ (privAt_same _ _ _)
 have region1 : ∀ (v : Value) (bb : Bool) (arr : Array Value) (w2 : World) (Q' : Exit → Act → World → Prop), (Instr.next (.pointer (some ⟨itb, 0, none⟩)) false x.type).run P w = .ok (.tuple arr) w2 → arr[0]? = some (.bool bb) →
   Q' .normal ((a.put (some nx) (.tuple arr)).put (some m) (.bool bb)) w2 → (Code.region i1 #[x, y] false).wp P Q' a w := by
  intro v bb arr w2 Q' hrun harr hQ'
  refine wp_region ?_
  show wpOps P #[x, y] Q' [0, 1] a w
  rw [wpOps_cons]
  refine wpOp_value (o := x) (v := .tuple arr) (w' := w2) rfl hxg (by simp [execOp, hxo, heval, hrun]) ?_
  rw [wpOps_cons]
  refine wpOp_value (o := y) (v := .bool bb) (w' := w2) rfl hyg ?_ ?_
  ·have he : (a.put x.dst (.tuple arr)).eval (.tmp nx) = .tuple arr := by
    rw [hxd]
    exact getD_put_same hnxs
   simp [execOp, hyo, he, Instr.extract, harr]
  ·rw [hxd, hyd]
   exact hQ'
 rcases next_run hitbh hJ.heap hJ.stamps hJ.le x.type with ⟨hall, hrun⟩ | ⟨k, e, w1, hk, hne, hw1, hrun⟩
 ·-- nothing is left
  have hl0 : left = [] := by
   cases hl : left with
   | nil => rfl
   | cons q qs =>
    exfalso
    obtain ⟨b, hb1, hb2⟩ := (hJ.left q).1 (by rw [hl]; simp)
    rw [← hJ.born, List.getElem?_map] at hb1
    cases hq : es.toList[q]? with
    | none => rw [hq] at hb1; cases hb1
    | some e =>
     rw [hq] at hb1
     cases hb1
     exact hb2 (hall q e hq)
  subst hl0
  have hr' : fin l = some r := by cases n <;> exact hr
  rw [← hfin] at hr'
  simp only [St.force_eq] at hr'
  refine wp_seq (region1 undef false _ _ _ hrun (by simp) ?_)
  refine wp_seq (wp_cond_false (getD_put_same (by rw [put_size]; exact hms)) (wp_exit ?_))
  refine hQ out _ _ hr' _ _ pl ?_
  exact rel_less hpb (rel_put_out (rel_put_out hJ.rel (lk nx (by simp))) (lk m (by simp)))
 ·-- one entry comes out
  have hkl : k ∈ left := (hJ.left k).2 ⟨e.born, by rw [← hJ.born, List.getElem?_map, hk]; rfl, hne⟩
  obtain ⟨n', rfl, hr'⟩ : ∃ n', n = n' + 1 ∧ step k (rngN step fin n' (left.erase k)) l = some r := by
   cases left with
   | nil => cases hkl
   | cons q qs =>
    cases n with
    | zero => cases hr
    | succ n' => exact ⟨n', rfl, allOf_some hr (by simp) k hkl⟩
  rw [hs'] at hr'
  have hbk : ss[k]? = some e.born := by rw [← hJ.born, List.getElem?_map, hk]; rfl
  let o2 : Obj := .mapIter (some mb) clk (seen.push e.born) clk
  have hmbi : mb ≠ itb := fun e => by have := hJ.heap; rw [e, hitbh] at this; cases this
  have hh1 : w1.heap = w.heap := by rcases hw1 with rfl | rfl <;> rfl
  have hheap2 : (setO w1 itb o2).heap[mb]? = some (.map es clk) := by rw [setO_other _ hmbi, hh1]; exact hJ.heap
  have hit2 : (setO w1 itb o2).heap[itb]? = some o2 := setO_same (by rw [hh1]; exact hitbh)
  refine wp_seq (region1 undef true _ _ _ hrun (by simp) ?_)
  refine wp_seq (wp_cond_true (getD_put_same (by rw [put_size]; exact hms)) (wp_skip ?_))
  refine wp_block (wp_seq (wp_region ?_))
  rw [List.range_eq_range', hsz2, List.range'_succ, wpOps_cons]
  have hit3 : ((a.put (some nx) (.tuple #[.bool true, e.key, e.val])).put (some m) (.bool true)).eval (.tmp ti) = .pointer (some ⟨itb, 0, none⟩) := by
   show Array.getD _ _ _ = _
   rw [getD_put_other n2, getD_put_other n1]; exact hJ.it
  refine wpOp_value (o := en) (v := .tuple #[e.key, e.val]) (w' := setO w1 itb o2) hen heg (by
   have hent := entry_run (P := P) hit2 hheap2 hJ.stamps hk
   simp only [o2] at hent
   simp only [execOp, heo, hit3, hent, Sem.run_bind, Result.andThen_ok, Sem.run_pure, o2]) ?_
  rw [hed]
  have hR2 := rel_put_out (v := .tuple #[e.key, e.val]) (rel_put_out (v := .bool true) (rel_put_out (v := .tuple #[.bool true, e.key, e.val]) (rel_turn (o' := o2) hJ.rel hw1) (lk nx (by simp))) (lk m (by simp))) (lk pr (by simp))
  obtain ⟨σB, plB, hkn, hRB, fL, hpL⟩ := rngEnt_rel (es := es) (e := e) (itb := itb) hR2 hh (by
    cases hc : cx.pins 61 with
    | none => exact hc
    | some p => have := hpin 61 p hc; omega) (by
    cases hc : cx.pins 63 with
    | none => exact hc
    | some p => have := hpin 63 p hc; omega) hr' hJ.place hheap2 hk (by
    rw [getD_put_other n3]; exact hit3) (by rw [put_size, put_size, put_size]; exact htis) (by rw [put_size, put_size, put_size]; exact hprs) (getD_put_same (by rw [put_size, put_size]; exact hprs))
  rw [hJ.born] at hRB
  obtain ⟨W, lg, σs, u1, u2, u3⟩ := runOps_to rest _ σB [] _ r hkn
  rw [hpL] at hRB
  refine text_from hT hΓ (by rw [hN]; rfl) (cx := openCx (privAt cx itb o2) L (.at itb 0) (.obj (stV ss clk) (fun _ => False)) (.obj (.map (some mb)) fL)) (nb := fun i => Nat.add (widths tm) 8 + 8 * (i - 1)) (W := fun i => W (i - 1)) (l := fun i => lg (i - 1)) (σs := fun i => σs (i - 1)) (j0 := 1) ?_ ?_ rest.length 1 (Nat.le_refl _) (by omega) _ _ plB ?_
  ·intro q o' hq ho'
   obtain ⟨q, rfl⟩ : ∃ q', q = q' + 1 := ⟨q - 1, by omega⟩
   rw [ho2, List.getElem?_cons_succ] at ho'
   have := u2 q o' ho'
   rw [ho2] at this ⊢
   exact this
  ·intro a4 w4 pl4 hR4
   have hidx : ops2.size - 1 = rest.length := by omega
   simp only [hidx] at hR4
   have fin2 : ∀ {σ3 : St O} {a5 : Act} {w5 : World} {pl5 : Nat → Pl}, rngNext σ3 tm L ti (rngN step fin n' (left.erase k)) = some r →
     Rel (openCx (privAt cx itb o2) L (.at itb 0) (.obj (stV ss clk) (fun _ => False)) (.obj (.map (some mb)) fL)) σ3 a5 w5 pl5 →
     ∃ m, m < n' + 1 ∧ ∃ l left pl seen c0 f es, rngN step fin m left l = some r ∧ RJ O cx tm L ti itb mb clk ss l left pl seen c0 f es a5 w5 := by
    intro σ3 a5 w5 pl5 h3 hR5
    obtain ⟨l', pl', f', es', v1, v2, v3, v4, v5, v6, v7⟩ := rngNext_rel hh hpin h64 hR5 h3
    refine ⟨n', Nat.lt_succ_self _, l', left.erase k, pl', seen.push e.born, clk, f', es', v1, v2, v3, v4, v5, v6, Nat.le_refl _, v7, hJ.nodup.erase k, fun q => ?_⟩
    rw [hJ.nodup.mem_erase_iff, hJ.left q]
    simp only [Array.toList_push, List.mem_append, List.mem_singleton, not_or]
    constructor
    ·rintro ⟨hqk, b, hb1, hb2⟩
     refine ⟨b, hb1, hb2, fun hbe => hqk ?_⟩
     subst hbe
     exact (List.getElem?_inj (List.getElem?_eq_some_iff.1 hb1).1 hss).1 (hb1.trans hbk.symm)
    ·rintro ⟨b, hb1, hb2, hb3⟩
     refine ⟨fun hqk => hb3 ?_, b, hb1, hb2⟩
     subst hqk
     rw [hbk] at hb1
     cases hb1; rfl
   refine ihb _ (by rw [hN]; rfl) _ _ _ _ _ r _ u3 ⟨fun nx' σ' h' a' w' pl' hR' => fin2 h' hR', fun q nx' σ' h' a' w' pl' hR' => ?_, fun σ' h' => by cases h'⟩ a4 w4 pl4 hR4
   show if q = nxt then _ else _
   cases hq : Nat.beq q nxt with
   | true =>
    rw [hq] at h'
    rw [if_pos (Nat.eq_of_beq_eq_true hq)]
    exact fin2 h' hR'
   | false => rw [hq] at h'; cases h'
  ·show Rel _ (σs 0) _ _ _
   rw [u1]; exact hRB
end
end Go.BB
set_option linter.unusedSimpArgs false
set_option linter.unusedVariables false
namespace Go.BB
open Go
section
variable {O : ObjK} {cx : Cx} {σ τ : St O} {a : Act} {w : World} {pl : Nat → Pl} {cfg : Cfg O} {P : Program}

theorem seq_wp {R : Type} {K nx : Nat} {x y : Code} {an1 an2 : An O} {H : An O → Prop} (h1 : H an1) (h2 : H an2) {r : R} {kn : Nat → St O → Option R} {ke : Nat → Nat → St O → Option R} {kr : St O → Option R} {Q : Exit → Act → World → Prop}
  (ihx : ∀ (an : An O), H an → ∀ {R : Type} (nx : Nat) (σ : St O) (kn : Nat → St O → Option R) (ke : Nat → Nat → St O → Option R) (kr : St O → Option R) (r : R) (Q : Exit → Act → World → Prop), run cfg K x an nx σ kn ke kr = some r → Next cx kn ke kr r Q → ∀ a w pl, Rel cx σ a w pl → x.wp P Q a w)
  (ihy : ∀ (an : An O), H an → ∀ {R : Type} (nx : Nat) (σ : St O) (kn : Nat → St O → Option R) (ke : Nat → Nat → St O → Option R) (kr : St O → Option R) (r : R) (Q : Exit → Act → World → Prop), run cfg K y an nx σ kn ke kr = some r → Next cx kn ke kr r Q → ∀ a w pl, Rel cx σ a w pl → y.wp P Q a w)
  (h : run cfg K x an1 nx σ (fun nx σ => run cfg K y an2 nx σ kn ke kr) ke kr = some r) (hN : Next cx kn ke kr r Q) (hR : Rel cx σ a w pl) : (Code.seq x y).wp P Q a w := by
 have hN' : Next cx (fun nx σ => run cfg K y an2 nx σ kn ke kr) ke kr r (Exit.then (y.wp P Q) Q) :=
  ⟨fun nx' σ' h' a w pl hR' => ihy an2 h2 nx' σ' kn ke kr r Q h' hN a w pl hR', hN.exit, hN.ret⟩
 exact wp_seq (ihx an1 h1 nx σ _ ke kr r _ h hN' a w pl hR)
def Free (cx : Cx) (an : An O) : Prop := an = .no ∨ ((∀ i, ¬ cx.hard i) ∧ ∀ i p, cx.pins i = some p → i < 61)
theorem Free.no : Free (O := O) cx .no := .inl rfl
theorem Free.imp {an an' : An O} (h : Free cx an) (hn : an = .no → an' = .no) : Free cx an' := Or.imp hn id h
def WpOf (P : Program) (cfg : Cfg O) (K : Nat) (c : Code) : Prop := ∀ (cx : Cx) (_ : cfg.N = cx.N) (an : An O) (_ : Free cx an) {R : Type} (nx : Nat) (σ : St O)
  (kn : Nat → St O → Option R) (ke : Nat → Nat → St O → Option R) (kr : St O → Option R) (r : R) (Q : Exit → Act → World → Prop),
  run cfg K c an nx σ kn ke kr = some r → Next cx kn ke kr r Q → ∀ a w pl, Rel cx σ a w pl → c.wp P Q a w
theorem run_wpOf (hm : P.follows .mixedOrders = true) (hT : TTok P cfg.tt) (hΓ : Γok P cfg.Γ) {K : Nat} : ∀ (c : Code), WpOf P cfg K c := by
 intro c
 generalize hsz : SizeOf.sizeOf c = s
 induction s using Nat.strongRecOn generalizing c with
 | _ s ih =>
 subst hsz
 have ih' : ∀ c' : Code, SizeOf.sizeOf c' < SizeOf.sizeOf c → WpOf P cfg K c' := fun c' h => ih _ h c' rfl
 clear ih
 cases c with
 | skip =>
  intro cx hN an hx R nx σ kn ke kr r Q h hQ a w pl hR
  exact wp_skip (hQ.normal _ _ h a w pl hR)
 | region id ops draw =>
  intro cx hN an hx R nx σ kn ke kr r Q h hQ a w pl hR
  exact region_wp hm hT hΓ hN hR h hQ.normal
 | seq x y =>
  have ihx := ih' x (by simp; omega)
  have ihy := ih' y (by simp; omega)
  intro cx hN an hx R nx σ kn ke kr r Q h hQ a w pl hR
  dsimp only [run] at h
  split at h
  ·exact seq_wp (H := Free cx) (hx.imp (fun h => by cases h)) (hx.imp (fun h => by cases h)) (fun an h => ihx cx hN an h) (fun an h => ihy cx hN an h) h hQ hR
  ·rename_i tm an1 an2
   have hh : (∀ i, ¬ cx.hard i) ∧ ∀ i p, cx.pins i = some p → i < 61 := hx.resolve_left (fun h => by cases h)
   obtain ⟨r1, h1, h2⟩ := bd_some h
   cases r1 with
   | inl l =>
    simp only at h2
    rw [St.force_eq] at h2
    refine wp_seq (ihx cx hN an1 (.inr hh) nx σ _ _ _ (Sum.inl l) (Exit.then (y.wp P Q) Q) h1 (Next.mk (fun nx' σ' h' a w pl hR' => ?_) (fun i nx' σ' h' => ?_) (fun σ' h' => ?_)) a w pl hR)
    ·obtain ⟨l', pl', g1, g2⟩ := pack_rel hh.1 hR' h'
     simp only [Option.some.injEq, Sum.inl.injEq] at g1
     subst g1
     exact ihy cx hN an2 (.inr hh) _ _ kn ke kr r Q h2 hQ _ _ _ g2
    ·simp at h'
    ·simp at h'
   | inr r' =>
    simp only [Option.some.injEq] at h2
    subst h2
    refine wp_seq (ihx cx hN an1 (.inr hh) nx σ _ _ _ (Sum.inr r') (Exit.then (y.wp P Q) Q) h1 (Next.mk (fun nx' σ' h' a w pl hR' => ?_) (fun i nx' σ' h' => ?_) (fun σ' h' => ?_)) a w pl hR)
    ·obtain ⟨l', pl', g1, g2⟩ := pack_rel hh.1 hR' h'
     simp at g1
    ·simp only [Option.map_eq_some_iff, Sum.inr.injEq, exists_eq_right] at h'
     exact hQ.exit _ _ _ h'
    ·simp only [Option.map_eq_some_iff, Sum.inr.injEq, exists_eq_right] at h'
     exact hQ.ret _ h'
  ·exact seq_wp (H := Free cx) .no .no (fun an h => ihx cx hN an h) (fun an h => ihy cx hN an h) h hQ hR
 | cond c x y =>
  have ihx := ih' x (by simp; omega)
  have ihy := ih' y (by simp; omega)
  intro cx hN an hx R nx σ kn ke kr r Q h hQ a w pl hR
  dsimp only [run] at h
  have fx : Free cx (match (generalizing := false) an with | .cond x _ => x | _ => .no) := by
   cases an <;> first | exact .no | exact hx.imp (fun h => by cases h)
  have fy : Free cx (match (generalizing := false) an with | .cond _ y => y | _ => .no) := by
   cases an <;> first | exact .no | exact hx.imp (fun h => by cases h)
  split at h
  ·rename_i t
   rcases onCond_some h with ⟨b, hb, σ1, hs, h1⟩ | ⟨e, hb, h1⟩
   ·have hR1 := Rel_same hs hR
    have hc : a.eval (.tmp t) = .bool b := (hR.slots t _ hb).2
    cases b with
    | true => exact wp_cond_true hc (ihx cx hN _ fx _ _ _ _ _ _ _ h1 hQ a w pl hR1)
    | false => exact wp_cond_false hc (ihy cx hN _ fy _ _ _ _ _ _ _ h1 hQ a w pl hR1)
   ·obtain ⟨hlt, hv⟩ := hR.slots t _ hb
    obtain ⟨b, hv1, hv2⟩ := hv
    have hc : a.eval (.tmp t) = .bool b := hv1
    have hR1 : Rel cx (⟨(t, .t (.one (.sc (.bool b)))) :: σ.sl, σ.bk⟩ : St O) a w pl := by
     refine ⟨hR.mem, fun t' s' h' => ?_, hR.defers, hR.size⟩
     rw [look_cons] at h'
     split at h'
     ·rename_i e'
      simp only at e'
      subst e'
      cases h'
      exact ⟨hlt, hv1⟩
     ·exact hR.slots t' s' h'
    have h2 := h1 b hv2
    cases b with
    | true => exact wp_cond_true hc (ihx cx hN _ fx _ _ _ _ _ _ _ h2 hQ a w pl hR1)
    | false => exact wp_cond_false hc (ihy cx hN _ fy _ _ _ _ _ _ _ h2 hQ a w pl hR1)
  ·cases h
 | block id x =>
  have ih := ih' x (by simp; omega)
  intro cx hN an hx R nx σ kn ke kr r Q h hQ a w pl hR
  dsimp only [run] at h
  have fx : Free cx (match (generalizing := false) an with | .block x => x | _ => .no) := by
   cases an <;> first | exact .no | exact hx.imp (fun h => by cases h)
  refine wp_block (ih cx hN _ fx nx σ _ _ _ r (Exit.inBlock id Q) h (Next.mk (fun nx' σ' h' => hQ.normal _ _ h') (fun i nx' σ' h' a w pl hR' => ?_) hQ.ret) a w pl hR)
  show if i = id then Q .normal a w else Q (.exit i) a w
  cases hi : Nat.beq i id with
  | true =>
   rw [hi] at h'
   rw [if_pos (Nat.eq_of_beq_eq_true hi)]
   exact hQ.normal _ _ h' a w pl hR'
  | false =>
   rw [hi] at h'
   rw [if_neg (fun e => by subst e; simp at hi)]
   exact hQ.exit _ _ _ h' a w pl hR'
 | loop x =>
  have ih := ih' x (by simp)
  intro cx hN an hx R nx σ kn ke kr r Q h hQ a w pl hR
  unfold run at h
  split at h
  ·rename_i tm an1
   have hh : (∀ i, ¬ cx.hard i) ∧ ∀ i p, cx.pins i = some p → i < 61 := hx.resolve_left (fun h => by cases h)
   obtain ⟨l, pl', h1, hR1⟩ := pack_rel hh.1 hR h
   generalize hst : (fun (rec : sdens tm → Option R) (l : sdens tm) => (unpackSt tm l).force fun σ => run cfg K x an1 (widths tm) σ (fun _ σ => pack σ tm rec) ke kr) = step at h1
   have hstep : ∀ rec l, step rec l = run cfg K x an1 (widths tm) (unpackSt tm l) (fun _ σ => pack σ tm rec) ke kr := fun rec l => by
    rw [← hst]; exact St.force_eq _ _
   refine wp_loop_n (fun n a w => ∃ l pl, loopN step n l = some r ∧ Rel cx (unpackSt (O := O) tm l) a w pl) ?_ K a w ⟨l, pl', h1, hR1⟩
   rintro n a w ⟨l, pl, h2, hR2⟩
   cases n with
   | zero => cases h2
   | succ n =>
    have h3 : step (loopN step n) l = some r := h2
    rw [hstep] at h3
    refine ih cx hN an1 (.inr hh) _ _ _ _ _ r (Exit.then (fun a' w' => ∃ m, m < n + 1 ∧ ∃ l pl, loopN step m l = some r ∧ Rel cx (unpackSt (O := O) tm l) a' w' pl) Q) h3 (Next.mk (fun nx' σ' h' a w pl hR' => ?_) hQ.exit hQ.ret) a w pl hR2
    obtain ⟨l', pl', g1, g2⟩ := pack_rel hh.1 hR' h'
    exact ⟨n, Nat.lt_succ_self n, l', pl', g1, g2⟩
  ·rename_i L tm
   have hh : (∀ i, ¬ cx.hard i) ∧ ∀ i p, cx.pins i = some p → i < 61 := hx.resolve_left (fun h => by cases h)
   split at h
   ·split at h
    ·rename_i hops
     split at h
     ·rename_i hok
      refine rloop_wp hT hΓ hN hh.1 hh.2 (fun cx' hN' nx σ kn ke kr r Q h hQ a w pl hR => ?_) hops hok h hQ.exit hR
      exact ih' _ (by simp; omega) cx' hN' .no .no nx σ kn ke kr r Q h hQ a w pl hR
     ·cases h
    ·cases h
   ·cases h
  ·cases h
 | exit i =>
  intro cx hN an hx R nx σ kn ke kr r Q h hQ a w pl hR
  exact wp_exit (hQ.exit _ _ _ h a w pl hR)
 | ret =>
  intro cx hN an hx R nx σ kn ke kr r Q h hQ a w pl hR
  exact wp_ret (hQ.ret _ h a w pl hR)
 | rangeFunc f ps s b => intro cx hN an hx R nx σ kn ke kr r Q h; cases h
 | scope b =>
  have ih := ih' b (by simp)
  intro cx hN an hx R nx σ kn ke kr r Q h hQ a w pl hR
  exact wp_scope_straight (ih cx hN an hx nx σ kn ke kr r (Exit.noGoto Q) h ⟨hQ.normal, hQ.exit, hQ.ret⟩ a w pl hR)
 | label l =>
  intro cx hN an hx R nx σ kn ke kr r Q h hQ a w pl hR
  exact wp_label (hQ.normal _ _ h a w pl hR)
 | goto l => intro cx hN an hx R nx σ kn ke kr r Q h; cases h
 | refuse s => intro cx hN an hx R nx σ kn ke kr r Q h; cases h
theorem run_wp (hm : P.follows .mixedOrders = true) (hT : TTok P cfg.tt) (hΓ : Γok P cfg.Γ) (hN : cfg.N = cx.N) (hh : ∀ i, ¬ cx.hard i) (hpin : ∀ i p, cx.pins i = some p → i < 61) {K : Nat} (c : Code) (an : An O) {R : Type} (nx : Nat) (σ : St O)
  (kn : Nat → St O → Option R) (ke : Nat → Nat → St O → Option R) (kr : St O → Option R) (r : R) (Q : Exit → Act → World → Prop) (h : run cfg K c an nx σ kn ke kr = some r) (hQ : Next cx kn ke kr r Q) (a : Act) (w : World) (pl : Nat → Pl) (hR : Rel cx σ a w pl) :
  c.wp P Q a w := run_wpOf hm hT hΓ c cx hN an (.inr ⟨hh, hpin⟩) nx σ kn ke kr r Q h hQ a w pl hR
end
end Go.BB
