/- A symbolic machine for the model's code, and what it shows of this seat's functions. No conditions. -/
import Derived.Test.YtnofmeckcimodaaFOps9
import Derived.Laws.IdiomRangeMap
set_option linter.unusedSimpArgs false
set_option linter.unusedVariables false
namespace Go.BB
open Go
section
variable {O : ObjK} {cx : Cx} {σ : St O} {a : Act} {w : World} {pl : Nat → Pl} {cfg : Cfg O} {P : Program} {o : Oper} {wr : Wr O}

theorem MapRel_heap {R : Nat → Prop} {v : Value} {f : Nat → Prop} : ∀ {k : MapK} (_ : k.isDeep = false) {x : k.den}, MapRel w R k x v f → ∃ b es clk, v = .map (some b) ∧ w.heap[b]? = some (.map es clk) ∧ f b ∧ Stamps es.toList clk ∧ es.size = mlen k x
 | .map kt vt, _, x, ⟨_, b, es, clk, h1, h2, h3, h4, h5⟩ => ⟨b, es, clk, h1, h2, (h3 b).2 rfl, h4, by rw [← Array.length_toList, ← h5.length]; rfl⟩
 | .mapS kt t, _, x, ⟨_, _, b, es, clk, ps, h1, h2, h3, h4, h5, _⟩ => ⟨b, es, clk, h1, h2, (h3 b).2 (.inl rfl), h4, by rw [← Array.length_toList, EntS_length h5]; rfl⟩
 | .deep _ _ _ _, h, _, _ => by cases h
theorem MapRel_map {R : Nat → Prop} {b : Nat} {f : Nat → Prop} : ∀ {k : MapK} {x : k.den}, MapRel w R k x (.map (some b)) f → k.isDeep = false
 | .map kt vt, _, _ => rfl
 | .mapS kt t, _, _ => rfl
 | .deep _ _ _ _, _, ⟨_, p, ps, _, h, _⟩ => by
  cases p with
  | nil => cases h.1
  | «at» b c => cases h
  | obj v f => exact h.elim
theorem good_range (hT : TTok P cfg.tt) (hR : Rel cx σ a w pl) (hd : ∀ d, o.dst = some d → d < cx.N) {nb : Nat} {t : TypeId} {x : Operand}
  (ho : o.op = .range t x) (h : (opRange cfg nb o.dst t x : RM O).to σ wr) : Good P cx σ a w o wr := by
 obtain ⟨ti, h1, h2⟩ := getTI_to h
 cases hs : ti.sub with
 | map tk te =>
  simp only [hs] at h2
  have hu := (hT t ti h1).map tk te hs
  obtain ⟨c, h3, h4⟩ := evC_to h2
  have hc := opd_CR hR h3
  cases c with
  | obj i =>
   simp only [RM.to] at h4
   obtain ⟨_, B, hB, hB2⟩ := hc
   rw [hB] at h4
   cases B with
   | obj k y =>
    simp only at h4
    cases hdp : MapK.isDeep k with
    | true => rw [hdp] at h4; exact h4.elim
    | false =>
    rw [hdp] at h4
    obtain ⟨f1, h64, h5⟩ := fresh_to h4
    obtain ⟨f2, _, h6⟩ := fresh_to h5
    cases h6
    obtain ⟨v, f, q1, q2⟩ := hR.mem.blocks i _ hB
    obtain ⟨f', q3⟩ := hB2 rfl
    rw [q1] at q3
    cases q3
    obtain ⟨b, es, clk, e1, e2, e3, e4, e5⟩ := MapRel_heap hdp q2
    have hrun : (execOp a.eval o).run P w = .ok (.value (.pointer (some ⟨w.heap.size, 0, none⟩))) (w.alloc (.mapIter (some b) clk #[] clk)) := by
     simp [execOp, ho, e1, run_range_map w t tk te b es clk hu e2]
    let g : Pl := .obj (stV (es.toList.map (·.born)) clk) (fun _ => False)
    let pl' := plus (plus pl nb (.at w.heap.size 0)) (nb + 1) g
    let bk' : List (Nat × Blk O) := (nb, .itr i (nb + 1)) :: (nb + 1, .dead) :: (i, .rng k y (nb + 1)) :: σ.bk
    have n1 : i ≠ nb := fun e => by rw [e, f1] at hB; cases hB
    have n2 : i ≠ nb + 1 := fun e => by rw [e, show look σ.bk (nb + 1) = none from f2] at hB; cases hB
    have p1 : pl' nb = .at w.heap.size 0 := by simp only [pl']; rw [plus_other _ _ (by omega), plus_same]
    have p2 : pl' (nb + 1) = g := by simp only [pl']; rw [plus_same]
    have p4 : ∀ j, j ≠ nb → j ≠ nb + 1 → pl' j = pl j := fun j h2 h3 => by simp only [pl']; rw [plus_other _ _ h3, plus_other _ _ h2]
    have p3 : pl' i = .obj (a.eval x) f := by rw [p4 i n1 n2]; exact q1
    have l1 : look bk' nb = some (.itr i (nb + 1)) := by simp only [bk', look_cons, if_pos]
    have l2 : look bk' (nb + 1) = some .dead := by simp only [bk', look_cons]; rw [if_neg (by omega), if_pos trivial]
    have l3 : look bk' i = some (.rng k y (nb + 1)) := by simp only [bk', look_cons]; rw [if_neg (fun e => n1 e.symm), if_neg (fun e => n2 e.symm), if_pos trivial]
    have l4 : ∀ j, j ≠ i → j ≠ nb → j ≠ nb + 1 → look bk' j = look σ.bk j := fun j h1 h2 h3 => by simp only [bk', look_cons]; rw [if_neg (fun e => h2 e.symm), if_neg (fun e => h3 e.symm), if_neg (fun e => h1 e.symm)]
    have hli : liveAt σ.bk i := ⟨_, hB, trivial⟩
    have hx : Ext (fun _ => True) w (w.alloc (.mapIter (some b) clk #[] clk)) := Ext.alloc _ _
    have hk : Keeps σ.bk bk' pl pl' := by
     intro j Bj hj
     by_cases g1 : j = i
     ·subst g1
      exact ⟨by rw [p4 j n1 n2]; exact Pl.same_refl _, _, l3, (by rintro t n ⟨ys, h | h, _⟩ <;> cases h), (fun ⟨_, h⟩ => by cases h), fun _ => by rw [hB] at hj; cases hj; rfl⟩
     ·have g2 : j ≠ nb := fun e => by rw [e, f1] at hj; cases hj
      have g3 : j ≠ nb + 1 := fun e => by rw [e, show look σ.bk (nb + 1) = none from f2] at hj; cases hj
      exact ⟨by rw [p4 j g2 g3]; exact Pl.same_refl _, Bj, by rw [l4 j g1 g2 g3]; exact hj, fun _ _ h => h, id, id⟩
    have hold : ∀ z, z < w.heap.size → (w.alloc (.mapIter (some b) clk #[] clk)).heap[z]? = w.heap[z]? := fun z hz => hx.keep z hz trivial
    have hfb : ∀ z, f z → z < w.heap.size := fun z hz => (hR.mem.bound i hli z (by rw [q1]; exact hz)).1
    have hM := mem_gen hR.mem (w' := w.alloc (.mapIter (some b) clk #[] clk)) (bk' := bk') (pl' := pl') (fun j => j = i ∨ j = nb ∨ j = nb + 1) (hx.mono fun _ _ h => h.elim) (fun z hz _ => hold z hz) hk ?_ ?_ ?_ ?_ ?_ ?_
    ·refine good_value (v := .pointer (some ⟨w.heap.size, 0, none⟩)) (w' := w.alloc (.mapIter (some b) clk #[] clk)) (pl' := pl') hrun (rel_gen hR hM hk hd ?_)
     exact ⟨rfl, _, l1, w.heap.size, 0, p1, rfl⟩
    ·intro j Bj hj hu
     simp only [not_or] at hu
     exact ⟨by rw [l4 j hu.1 hu.2.1 hu.2.2] at hj; exact hj, p4 j hu.2.1 hu.2.2⟩
    ·intro j hu hl z hz
     rcases hu with rfl | rfl | rfl
     ·rw [p3] at hz
      exact ⟨Nat.lt_of_lt_of_le (hfb z hz) hx.size, .inr ⟨j, .inl rfl, hli, by rw [q1]; exact hz⟩⟩
     ·rw [p1] at hz
      have hz : z = w.heap.size := hz
      subst hz
      exact ⟨by simp, .inl (Nat.le_refl _)⟩
     ·obtain ⟨Bj, g1, g2⟩ := hl
      rw [l2] at g1
      cases g1
      exact g2.elim
    ·intro j j' hu hu' hl hl' hne z hz hz'
     have nd : ∀ j, liveAt bk' j → j ≠ nb + 1 := fun j ⟨Bj, g1, g2⟩ e => by rw [e, l2] at g1; cases g1; exact g2
     rcases hu with rfl | rfl | rfl
     ·rcases hu' with rfl | rfl | rfl
      ·exact hne rfl
      ·rw [p3] at hz; rw [p1] at hz'
       have hz' : z = w.heap.size := hz'
       have := hfb z hz
       omega
      ·exact nd _ hl' rfl
     ·rcases hu' with rfl | rfl | rfl
      ·rw [p1] at hz; rw [p3] at hz'
       have hz : z = w.heap.size := hz
       have := hfb z hz'
       omega
      ·exact hne rfl
      ·exact nd _ hl' rfl
     ·exact nd _ hl rfl
    ·intro hRO hRw j Bj hu hj
     have eb : (w.alloc (.mapIter (some b) clk #[] clk)).heap[b]? = some (.map es clk) := by rw [hold b (hfb b e3)]; exact e2
     rcases hu with rfl | rfl | rfl
     ·rw [l3] at hj
      cases hj
      exact ⟨⟨_, l2⟩, a.eval x, f, _, clk, _, p3, p2, MapRel_mono hRO hRw (fun z hz => hold z (hfb z hz)) k y q2, b, es, e1, eb, rfl⟩
     ·rw [l1] at hj
      cases hj
      exact ⟨⟨_, l2⟩, w.heap.size, 0, _, clk, _, p1, p2, _, l3, fun _ => ⟨b, f, by rw [p3, e1], heap_alloc_new w _⟩⟩
     ·rw [l2] at hj
      cases hj
      trivial
    ·intro hRO j t xs hu hj
     rcases hu with rfl | rfl | rfl
     ·rw [l3] at hj; cases hj
     ·rw [l1] at hj; cases hj
     ·rw [l2] at hj; cases hj
    ·intro j hu hj
     rcases hu with rfl | rfl | rfl
     ·rw [hB] at hj; cases hj
     ·exact h64
     ·omega
   | _ => exact h4.elim
  | _ => exact h4.elim
 | _ => simp only [hs] at h2; exact h2.elim
theorem EntH_keys {R : Nat → Prop} {kt t : Ty} {V : Value → Prop} : ∀ {n : Option Nat} {m : List (kt.den × List t.den)} {es : List MapEntry} {ps : List Pl}, EntH w R kt t V n m es ps → All2 (fun p e => TRep w R kt p.1 e.key) m es
 | _, [], [], _, h => trivial
 | none, x :: m, e :: es, p :: ps, h => by unfold EntH at h; exact ⟨h.1.1, EntH_keys h.2⟩
 | some 0, x :: m, e :: es, p :: ps, h => by unfold EntH at h; exact ⟨h.1.1, EntH_keys h.2⟩
 | some (n + 1), x :: m, e :: es, p :: ps, h => by unfold EntH at h; exact ⟨h.1.1, EntH_keys h.2⟩
 | none, [], _ :: _, _, h => by simp [EntH] at h
 | some _, [], _ :: _, _, h => by simp [EntH] at h
 | none, _ :: _, [], _, h => by simp [EntH] at h
 | some 0, _ :: _, [], _, h => by simp [EntH] at h
 | some (_ + 1), _ :: _, [], _, h => by simp [EntH] at h
 | none, _ :: _, _ :: _, [], h => by simp [EntH] at h
 | some 0, _ :: _, _ :: _, [], h => by simp [EntH] at h
 | some (_ + 1), _ :: _, _ :: _, [], h => by simp [EntH] at h
theorem mhas_midx {K V : Type} {eq : K → K → Bool} {m : List (K × V)} {k : K} (h : mhas eq m k = true) : ∃ j, midx eq m k = some j := by
 cases hm : midx eq m k with
 | some j => exact ⟨j, rfl⟩
 | none =>
  obtain ⟨g1, _, _⟩ := midx_none hm
  unfold mhas at h
  rw [g1] at h
  cases h
theorem isIx_eq {x : Option Nat} {n : Nat} (h : isIx x n = true) : x = some n := by
 cases x with
 | none => cases h
 | some k => rw [Nat.eq_of_beq_eq_true h]
theorem good_mapUpR (hT : TTok P cfg.tt) (hR : Rel cx σ a w pl) (hd : ∀ d, o.dst = some d → d < cx.N) {t : TypeId} {m x y : Operand}
  (ho : o.op = .mapUpdate t m x y) {i : Nat} {kk : MapK} {e0 : kk.den} {h0 : Nat} (hc : CR w (RO cx w σ.bk pl) σ.bk pl (.obj i) (a.eval m)) (hB : look σ.bk i = some (.rng kk e0 h0))
  (h : (opMapUpR cfg o.dst t i kk e0 h0 x y : RM O).to σ wr) : Good P cx σ a w o wr := by
 unfold opMapUpR at h
 obtain ⟨tk, te, kt, vt, ki, ei, g1, g2, g3, g4, g5, g6, h1⟩ := mapTI_to hT h
 have K := g2.key g3 kt g4
 obtain ⟨xv, h2, h3⟩ := evT_to h1
 cases hag0 : beqB (T.isAg xv) kt.isAgg with
 | false => rw [hag0] at h3; exact h3.elim
 | true =>
 rw [hag0] at h3
 simp only at h3
 obtain ⟨key, fz0, h4, h5, h6⟩ := ofCells_to hR _ _ _ _ h3
 have harg : TRep w (fun _ => True) kt key (a.eval x) := TRep_mono (fun _ _ => trivial) (fun _ _ => rfl) (TRep_of (opd_TR hR h2) h6 hag0)
 cases hcm : castM kt vt ⟨kk, e0⟩ with
 | none => rw [hcm] at h4; exact h4.elim
 | some es =>
 rw [hcm] at h4
 have := castM_some hcm
 cases this
 simp only at h4
 obtain ⟨yv, h7, h8⟩ := evT_to h4
 cases hag : beqB (T.isAg yv) vt.isAgg with
 | false => rw [hag] at h8; exact h8.elim
 | true =>
 rw [hag] at h8
 simp only at h8
 obtain ⟨val, fz, h9, h10, h11⟩ := ofCells_to hR _ _ _ _ h8
 have hval := TRep_of (opd_TR hR h7) h11 hag
 cases hmem : memN i (fz.map (·.1)) with
 | true => rw [hmem] at h9; exact h9.elim
 | false =>
 rw [hmem] at h9
 simp only at h9
 cases hfz : fzOk fz with
 | false => rw [hfz] at h9; exact h9.elim
 | true =>
 rw [hfz] at h9
 obtain ⟨hhas, h12⟩ := h9
 cases h12
 obtain ⟨hRf, hkf, hROf⟩ := rel_freeze hR h10 (fzOk_mem hfz)
 have hnot : look fz i = none := by
  rw [look_none]
  intro x hx
  have : memN i (fz.map (·.1)) = true := (memN_iff _ _).2 (List.mem_map.2 ⟨(i, x), hx, rfl⟩)
  rw [hmem] at this; cases this
 have hBf : look (fz ++ σ.bk) i = some (.rng (.map kt vt) es h0) := by rw [look_append, hnot]; simpa using hB
 obtain ⟨⟨Bh, hBh⟩, v, f, ss, clk, gg, q1, q2, q3, b', es', q4, q5, q6⟩ := hRf.mem.blocks i _ hBf
 obtain ⟨_, b, me, clock, k1, k2, k3, k4, hrel⟩ := q3
 have eb : b = b' := by rw [k1] at q4; cases q4; rfl
 subst eb
 have ee : me = es' ∧ clock = clk := by rw [k2] at q5; cases q5; exact ⟨rfl, rfl⟩
 obtain ⟨ee1, ee2⟩ := ee
 subst ee1
 subst ee2
 subst k1
 have hm : a.eval m = .map (some b) := by
  obtain ⟨_, B2, hB2, hB3⟩ := hc
  rw [hB] at hB2
  cases hB2
  obtain ⟨f', r1⟩ := hB3 rfl
  rw [q1] at r1
  cases hq : a.eval m <;> rw [hq] at r1 <;> cases r1
  rfl
 have hval1 : TRep w (RO cx w (fz ++ σ.bk) pl) vt val (a.eval y) := TRep_mono hROf (fun _ _ => rfl) hval
 have hkey1 : TRep w (RO cx w (fz ++ σ.bk) pl) kt key (a.eval x) := TRep_flat K.flat harg
 have hfind := findKey_run K harg w (rel_keys hrel)
 have hchk := K.check w w (fun _ => True) false key _ harg
 obtain ⟨j, hmj⟩ := mhas_midx hhas
 obtain ⟨p, r1, r2, _, r4, _⟩ := midx_some hmj
 obtain ⟨e, r5, r6⟩ := hrel.get j p r1
 rw [hmj] at hfind
 simp only [Option.bind_some, r5, Option.map_some] at hfind
 have r5' : me[j]? = some e := by simpa using r5
 have hks := keyStays_run K r6.1 harg r2 w
 have hml := toList_modify me j (fun e => { e with key := a.eval x, val := a.eval y }) r5
 obtain ⟨me', hme'⟩ : ∃ me', me' = me.modify j fun e => { e with key := a.eval x, val := a.eval y } := ⟨_, rfl⟩
 rw [← hme'] at hml
 have hrun : (Instr.mapUpdate t (a.eval m) (a.eval x) (a.eval y)).run P w = .ok () (setO w b (.map me' clock)) := by
  unfold Instr.mapUpdate
  simp only [hm, Sem.run_bind, run_underlying g1, Result.andThen_ok, MapKept.run_getObj_map k2, hchk, hfind, r5', Option.map_some, Option.getD_some, hks, MapKept.run_setObj_map _ k2]
  rw [hme']
  rfl
 have hst : Stamps me'.toList clock := by rw [hml]; exact Stamps_map k4 (map_born_set r5 rfl)
 have hall : All2 (fun (p : kt.den × vt.den) e => TRep w (RO cx w (fz ++ σ.bk) pl) kt p.1 e.key ∧ TRep w (RO cx w (fz ++ σ.bk) pl) vt p.2 e.val) (mset (eqD kt) es key val) me'.toList := by
  rw [r4, hml]
  have he := K.eqd p.1 key r2
  exact hrel.set j ⟨by rw [he]; exact hkey1, hval1⟩
 have hborn : me'.toList.map (·.born) = me.toList.map (·.born) := by rw [hml]; exact map_born_set r5 rfl
 have hM := mem_obj hRf (σ := ⟨σ.sl, fz ++ σ.bk⟩) hBf trivial (B' := .rng (.map kt vt) (mset (eqD kt) es key val) h0) trivial (w' := setO w b (.map me' clock))
  ((setO_Ext w b _).mono fun x _ hx e => hx (by rw [q1]; exact (k3 x).2 e))
  (by rintro t n ⟨ys, h | h, hn⟩ <;> cases h) (fun ⟨_, h⟩ => by cases h) (fun _ => rfl)
  (fun hRO hRw hk => ⟨by
   obtain ⟨_, B', hB', _⟩ := hk h0 Bh hBh
   exact ⟨B', hB'⟩, _, f, ss, clock, gg, q1, q2, ⟨K.flat, b, me', clock, rfl, setO_same k2, k3, hst, hall.mono fun p e h => ⟨TRep_mono hRO hRw h.1, TRep_mono hRO hRw h.2⟩⟩, b, me', rfl, setO_same k2, by rw [hborn]; exact q6⟩)
 have hfin := rel_gen hRf hM.1 hM.2 (dst := o.dst) hd (s := undefS) (v := undef) rfl
 refine good_skip (w' := setO w b (.map me' clock)) (pl' := pl) (by simp [execOp, ho, hrun]) ?_
 simp only [St.app, capp, capp_eq] at hfin ⊢
 exact hfin
theorem good_mapUpH (hT : TTok P cfg.tt) (hR : Rel cx σ a w pl) (hd : ∀ d, o.dst = some d → d < cx.N) {t : TypeId} {m x y : Operand}
  (ho : o.op = .mapUpdate t m x y) {i : Nat} {k0 t0 : Ty} {e0 : List (k0.den × List t0.den)} {n h0 : Nat} (hc : CR w (RO cx w σ.bk pl) σ.bk pl (.obj i) (a.eval m)) (hB : look σ.bk i = some (.rngH k0 t0 e0 n h0))
  (h : (opMapUpH cfg o.dst t i k0 t0 e0 n h0 x y : RM O).to σ wr) : Good P cx σ a w o wr := by
 unfold opMapUpH at h
 obtain ⟨tk, te, kt, vt, ki, ei, g1, g2, g3, g4, g5, g6, h1⟩ := mapTI_to hT h
 have K := g2.key g3 kt g4
 obtain ⟨u, rfl⟩ : ∃ u, vt = .slice u := by cases vt <;> first | exact ⟨_, rfl⟩ | exact h1.elim
 simp only at h1
 obtain ⟨xv, h2, h3⟩ := evT_to h1
 cases hag0 : beqB (T.isAg xv) kt.isAgg with
 | false => rw [hag0] at h3; exact h3.elim
 | true =>
 rw [hag0] at h3
 simp only at h3
 obtain ⟨key, fz0, h4, h5, h6⟩ := ofCells_to hR _ _ _ _ h3
 have harg : TRep w (fun _ => True) kt key (a.eval x) := TRep_mono (fun _ _ => trivial) (fun _ _ => rfl) (TRep_of (opd_TR hR h2) h6 hag0)
 cases hcm : castS kt u ⟨.mapS k0 t0, e0⟩ with
 | none => rw [hcm] at h4; exact h4.elim
 | some es =>
 rw [hcm] at h4
 have := castS_some hcm
 cases this
 simp only at h4
 obtain ⟨c2, h7, h8⟩ := evC_to h4
 have hc2 := opd_CR hR h7
 obtain ⟨j, rfl⟩ : ∃ j, c2 = .own j := by cases c2 <;> first | exact ⟨_, rfl⟩ | exact h8.elim
 simp only [RM.to] at h8
 cases hr : rowW t0 (look σ.bk j) with
 | none => rw [hr] at h8; exact h8.elim
 | some xs =>
 rw [hr] at h8
 simp only at h8
 have hj := rowW_some hr
 cases h64 : Nat.ble 64 j with
 | false => rw [h64] at h8; exact h8.elim
 | true =>
 rw [h64] at h8
 obtain ⟨hN, h9⟩ := h8
 cases h9
 have hmj := isIx_eq hN
 obtain ⟨hkf, hz, ⟨Bh, hBh⟩, b, me, clk, ps, f, gg, p1, p2, p3, p4, p5, p6, p7, p8, p9⟩ := hR.mem.blocks i _ hB
 have hm : a.eval m = .map (some b) := by
  obtain ⟨_, B2, hB2, hB3⟩ := hc
  rw [hB] at hB2
  cases hB2
  obtain ⟨f', r1⟩ := hB3 rfl
  rw [p1] at r1
  cases hq : a.eval m <;> rw [hq] at r1 <;> cases r1
  rfl
 have hrow := (hR.mem.blocks j _ hj).2
 have hov := own_of hR (.inl hj) hc2
 have hij : i ≠ j := fun e => by rw [e, hj] at hB; cases hB
 have hih : i ≠ h0 := fun e => by
  rw [← e, p1] at p2
  cases p2
 have hli : liveAt σ.bk i := ⟨_, hB, trivial⟩
 have hlj : liveAt σ.bk j := ⟨_, hj, trivial⟩
 have hdj : ∀ z, f z → ¬ (pl j).fp z := fun z hz => hR.mem.disj i j hli hlj hij z (by rw [p1]; exact hz)
 have hkeys := EntH_keys p6
 have hfind := findKey_run K harg w hkeys
 have hchk := K.check w w (fun _ => True) false key _ harg
 obtain ⟨q, r1, r2, _⟩ := midx_some hmj
 rcases EntH_put n p6 with ⟨k1, _⟩ | ⟨x0, e, k1, k2, k3, _, k5⟩
 ·rw [r1] at k1; cases k1
 rw [r1] at k1
 cases k1
 rw [hmj] at hfind
 simp only [Option.bind_some, k2, Option.map_some] at hfind
 have k2' : me[n]? = some e := by simpa using k2
 have hks := keyStays_run K (hkeys.get' r1 k2) harg r2 w
 have hml := toList_modify me n (fun e => { e with key := a.eval x, val := a.eval y }) k2
 obtain ⟨me', hme'⟩ : ∃ me', me' = me.modify n fun e => { e with key := a.eval x, val := a.eval y } := ⟨_, rfl⟩
 rw [← hme'] at hml
 have hrun : (Instr.mapUpdate t (a.eval m) (a.eval x) (a.eval y)).run P w = .ok () (setO w b (.map me' clk)) := by
  unfold Instr.mapUpdate
  simp only [hm, Sem.run_bind, run_underlying g1, Result.andThen_ok, MapKept.run_getObj_map p3, hchk, hfind, k2', Option.map_some, Option.getD_some, hks, MapKept.run_setObj_map _ p3]
  rw [hme']
  rfl
 have hnl : n < e0.length := p7
 have hput : mput e0 (some n) xs = e0.set n (q.1, xs) := by simp [mput, r1]
 have hml' : me'.toList = (me.toList.set n { e with val := a.eval y }).set n { ({ e with val := a.eval y } : MapEntry) with key := a.eval x } := by
  rw [hml, List.set_set]
 have hE : EntS w (RO cx w σ.bk pl) k0 t0 (mput e0 (some n) xs) me'.toList (ps.set n (pl j)) := by
  rw [hput, hml']
  refine EntS_set n (k5 xs (pl j) (a.eval y) hrow hov) (x := (q.1, xs)) ?_ ?_ ?_
  ·rw [List.getElem?_set_self hnl]
  ·rw [List.getElem?_set_self (List.getElem?_eq_some_iff.1 k2).1]
  ·have he := K.eqd q.1 key r2
   show TRep _ _ k0 q.1 _
   rw [he]; exact TRep_flat K.flat harg
 have hborn : me'.toList.map (·.born) = me.toList.map (·.born) := by rw [hml]; exact map_born_set k2 rfl
 let f' : Nat → Prop := fun z => z = b ∨ ∃ r ∈ ps.set n (pl j), r.fp z
 have hps' : ∀ p ∈ ps.set n (pl j), ∀ z, p.fp z → f z ∨ (pl j).fp z := by
  intro p hp z hz
  rcases List.mem_or_eq_of_mem_set hp with hp | rfl
  ·exact .inl ((p4 z).2 (.inr ⟨p, hp, hz⟩))
  ·exact .inr hz
 have hap : ∀ p ∈ ps.set n (pl j), ¬ p.fp b := by
  intro p hp hb
  rcases List.mem_or_eq_of_mem_set hp with hp | rfl
  ·exact p9 p hp hb
  ·exact hdj b ((p4 b).2 (.inl rfl)) hb
 have hf' : ∀ z, f' z → f z ∨ (pl j).fp z := by
  rintro z (rfl | ⟨r, hr, h⟩)
  ·exact .inl ((p4 z).2 (.inl rfl))
  ·exact hps' r hr z h
 have hD : Disj (ps.set n (pl j)) := Disj_lay p8 fun q hq z hz hqz => hdj z ((p4 z).2 (.inr ⟨q, hq, hqz⟩)) hz
 let pl' := plus pl i (.obj (.map (some b)) f')
 let bk' : List (Nat × Blk O) := (i, .rng (.mapS k0 t0) (mput e0 (some n) xs) h0) :: (j, .dead) :: σ.bk
 have s1 : pl' i = .obj (.map (some b)) f' := plus_same _ _ _
 have s2 : ∀ k, k ≠ i → pl' k = pl k := fun k hk => plus_other _ _ hk
 have l1 : look bk' i = some (.rng (.mapS k0 t0) (mput e0 (some n) xs) h0) := by simp only [bk', look_cons, if_pos]
 have l2 : look bk' j = some .dead := by simp only [bk', look_cons]; rw [if_neg hij, if_pos trivial]
 have l3 : ∀ k, k ≠ i → k ≠ j → look bk' k = look σ.bk k := fun k g1 g2 => by simp only [bk', look_cons]; rw [if_neg (fun e => g1 e.symm), if_neg (fun e => g2 e.symm)]
 have hx : Ext (fun z => z ≠ b) w (setO w b (.map me' clk)) := setO_Ext w b _
 have hk : Keeps σ.bk bk' pl pl' := by
  intro k Bk hkk
  by_cases g1 : k = i
  ·subst g1
   exact ⟨by rw [p1, s1]; exact ⟨f', rfl⟩, _, l1, (by rintro t n ⟨ys, h | h, _⟩ <;> cases h), (fun ⟨_, h⟩ => by cases h), fun _ => by rw [hB] at hkk; cases hkk; rfl⟩
  ·by_cases g2 : k = j
   ·subst g2
    exact ⟨by rw [s2 k g1]; exact Pl.same_refl _, _, l2, (by rintro t n ⟨ys, h | h, _⟩ <;> cases h), (fun ⟨_, h⟩ => by cases h), (fun h => by cases h)⟩
   ·exact ⟨by rw [s2 k g1]; exact Pl.same_refl _, Bk, by rw [l3 k g1 g2]; exact hkk, fun _ _ h => h, id, id⟩
 have hM := mem_gen hR.mem (w' := setO w b (.map me' clk)) (bk' := bk') (pl' := pl') (fun k => k = i ∨ k = j) (hx.mono fun _ _ h => h.elim) ?_ hk ?_ ?_ ?_ ?_ ?_ ?_
 ·exact good_skip (w' := setO w b (.map me' clk)) (pl' := pl') (by simp [execOp, ho, hrun]) (rel_gen hR hM hk hd rfl)
 ·intro z hzl hz'
  exact hx.keep z hzl fun e => hz' i (.inl rfl) hli (by rw [p1]; exact (p4 z).2 (.inl e))
 ·intro k Bk hkk hu
  simp only [not_or] at hu
  exact ⟨by rw [l3 k hu.1 hu.2] at hkk; exact hkk, s2 k hu.1⟩
 ·intro k hu hl z hzf
  rcases hu with rfl | rfl
  ·rw [s1] at hzf
   rcases hf' z hzf with h | h
   ·have g : (pl k).fp z := by rw [p1]; exact h
    exact ⟨Nat.lt_of_lt_of_le (hR.mem.bound k hli z g).1 hx.size, .inr ⟨k, .inl rfl, hli, g⟩⟩
   ·exact ⟨Nat.lt_of_lt_of_le (hR.mem.bound j hlj z h).1 hx.size, .inr ⟨j, .inr rfl, hlj, h⟩⟩
  ·obtain ⟨Bk, g1, g2⟩ := hl
   rw [l2] at g1
   cases g1
   exact g2.elim
 ·intro k k' hu hu' hl hl' hne z hzf hzf'
  have nd : ∀ k, liveAt bk' k → k ≠ j := fun k ⟨Bk, g1, g2⟩ e => by rw [e, l2] at g1; cases g1; exact g2
  rcases hu with rfl | rfl
  ·rcases hu' with rfl | rfl
   ·exact hne rfl
   ·exact nd _ hl' rfl
  ·exact nd _ hl rfl
 ·intro hRO hRw k Bk hu hkk
  rcases hu with rfl | rfl
  ·rw [l1] at hkk
   cases hkk
   have hh : (setO w b (.map me' clk)).heap[b]? = some (.map me' clk) := setO_same p3
   refine ⟨?_, .map (some b), f', _, clk, gg, s1, by rw [s2 h0 (fun e => hih e.symm)]; exact p2, ⟨hkf, hz, b, me', clk, ps.set n (pl j), rfl, hh, fun z => Iff.rfl, ?_, EntS_mono hRO hRw (fun r hr z hz0 => hx.keep z ?_ fun e => hap r hr (e ▸ hz0)) hE, hD, hap⟩, b, me', rfl, hh, hborn⟩
   ·obtain ⟨_, B', hB', _⟩ := hk h0 Bh hBh
    exact ⟨B', hB'⟩
   ·exact Stamps_map p5 hborn
   ·rcases hps' r hr z hz0 with h | h
    ·exact (hR.mem.bound k hli z (by rw [p1]; exact h)).1
    ·exact (hR.mem.bound j hlj z h).1
  ·rw [l2] at hkk
   cases hkk
   trivial
 ·intro hRO k t ys hu hkk
  rcases hu with rfl | rfl
  ·rw [l1] at hkk; cases hkk
  ·rw [l2] at hkk; cases hkk
 ·intro k hu hkk
  rcases hu with rfl | rfl
  ·rw [hB] at hkk; cases hkk
  ·rw [hj] at hkk; cases hkk
theorem good_mapUpdateA (hT : TTok P cfg.tt) (hR : Rel cx σ a w pl) (hd : ∀ d, o.dst = some d → d < cx.N) {t : TypeId} {m x y : Operand}
  (ho : o.op = .mapUpdate t m x y) (h : (opMapUpdateA cfg o.dst t m x y : RM O).to σ wr) : Good P cx σ a w o wr := by
 obtain ⟨c, h1, h2⟩ := evC_to h
 have hc := opd_CR hR h1
 cases c with
 | obj i =>
  simp only [RM.to] at h2
  split at h2
  ·rename_i hB
   exact good_mapUpR hT hR hd ho hc hB h2
  ·rename_i hB
   exact good_mapUpH hT hR hd ho hc hB h2
  ·exact good_mapUpdate hT hR hd ho h2
 | _ => exact h2.elim
end
end Go.BB
set_option linter.unusedSimpArgs false
set_option linter.unusedVariables false
namespace Go.BB
open Go
section
variable {O : ObjK} {cx : Cx} {σ : St O} {a : Act} {w : World} {pl : Nat → Pl} {cfg : Cfg O} {P : Program} {o : Oper} {wr : Wr O}
theorem zeroCells_get {z : Array Value} {n j q : Nat} {v : Value} (hj : j < n) (hq : z[q]? = some v) : (Builtin.zeroCells z n)[j * z.size + q]? = some v := by
 have hq' : q < z.size := (Array.getElem?_eq_some_iff.1 hq).1
 have hlt : j * z.size + q < n * z.size := by
  have : (j + 1) * z.size ≤ n * z.size := Nat.mul_le_mul_right _ hj
  rw [Nat.add_mul, Nat.one_mul] at this
  omega
 unfold Builtin.zeroCells
 rw [Array.getElem?_map, Array.getElem?_eq_getElem (by simpa using hlt), Array.getElem_range, Option.map_some, Nat.mul_comm j, Nat.mul_add_mod, Nat.mod_eq_of_lt hq', Array.getElem!_eq_getD, Array.getD_eq_getD_getElem?, hq]
 rfl
theorem appendZ_run {t t' e ty : TypeId} {i : TypeInfo} {z : Value} {k kd : IntKind} {n : Nat} (ht : P.underlying t = some (.slice e)) (hu : P.underlying t' = some (.int k)) (hi : P.info? e = some i) (hz : i.zero = some z)
  (h0 : 0 < n) (h1 : 0 < i.size) (h63 : (n : Int) ≤ 140737488355328) (h48 : n * i.bytes ≤ 140737488355328) :
  (Builtin.append_ #[t, t'] ty #[.slice none 0 0, .int kd (n : Int)]).run P w =
   .ok (.slice (some ⟨w.heap.size, 0, none⟩) n (grownCap w n 0 e)) (w.drew.alloc (.cells (Builtin.zeroCells z.cells n ++ Builtin.zeroCells z.cells (grownCap w n 0 e - n)) e)) := by
 have hn : n ≠ 0 := by omega
 have hs : i.size ≠ 0 := by omega
 have wl : IntKind.i64.wrap (n : Int) = (n : Int) := i64_small (by omega) (by omega)
 have hneg : ¬ ((n : Int) < 0) := by omega
 have h63' : ¬ (9223372036854775807 < (n : Int)) := by omega
 have hb : ¬ (281474976710656 < (n : Int) * (i.bytes : Int)) := by
  have : (n : Int) * (i.bytes : Int) = ((n * i.bytes : Nat) : Int) := by rw [Int.natCast_mul]
  omega
 have h48' : ¬ (281474976710656 < Builtin.nextslicecap n 0 * i.bytes) := by rw [nextslicecap_zero h0]; omega
 have hns : ¬ (n * i.size = 0) := fun h => by rcases Nat.mul_eq_zero.1 h with h | h <;> omega
 simp [Builtin.append_, run_underlying ht, run_underlying hu, sizeOf, typeInfo, zeroValue, hi, hz, asInt, asIntOf, wl, hneg, hb, hn, hs, h63', h48', Question.forced, run_firstCells_none, newRow, grownCap]
 exact fun h => absurd h hns
theorem good_appendZ (hT : TTok P cfg.tt) (hR : Rel cx σ a w pl) (hd : ∀ d, o.dst = some d → d < cx.N) {nb : Nat} {t t' : TypeId} {x y : Operand}
  (ho : o.op = .call { callee := .builtin .append, args := #[x, y], argTypes := #[t, t'] }) (h : (opAppendZ cfg nb o.dst t t' x y : RM O).to σ wr) : Good P cx σ a w o wr := by
 obtain ⟨e, ty, ei, hu, he, hty, hz, h1⟩ := elemTI_to hT h
 obtain ⟨ti, h2, h3⟩ := getTI_to h1
 split at h3
 ·rename_i k hk
  obtain ⟨c1, h4, h5⟩ := evC_to h3
  obtain ⟨kd, n, h6, h7⟩ := evI_to h5
  split at h7
  ·obtain ⟨g1, g2, g3, h8⟩ := h7
   obtain ⟨hn, h64, h9⟩ := fresh_to h8
   cases h9
   have g1 := of_decide_eq_true g1
   have g2 := of_decide_eq_true g2
   have g3 := of_decide_eq_true g3
   simp only [LIM] at g2 g3
   have hx : a.eval x = .slice none 0 0 := opd_CR hR h4
   have hy := opd_sc hR h6
   have hu' := (hT t' ti h2).int k hk
   obtain ⟨i0, z, q1, q2, q3, q4, q5⟩ := he.info
   have hsz : ty.sz = ei.size := he.size ty hty
   have hzc : z.cells.size = ty.sz := by
    have := Rep_len _ _ _ (he.zero ty hty w (fun _ => True))
    rw [← q5] at this
    simpa using this
   obtain ⟨m, rfl⟩ : ∃ m : Nat, n = (m : Int) := ⟨n.toNat, by omega⟩
   have em : ((m : Nat) : Int).toNat = m := by omega
   rw [em] at g2 g3 ⊢
   have hrun := appendZ_run (P := P) (w := w) (ty := o.type) (kd := kd) (n := m) hu hu' q1 q4 (by omega) (by rw [q2, ← hsz]; exact hz) (by omega) (by rw [q3]; omega)
   have hcap := grownCap_ge w m 0 e
   have hcapm := grownCap_le_maxLen w m 0 e (by simp only [maxLen]; omega)
   have hrl : (List.replicate m ty.zero).length = m := by simp
   have hM := mem_alloc hR hn h64 (w' := w.drew.alloc (.cells (Builtin.zeroCells z.cells m ++ Builtin.zeroCells z.cells (grownCap w m 0 e - m)) e)) ((Ext.drew w).trans (Ext.alloc _ _)) (B := .row ty (List.replicate m ty.zero)) (p := .at w.heap.size (grownCap w m 0 e)) (fun b hb => by cases hb; simp) trivial
    (fun hRO hRw hk => ⟨hz, by
     rw [plus_same]
     refine ⟨_, e, heap_alloc_new w.drew _, ?_, by rw [hrl]; exact hcap, hcapm, fun j x hj => ?_⟩
     ·simp only [Array.size_append, size_zeroCells, hzc, ← Nat.add_mul]
      congr 1; omega
     ·rw [List.getElem?_replicate] at hj
      split at hj
      ·rename_i hlt
       cases hj
       refine ⟨ei.zero, rep_zero he hty, fun q v hq => ?_⟩
       rw [← q5] at hq
       have hq2 : z.cells[q]? = some v := by simpa using hq
       have hq3 : q < z.cells.size := (Array.getElem?_eq_some_iff.1 hq2).1
       rw [← hzc, Array.getElem?_append_left]
       ·exact zeroCells_get hlt hq2
       ·rw [size_zeroCells]
        have : (j + 1) * z.cells.size ≤ m * z.cells.size := Nat.mul_le_mul_right _ hlt
        rw [Nat.add_mul, Nat.one_mul] at this
        omega
      ·simp at hj⟩)
   refine good_value (v := .slice (some ⟨w.heap.size, 0, none⟩) m (grownCap w m 0 e)) (w' := w.drew.alloc (.cells (Builtin.zeroCells z.cells m ++ Builtin.zeroCells z.cells (grownCap w m 0 e - m)) e)) (pl' := plus pl nb (.at w.heap.size (grownCap w m 0 e))) (by simp only [execOp, ho, resolve, invoke, builtin, Sem.run_bind, Sem.run_pure, Result.andThen_ok, List.map_toArray, List.map_cons, List.map_nil, hx, hy, hrun]) ?_
   refine rel_gen hR hM.1 hM.2 hd ⟨rfl, .row ty (List.replicate m ty.zero), by rw [look_cons]; simp, fun t' n hn => ?_⟩
   rw [plus_same]
   obtain ⟨ys, q1 | q1, q2⟩ := hn <;> cases q1
   rw [hrl] at q2
   subst q2
   rfl
  ·exact h7.elim
 ·exact h3.elim
end
end Go.BB
