/- A symbolic machine for the model's code, and what it shows of this seat's functions. No conditions. -/
import Derived.Test.YtnofmeckcimodaaFOpM
set_option linter.unusedSimpArgs false
set_option linter.unusedVariables false
namespace Go.BB
open Go
section
variable {O : ObjK} {cx : Cx} {σ : St O} {a : Act} {w : World} {pl : Nat → Pl} {cfg : Cfg O} {P : Program} {o : Oper} {wr : Wr O}

theorem arrTI_to {t : Nat} {k : Nat → Ty → TI → RM O} (hT : TTok P cfg.tt) (h : (arrTI cfg t k).to σ wr) :
  ∃ n e ty ei ti, look cfg.tt t = some ti ∧ TIok P t ti ∧ P.underlying t = some (.array n e) ∧ TIok P e ei ∧ ei.ty = some ty ∧ 0 < ty.sz ∧ n ≤ 16777216 ∧ (k n ty ei).to σ wr := by
 obtain ⟨ti, h1, h2⟩ := getTI_to h
 cases hs : ti.sub with
 | arr n e =>
  simp only [hs] at h2
  obtain ⟨ei, h3, h4⟩ := getTI_to h2
  cases hy : ei.ty with
  | none => rw [hy] at h4; exact h4.elim
  | some ty =>
   simp only [hy] at h4
   cases hz : Nat.blt 0 ty.sz with
   | false => rw [hz] at h4; exact h4.elim
   | true =>
    rw [hz] at h4
    simp only at h4
    cases hn : Nat.ble n 16777216 with
    | false => rw [hn] at h4; exact h4.elim
    | true =>
     rw [hn] at h4
     exact ⟨n, e, ty, ei, ti, h1, hT t ti h1, (hT t ti h1).arr n e hs, hT e ei h3, hy, Nat.le_of_ble_eq_true hz, Nat.le_of_ble_eq_true hn, h4⟩
 | _ => simp only [hs] at h2; exact h2.elim
theorem arrParts_to (hR : Rel cx σ a w pl) {ty : Ty} : ∀ (n : Nat) (cs : List C) (k : List ty.den → List (Nat × Blk O) → RM O), (arrParts ty n cs k).to σ wr →
  ∃ xs fz, (k xs fz).to σ wr ∧ (xs : List ty.den).length = n ∧ ∀ vs, All2 (CR w (RO cx w σ.bk pl) σ.bk pl) cs vs → vs.length = n * ty.sz ∧ (fz = [] → ∀ i x, xs[i]? = some x → Rep w (RO cx w σ.bk pl) ty x ((vs.drop (i * ty.sz)).take ty.sz))
 | 0, cs, k, h => by
  unfold arrParts at h
  split at h
  ·refine ⟨[], [], h, rfl, fun vs hv => ?_⟩
   match vs, hv with
   | [], _ => exact ⟨by simp, fun _ i x hx => by simp at hx⟩
  ·exact h.elim
 | n + 1, cs, k, h => by
  unfold arrParts at h
  obtain ⟨x, f, h1, h2, h3⟩ := ofCells_to hR _ _ _ _ h
  obtain ⟨xs, g, h4, h5, h6⟩ := arrParts_to hR n _ _ h1
  refine ⟨x :: xs, capp f g, h4, by simp [h5], fun vs hv => ?_⟩
  rw [ctake_eq] at h3
  rw [cdrop_eq] at h6
  have q1 := h3 _ (hv.take ty.sz)
  obtain ⟨q2, q3⟩ := h6 _ (hv.drop ty.sz)
  have l1 := Rep_len _ _ _ q1
  rw [List.length_take] at l1
  rw [List.length_drop] at q2
  refine ⟨by rw [Nat.add_mul, Nat.one_mul]; omega, fun hfz i y hi => ?_⟩
  rw [capp_eq] at hfz
  obtain ⟨hf, hg⟩ := List.append_eq_nil_iff.1 hfz
  cases i with
  | zero =>
   simp only [List.getElem?_cons_zero, Option.some.injEq] at hi
   subst hi
   rw [Nat.zero_mul, List.drop_zero]
   subst hf
   exact Rep_mono (fun b hb => by
    rcases hb with hb | ⟨q, hq, _⟩
    ·exact hb
    ·cases hq) (fun _ _ => rfl) _ _ _ q1
  | succ i =>
   have := q3 hg i y (by simpa using hi)
   rw [List.drop_drop] at this
   rw [show (i + 1) * ty.sz = ty.sz + i * ty.sz by rw [Nat.add_mul, Nat.one_mul, Nat.add_comm]]
   exact this
theorem tagg_isAgg {t : Nat} {ti : TI} (h : TIok P t ti) {ty : Ty} (hty : ti.ty = some ty) : ti.agg = ty.isAgg := by
 rw [h.tagg ty hty]
 cases ty <;> rfl
theorem part_run {t : Nat} {ti : TI} (h : TIok P t ti) {ty : Ty} (hty : ti.ty = some ty) {R : Nat → Prop} {x : ty.den} {arr : Array Value} {off : Nat} (hr : Rep w R ty x ((arr.toList.drop off).take ty.sz)) :
  ∃ v, (Go.part t arr off).run P w = .ok v w ∧ TRep w R ty x v := by
 have hsz := h.size ty hty
 unfold TRep
 unfold Go.part
 simp only [Sem.run_bind, isAgg_run h, Result.andThen_ok]
 rw [tagg_isAgg h hty]
 cases ha : ty.isAgg with
 | true =>
  refine ⟨.agg (arr.extract off (off + ti.size)), by simp [sizeOf_run h], _, rfl, ?_⟩
  rw [Array.toList_extract, List.extract_eq_take_drop, Nat.add_sub_cancel_left, ← hsz]
  exact hr
 | false =>
  have h1 : ty.sz = 1 := by cases ty <;> first | rfl | cases ha
  rw [h1] at hr
  have hl := Rep_len _ _ _ hr
  rw [h1, List.length_take, List.length_drop, Array.length_toList] at hl
  have hlt : off < arr.size := by omega
  refine ⟨arr[off], by simp [hlt], ?_⟩
  have : (arr.toList.drop off).take 1 = [arr[off]] := by
   rw [List.drop_eq_getElem_cons (by simpa using hlt)]
   simp
  rw [this] at hr
  exact hr
theorem good_index (hT : TTok P cfg.tt) (hR : Rel cx σ a w pl) (hd : ∀ d, o.dst = some d → d < cx.N) {t : TypeId} {x ix : Operand}
  (ho : o.op = .index t x ix) (h : (opIndex cfg o.dst t x ix : RM O).to σ wr) : Good P cx σ a w o wr := by
 obtain ⟨n, e, ty, ei, ti, h1, h2, h3, h4, h5, h6, _, h7⟩ := arrTI_to hT h
 obtain ⟨v, h8, h9⟩ := evT_to h7
 have hv := opd_TR hR h8
 cases v with
 | one c => exact h9.elim
 | ag cs =>
  simp only at h9
  obtain ⟨k, i, h10, h11⟩ := evI_to h9
  have hi := opd_sc hR h10
  obtain ⟨xs, fz, h12, h13, h14⟩ := arrParts_to hR _ _ _ h11
  obtain ⟨arr, he, hcs⟩ := hv
  cases fz with
  | cons _ _ => exact h12.elim
  | nil =>
   obtain ⟨g1, g2, g3⟩ := h12
   have h0 : 0 ≤ i := of_decide_eq_true g1
   have hlt : i < (n : Int) := of_decide_eq_true g2
   obtain ⟨_, q⟩ := h14 _ hcs
   have hj : xs[i.toNat]? = some (xs.getD i.toNat ty.zero) := by rw [List.getD_eq_getElem?_getD, List.getElem?_eq_getElem (by omega)]; rfl
   obtain ⟨u, r1, r2⟩ := part_run h4 h5 (q rfl _ _ hj)
   rw [ret1_to g3]
   refine good_put hR hd (v := u) ?_ (tOf_TR r2)
   rw [h4.size ty h5] at r1
   simp [execOp, ho, he, hi, Instr.index, asIntOf, run_underlying h3, h0, hlt, sizeOf_run h4, r1]
theorem newArr_to (hT : TTok P cfg.tt) (hR : Rel cx σ a w pl) (hd : ∀ d, o.dst = some d → d < cx.N) {nb t : Nat} {cs : List C} {vs : Array Value} (hv : All2 (CR w (RO cx w σ.bk pl) σ.bk pl) cs vs.toList)
  (hrun : (execOp a.eval o).run P w = .ok (.value (.pointer (some ⟨w.heap.size, 0, none⟩))) (w.alloc (.cells vs t))) (h : (newArr cfg nb o.dst t cs : RM O).to σ wr) : Good P cx σ a w o wr := by
 obtain ⟨n, e, ty, ei, ti, h1, h2, h3, h4, h5, h6, hn, h7⟩ := arrTI_to hT h
 obtain ⟨xs, fz, h8, h9, h10⟩ := arrParts_to hR _ _ _ h7
 cases fz with
 | cons _ _ => exact h8.elim
 | nil =>
  obtain ⟨g1, g2, g3⟩ := fresh_to h8
  cases g3
  obtain ⟨q1, q2⟩ := h10 _ hv
  have hM := mem_alloc hR g1 g2 (w' := w.alloc (.cells vs t)) (Ext.alloc _ _) (B := .row ty xs) (p := .at w.heap.size n) (fun b hb => by cases hb; simp) trivial
   (fun hRO hRw hk => ⟨h6, by
    rw [plus_same]
    refine ⟨vs, t, heap_alloc_new w _, by simpa using q1, by omega, by simp only [maxLen]; omega, fun j x hj => ?_⟩
    refine ⟨_, Rep_mono hRO hRw _ _ _ (q2 rfl j x hj), fun q v hq => ?_⟩
    rw [List.getElem?_take] at hq
    split at hq
    ·rw [List.getElem?_drop] at hq; simpa using hq
    ·cases hq⟩)
  refine good_value (v := .pointer (some ⟨w.heap.size, 0, none⟩)) (w' := w.alloc (.cells vs t)) (pl' := plus pl nb (.at w.heap.size n)) hrun ?_
  refine rel_gen hR hM.1 hM.2 hd ⟨rfl, .row ty xs, by rw [look_cons]; simp, fun t' m hm => ?_⟩
  obtain ⟨ys, p1 | p1, p2⟩ := hm <;> cases p1
  exact ⟨by rw [← p2, h9], _, plus_same _ _ _, rfl⟩
theorem good_boxA (hT : TTok P cfg.tt) (hR : Rel cx σ a w pl) (hd : ∀ d, o.dst = some d → d < cx.N) {nb : Nat} {e : TypeId} {x : Operand}
  (ho : o.op = .box e x) (h : (opBoxA cfg nb o.dst e x : RM O).to σ wr) : Good P cx σ a w o wr := by
 unfold opBoxA at h
 split at h
 ·split at h
  ·obtain ⟨v, h1, h2⟩ := evT_to h
   have hv := opd_TR hR h1
   cases v with
   | one c => exact h2.elim
   | ag cs =>
    obtain ⟨arr, he, hcs⟩ := hv
    exact newArr_to hT hR hd hcs (by simp [execOp, ho, Instr.box, newVar, newRow, he, Value.cells]) h2
  ·exact good_box hR hd ho h
 ·exact good_box hR hd ho h
theorem good_allocA (hT : TTok P cfg.tt) (hR : Rel cx σ a w pl) (hd : ∀ d, o.dst = some d → d < cx.N) {nb : Nat} {e : TypeId}
  (ho : o.op = .alloc e) (h : (opAllocA cfg nb o.dst e : RM O).to σ wr) : Good P cx σ a w o wr := by
 obtain ⟨ti, h1, h2⟩ := getTI_to h
 split at h2
 ·obtain ⟨i, z, g1, g2, g3, g4, g5⟩ := (hT e ti h1).info
  exact newArr_to hT hR hd (vs := z.cells) (by rw [g5]; exact All2_sc _) (by simp [execOp, ho, Instr.alloc, zeroValue, typeInfo, g1, g4, newVar, newRow]) h2
 ·exact good_alloc hT hR hd ho h2
theorem arr_of {i n : Nat} {t : Ty} {xs : List t.den} {u : Value} (hl : look σ.bk i = some (.row t xs) ∨ look σ.bk i = some (.fro t xs)) (hc : CR w (RO cx w σ.bk pl) σ.bk pl (.arr i n) u) :
  xs.length = n ∧ ∃ b, pl i = .at b n ∧ u = .pointer (some ⟨b, 0, none⟩) := by
 obtain ⟨_, B, hB, hB2⟩ := hc
 rcases hl with hl | hl <;> rw [hl] at hB <;> cases hB
 ·exact hB2 _ _ (isRow_row t xs)
 ·exact hB2 _ _ (isRow_fro t xs)
theorem cellsN_CR {R : Nat → Prop} {bk : List (Nat × Blk O)} {ty : Ty} {xs : List ty.den} {vs : List Value} : ∀ (m k : Nat), (∀ j, k ≤ j → j < k + m → Rep w R ty (xs.getD j ty.zero) ((vs.drop (j * ty.sz)).take ty.sz)) →
  All2 (CR w R bk pl) (cellsN ty xs k m) ((vs.drop (k * ty.sz)).take (m * ty.sz))
 | 0, k, _ => by simp [cellsN, All2]
 | m + 1, k, h => by
  unfold cellsN
  rw [capp_eq]
  have h1 := cellsOf_CR (bk := bk) (pl := pl) (fun _ h => h) _ _ _ (h k (Nat.le_refl _) (by omega))
  have h2 := cellsN_CR (bk := bk) (xs := xs) (vs := vs) m (k + 1) (fun j hj hj' => h j (by omega) (by omega))
  rw [show (m + 1) * ty.sz = ty.sz + m * ty.sz by rw [Nat.add_mul, Nat.one_mul, Nat.add_comm], List.take_add, List.drop_drop]
  rw [show (k + 1) * ty.sz = k * ty.sz + ty.sz by rw [Nat.add_mul, Nat.one_mul]] at h2
  exact h1.append h2
theorem good_loadA (hT : TTok P cfg.tt) (hR : Rel cx σ a w pl) (hd : ∀ d, o.dst = some d → d < cx.N) {t : TypeId} {x : Operand}
  (ho : o.op = .load t x) (h : (opLoadA cfg o.dst t x : RM O).to σ wr) : Good P cx σ a w o wr := by
 obtain ⟨c, h1, h2⟩ := evC_to h
 cases c with
 | arr i m =>
  simp only at h2
  obtain ⟨n, e, ty, ei, ti, g1, g2, g3, g4, g5, g6, gn, h3⟩ := arrTI_to hT h2
  cases hb : Nat.beq n m with
  | false => rw [hb] at h3; exact h3.elim
  | true =>
   have := Nat.eq_of_beq_eq_true hb
   subst this
   rw [hb] at h3
   simp only [RM.to] at h3
   cases hr : rowAs ty (look σ.bk i) with
   | none => rw [hr] at h3; exact h3.elim
   | some xs =>
    rw [hr] at h3
    simp only at h3
    obtain ⟨ti', g1', h4⟩ := getTI_to h3
    rw [g1] at g1'
    cases g1'
    cases hs : Nat.beq (Nat.mul n ei.size) ti.size with
    | false => rw [hs] at h4; exact h4.elim
    | true =>
     rw [hs] at h4
     simp only [forceM_eq] at h4
     have hsz : n * ei.size = ti.size := Nat.eq_of_beq_eq_true hs
     have hes := g4.size ty g5
     have hl := rowAs_some hr
     obtain ⟨hz, hrow⟩ := row_of hR hl
     obtain ⟨q1, b, q2, q3⟩ := arr_of hl (opd_CR hR h1)
     rw [q2] at hrow
     obtain ⟨arr, e', k1, k2, k3, k4, k5⟩ := hrow
     have hall : arr.toList.length = n * ty.sz := by simpa using k2
     have hrep : ∀ j, 0 ≤ j → j < 0 + n → Rep w (RO cx w σ.bk pl) ty (xs.getD j ty.zero) ((arr.toList.drop (j * ty.sz)).take ty.sz) := by
      intro j _ hj
      have hx : xs[j]? = some (xs.getD j ty.zero) := by rw [List.getD_eq_getElem?_getD, List.getElem?_eq_getElem (by omega)]; rfl
      obtain ⟨cs, p1, p2⟩ := k5 j _ hx
      have l1 := Rep_len _ _ _ p1
      have hmul : (j + 1) * ty.sz ≤ n * ty.sz := Nat.mul_le_mul_right _ (by omega)
      rw [Nat.add_mul, Nat.one_mul] at hmul
      have : (arr.toList.drop (j * ty.sz)).take ty.sz = cs := by
       apply List.ext_getElem?
       intro q
       rw [List.getElem?_take]
       split
       ·rename_i hq
        rw [List.getElem?_drop]
        rw [List.getElem?_eq_getElem (by omega : q < cs.length)]
        have := p2 q _ (List.getElem?_eq_getElem (by omega))
        simpa using this
       ·rw [List.getElem?_eq_none (by omega)]
      rw [this]; exact p1
     have hcs := cellsN_CR (bk := σ.bk) (pl := pl) n 0 hrep
     rw [Nat.zero_mul, List.drop_zero, ← hall, List.take_length] at hcs
     rw [ret1_to h4]
     refine good_put hR hd (v := .agg arr.toList.toArray) ?_ ⟨_, rfl, by simpa using hcs⟩
     have hagg : ti.agg = true := by
      obtain ⟨d, d1, d2⟩ := g2.agg
      rw [g3] at d1
      cases d1
      exact d2
     have hrun := loadVar_run (P := P) (w := w) g2 (ad := ⟨b, 0, none⟩) (vs := arr.toList) (by rw [hall, hes, hsz]) (fun j v hj => by
      rw [add_at, cell_of_row w b _ arr e' (0, 0) k1]
      simpa using hj) (.inl ⟨hagg, rfl⟩)
     simp [execOp, ho, q3, Instr.loadAt, Instr.sureAddr, hrun]
 | _ => exact good_load hT hR hd ho h2
theorem good_storeA (hT : TTok P cfg.tt) (hR : Rel cx σ a w pl) (hd : ∀ d, o.dst = some d → d < cx.N) {t : TypeId} {x y : Operand}
  (ho : o.op = .store t x y) (h : (opStoreA cfg o.dst t x y : RM O).to σ wr) : Good P cx σ a w o wr := by
 obtain ⟨c, h1, h2⟩ := evC_to h
 cases c with
 | arr i m =>
  simp only at h2
  obtain ⟨v, h3, h4⟩ := evT_to h2
  obtain ⟨n, e, ty, ei, ti, g1, g2, g3, g4, g5, g6, gn, h5⟩ := arrTI_to hT h4
  have hv := opd_TR hR h3
  cases hb : Nat.beq n m with
  | false => rw [hb] at h5; exact h5.elim
  | true =>
   have := Nat.eq_of_beq_eq_true hb
   subst this
   rw [hb] at h5
   cases v with
   | one c => exact h5.elim
   | ag cs =>
    simp only at h5
    obtain ⟨xs, fz, h6, h7, h8⟩ := arrParts_to hR _ _ _ h5
    cases fz with
    | cons _ _ => exact h6.elim
    | nil =>
     simp only [RM.to] at h6
     cases hr : rowW ty (look σ.bk i) with
     | none => rw [hr] at h6; exact h6.elim
     | some zs =>
      rw [hr] at h6
      simp only at h6
      obtain ⟨ti', g1', h9⟩ := getTI_to h6
      rw [g1] at g1'
      cases g1'
      cases hs : Nat.beq (Nat.mul n ei.size) ti.size with
      | false => rw [hs] at h9; exact h9.elim
      | true =>
       rw [hs] at h9
       cases h9
       have hsz : n * ei.size = ti.size := Nat.eq_of_beq_eq_true hs
       have hes := g4.size ty g5
       have hl := rowW_some hr
       obtain ⟨hz, hrow⟩ := row_of hR (.inl hl)
       obtain ⟨q1, b, q2, q3⟩ := arr_of (.inl hl) (opd_CR hR h1)
       rw [q2] at hrow
       obtain ⟨arr, e', k1, k2, k3, k4, k5⟩ := hrow
       obtain ⟨va, e1, e2⟩ := hv
       obtain ⟨p1, p2⟩ := h8 _ e2
       have hvl : (a.eval y).cells.size = n * ty.sz := by rw [e1]; simpa [Value.cells] using p1
       have hvc : (a.eval y).cells.toList = va.toList := by rw [e1]; rfl
       have hone : ∀ u ∈ (a.eval y).cells.toList, u.oneCell' = true := by
        rw [hvc]
        intro u hu
        obtain ⟨q, hq, rfl⟩ := List.mem_iff_getElem.1 hu
        rw [p1] at hq
        have hqd : q / ty.sz < n := Nat.div_lt_of_lt_mul (by rw [Nat.mul_comm]; exact hq)
        have hx : xs[q / ty.sz]? = some (xs.getD (q / ty.sz) ty.zero) := by rw [List.getD_eq_getElem?_getD, List.getElem?_eq_getElem (by omega)]; rfl
        have hrep := p2 rfl _ _ hx
        refine Rep_one _ _ _ hrep _ ?_
        have hm := Nat.mod_lt q hz
        have hdm := Nat.div_add_mod q ty.sz
        refine List.mem_of_getElem? (i := q % ty.sz) ?_
        rw [List.getElem?_take, if_pos hm, List.getElem?_drop, Nat.mul_comm, hdm, List.getElem?_eq_getElem (by rw [p1]; exact hq)]
       have hrun := storeVar_run (P := P) (w := w) g2 k1 (v := a.eval y) (off := 0) (by rw [hvl, hes, hsz]) (by rw [hvl, k2]; omega) hone
       have hL : (arr.toList.take 0 ++ (a.eval y).cells.toList ++ arr.toList.drop (0 + (a.eval y).cells.size)).toArray = va := by
        have hnil : List.drop arr.size arr.toList = [] := List.drop_eq_nil_of_le (by simp)
        rw [hvl, ← k2, hvc]
        simp [hnil]
       rw [hL] at hrun
       have hM := mem_write hR hl trivial (B' := .row ty xs) trivial q2 (w' := w.setRow b va) (setRow_Ext w b _)
        (by
         rintro t' n' ⟨ys, h | h, hn⟩
         ·cases h; exact ⟨zs, .inl rfl, by rw [← hn, h7]; exact q1⟩
         ·cases h)
        (fun ⟨_, h⟩ => by cases h) (fun h => by cases h)
        (fun hRO hRw hk => ⟨hz, by
         rw [q2]
         refine ⟨va, e', setRow_heap w b arr _ e' (0, 0) k1, by simpa using p1, by rw [h7]; exact Nat.le_refl _, k4, fun j x hj => ⟨_, Rep_mono hRO hRw _ _ _ (p2 rfl j x hj), fun q v hq => ?_⟩⟩
         rw [List.getElem?_take] at hq
         split at hq
         ·rw [List.getElem?_drop] at hq; simpa using hq
         ·cases hq⟩)
       exact good_skip (w' := w.setRow b va) (pl' := pl) (by
        simp only [execOp, ho, q3, Instr.storeAt, Instr.sureAddr, Sem.run_bind, Sem.run_pure, Result.andThen_ok, hrun]) (rel_gen hR hM.1 hM.2 hd rfl)
 | _ => exact good_store hT hR hd ho h2
theorem good_indexAddrA (hT : TTok P cfg.tt) (hR : Rel cx σ a w pl) (hd : ∀ d, o.dst = some d → d < cx.N) {t : TypeId} {x ix : Operand}
  (ho : o.op = .indexAddr t x ix) (h : (opIndexAddrA cfg o.dst t x ix : RM O).to σ wr) : Good P cx σ a w o wr := by
 obtain ⟨ti0, _, h0⟩ := getTI_to h
 split at h0
 ·obtain ⟨n, e, ty, ei, ti, g1, g2, g3, g4, g5, g6, gn, h3⟩ := arrTI_to hT h0
  obtain ⟨c, h1, h4⟩ := evC_to h3
  obtain ⟨k, i, h5, h6⟩ := evI_to h4
  have hi := opd_sc hR h5
  cases c with
  | arr b m =>
   simp only at h6
   cases hb : Nat.beq n m with
   | false => rw [hb] at h6; exact h6.elim
   | true =>
    have := Nat.eq_of_beq_eq_true hb
    subst this
    rw [hb] at h6
    simp only [RM.to] at h6
    cases hr : rowAs ty (look σ.bk b) with
    | none => rw [hr] at h6; exact h6.elim
    | some xs =>
     rw [hr] at h6
     obtain ⟨k1, k2, k3⟩ := h6
     have hl := rowAs_some hr
     have h0 : 0 ≤ i := of_decide_eq_true k1
     have hlt : i < (n : Int) := of_decide_eq_true k2
     obtain ⟨q1, bb, q2, q3⟩ := arr_of hl (opd_CR hR h1)
     rw [ret1_to k3]
     have hes := g4.size ty g5
     have hB : ∃ B, look σ.bk b = some B := by rcases hl with hl | hl <;> exact ⟨_, hl⟩
     obtain ⟨B, hB⟩ := hB
     refine good_put hR hd (v := .pointer (some ((⟨bb, 0, none⟩ : Addr).add (i.toNat * ei.size)))) ?_ ⟨rfl, B, hB, fun t' m hm => ?_⟩
     ·simp [execOp, ho, q3, hi, Instr.indexAt, asIntOf, run_underlying g3, Instr.sureAddr, h0, hlt, sizeOf_run g4]
     ·obtain ⟨rfl, rfl⟩ := isRow_at hl hB hm
      exact ⟨by omega, bb, n, q2, by rw [add_at, hes]; simp⟩
  | _ => exact h6.elim
 ·exact good_indexAddr hT hR hd ho h0
theorem good_nilA (hR : Rel cx σ a w pl) (hd : ∀ d, o.dst = some d → d < cx.N) {x : Operand}
  (ho : o.op = .nilCheck x) (h : (opNilA o.dst x : RM O).to σ wr) : Good P cx σ a w o wr := by
 obtain ⟨c, h1, h2⟩ := evC_to h
 have hc := opd_CR hR h1
 cases c with
 | arr i n =>
  simp only [RM.to] at h2
  cases hr : rowAny (look σ.bk i) with
  | none => rw [hr] at h2; exact h2.elim
  | some s =>
   rw [hr] at h2
   obtain ⟨q1, b, q2, q3⟩ := arr_of (rowAny_some hr) hc
   rw [ret1_to h2]
   refine good_put hR hd (v := a.eval x) ?_ hc
   simp [execOp, ho, q3]
 | _ => exact good_nil hR hd ho h2
theorem fillArr_to (hR : Rel cx σ a w pl) {size : Nat} : ∀ (parts : List (Nat × Operand)) (cs : List C) (arr : Array Value) (k : List C → RM O), (fillArr size parts cs k).to σ wr → All2 (CR w (RO cx w σ.bk pl) σ.bk pl) cs arr.toList →
  ∃ cs' arr', (k cs').to σ wr ∧ All2 (CR w (RO cx w σ.bk pl) σ.bk pl) cs' arr'.toList ∧ Instr.fill (fun i => some (i * size, size)) arr (parts.map fun p => (p.1, a.eval p.2)) = some arr'
 | [], cs, arr, k, h, hcs => ⟨cs, arr, h, hcs, rfl⟩
 | p :: ps, cs, arr, k, h, hcs => by
  unfold fillArr at h
  obtain ⟨t, h5, h6⟩ := evT_to h
  cases b1 : Nat.beq (clen t.cells) size with
  | false => rw [b1] at h6; exact h6.elim
  | true =>
   cases b2 : Nat.ble (Nat.add (Nat.mul p.1 size) size) (clen cs) with
   | false => rw [b1, b2] at h6; exact h6.elim
   | true =>
    cases b3 : okCs t.cells with
    | false => rw [b1, b2, b3] at h6; exact h6.elim
    | true =>
     rw [b1, b2, b3] at h6
     simp only [forceM_eq] at h6
     have e1 : t.cells.length = size := by rw [← clen_eq]; exact Nat.eq_of_beq_eq_true b1
     have e2 : p.1 * size + size ≤ cs.length := by have := Nat.le_of_ble_eq_true b2; rw [clen_eq] at this; exact this
     have hv := TR_cells (opd_TR hR h5) b3
     have e3 : (a.eval p.2).cells.size = size := by rw [← e1, hv.length]; simp
     have e4 : cs.length = arr.size := by rw [hcs.length]; simp
     obtain ⟨g1, g2⟩ := Great.foldl_set (p.1 * size) (a.eval p.2).cells.toList 0 arr
     have hnew : All2 (CR w (RO cx w σ.bk pl) σ.bk pl) (putAt (p.1 * size) t.cells cs) (((a.eval p.2).cells.toList.zipIdx 0).foldl (fun cs (x : Value × Nat) => cs.setIfInBounds (p.1 * size + x.2) x.1) arr).toList := by
      have hl : (((a.eval p.2).cells.toList.zipIdx 0).foldl (fun cs (x : Value × Nat) => cs.setIfInBounds (p.1 * size + x.2) x.1) arr).toList =
        arr.toList.take (p.1 * size) ++ ((a.eval p.2).cells.toList ++ arr.toList.drop (p.1 * size + (a.eval p.2).cells.toList.length)) := by
       apply List.ext_getElem?
       intro k
       rw [splice_get (by simp only [Array.length_toList]; omega)]
       simp only [Array.getElem?_toList]
       rw [g2 k]
       simp only [Array.length_toList, Nat.add_zero]
       by_cases c1 : k < p.1 * size
       ·rw [if_neg (by omega), if_pos c1]
       ·by_cases c2 : k < p.1 * size + (a.eval p.2).cells.size
        ·rw [if_pos (by omega), if_neg c1, if_pos c2]
         simp
        ·rw [if_neg (by omega), if_neg c1, if_neg c2]
      rw [hl, putAt_eq]
      rw [show (a.eval p.2).cells.toList.length = t.cells.length by rw [hv.length]]
      exact (hcs.take _).append (hv.append (hcs.drop _))
     obtain ⟨cs', arr', h7, h8, h9⟩ := fillArr_to hR ps _ _ _ h6 hnew
     refine ⟨cs', arr', h7, h8, ?_⟩
     simp only [List.map_cons]
     unfold Instr.fill
     simp only [e3]
     rw [if_neg (by simp; omega)]
     rw [← h9]
     congr 1
     rw [← Array.foldl_toList]
     simp
theorem good_buildA (hT : TTok P cfg.tt) (hR : Rel cx σ a w pl) (hd : ∀ d, o.dst = some d → d < cx.N) {s : Nat} {parts : Array (Nat × Operand)}
  (ho : o.op = .build s parts) (h : (opBuildA cfg o.dst s parts : RM O).to σ wr) : Good P cx σ a w o wr := by
 obtain ⟨ti, h1, h2⟩ := getTI_to h
 cases hs : ti.sub with
 | arr n e =>
  simp only [hs] at h2
  obtain ⟨ei, h3, h4⟩ := getTI_to h2
  simp only [forceM_eq] at h4
  obtain ⟨i, z, g1, g2, g3, g4, g5⟩ := (hT s ti h1).info
  obtain ⟨cs', arr', h5, h6, h7⟩ := fillArr_to hR parts.toList (ti.zero.map .sc) z.cells _ h4 (by rw [g5]; exact All2_sc _)
  rw [ret1_to h5]
  refine good_put hR hd (v := .agg arr') ?_ ⟨arr', rfl, h6⟩
  have hparts : (parts.map fun (i, x) => (i, a.eval x)).toList = parts.toList.map fun p => (p.1, a.eval p.2) := by simp
  simp only [execOp, ho, Instr.build, zeroValue, typeInfo, Sem.run_bind, run_program, Result.andThen_ok, g1, Sem.run_pure, g4, run_underlying ((hT s ti h1).arr n e hs), sizeOf_run (hT e ei h3), hparts, h7]
 | _ => simp only [hs] at h2; exact good_build hT hR hd ho h2
theorem sliceArr_run {t e n : Nat} {ei : TI} (hu : P.underlying t = some (.array n e)) (he : TIok P e ei) {ad : Addr} {lo hi : Option Value} {l : Option Nat} {len : Nat}
  (hlo : (lo = none ∧ l = none) ∨ ∃ k i, lo = some (.int k i) ∧ 0 ≤ i ∧ l = some i.toNat)
  (hhi : (hi = none ∧ l.getD 0 + len = n) ∨ ∃ k i, hi = some (.int k i) ∧ 0 ≤ i ∧ i.toNat = l.getD 0 + len) (hc : l.getD 0 + len ≤ n) :
  (Instr.sliceAt t (.pointer (some ad)) lo hi none).run P w = .ok (.slice (some (if n = l.getD 0 then ad else ad.add (l.getD 0 * ei.size))) len (n - l.getD 0)) w := by
 have hb : (Instr.sliceBounds false n n lo hi none).run P w = .ok (l.getD 0, l.getD 0 + len, n) w := by
  unfold Instr.sliceBounds
  rcases hlo with ⟨rfl, rfl⟩ | ⟨k, i, rfl, hi0, rfl⟩ <;> rcases hhi with ⟨rfl, h1⟩ | ⟨k', i', rfl, h1, h2⟩
  ·simp at h1 ⊢; omega
  ·simp only [Option.getD_none, Nat.zero_add] at h2 hc ⊢
   have : i' ≤ (n : Int) := by omega
   simp [Instr.sliceBound, asIntOf, h1, this, h2]
  ·simp only [Option.getD_some] at h1 hc ⊢
   have : i ≤ (n : Int) := by omega
   simp [Instr.sliceBound, asIntOf, hi0, this, h1]
  ·simp only [Option.getD_some] at h2 hc ⊢
   have h3 : i' ≤ (n : Int) := by omega
   have h4 : i ≤ (i'.toNat : Int) := by omega
   simp only [Sem.run_bind, Sem.run_pure, Result.andThen_ok, Instr.sliceBound, asIntOf]
   simp [h1, h3, hi0, h2]
   omega
 unfold Instr.sliceAt
 simp only [underlying, Sem.run_bind, run_program, Result.andThen_ok, hu, Sem.run_pure, Instr.sureAddr, hb, sizeOf_run he]
 congr 2
 omega
theorem good_sliceA (hT : TTok P cfg.tt) (hR : Rel cx σ a w pl) (hd : ∀ d, o.dst = some d → d < cx.N) {t : TypeId} {x : Operand} {lo hi : Option Operand}
  (ho : o.op = .slice t x lo hi none) (h : (opSliceA cfg o.dst t x lo hi : RM O).to σ wr) : Good P cx σ a w o wr := by
 obtain ⟨ti0, _, h0⟩ := getTI_to h
 split at h0
 ·obtain ⟨n, e, ty, ei, ti, g1, g2, g3, g4, g5, g6, gn, h3⟩ := arrTI_to hT h0
  obtain ⟨c, h1, h4⟩ := evC_to h3
  obtain ⟨lo', hlo, h5⟩ : ∃ lo' : Option Int, ((lo = none ∧ lo' = none) ∨ ∃ y kd i, lo = some y ∧ a.eval y = .int kd i ∧ lo' = some i) ∧
    (bound hi fun hi => match c with
     | .arr b m => match Nat.beq n m with
      | true => RM.rblk b fun bl => match rowAs ty bl with
       | some _ => cutLH lo' hi n n fun l k => ret1 o.dst (.one (.sub b (offBy 0 l) k))
       | none => RM.fail
      | false => RM.fail
     | _ => (.fail : RM O)).to σ wr := by
   rcases bound_to hR h4 with ⟨h4, h5⟩ | ⟨y, kd, i, h4, h5, h6⟩
   ·exact ⟨none, .inl ⟨h4, rfl⟩, h5⟩
   ·exact ⟨some i, .inr ⟨y, kd, i, h4, h5, rfl⟩, h6⟩
  obtain ⟨hi', hhi, h6⟩ : ∃ hi' : Option Int, ((hi = none ∧ hi' = none) ∨ ∃ y kd i, hi = some y ∧ a.eval y = .int kd i ∧ hi' = some i) ∧
    (match c with
     | .arr b m => match Nat.beq n m with
      | true => RM.rblk b fun bl => match rowAs ty bl with
       | some _ => cutLH lo' hi' n n fun l k => ret1 o.dst (.one (.sub b (offBy 0 l) k))
       | none => RM.fail
      | false => RM.fail
     | _ => (.fail : RM O)).to σ wr := by
   rcases bound_to hR h5 with ⟨h4, h5⟩ | ⟨y, kd, i, h4, h5, h6⟩
   ·exact ⟨none, .inl ⟨h4, rfl⟩, h5⟩
   ·exact ⟨some i, .inr ⟨y, kd, i, h4, h5, rfl⟩, h6⟩
  cases c with
  | arr b m =>
   simp only at h6
   cases hb : Nat.beq n m with
   | false => rw [hb] at h6; exact h6.elim
   | true =>
    have := Nat.eq_of_beq_eq_true hb
    subst this
    rw [hb] at h6
    simp only [RM.to] at h6
    cases hr : rowAs ty (look σ.bk b) with
    | none => rw [hr] at h6; exact h6.elim
    | some xs =>
     rw [hr] at h6
     simp only at h6
     obtain ⟨l, len, h7, p1, p2, p3, p4, p5⟩ := cutLH_to (Nat.le_refl _) h6
     have hl := rowAs_some hr
     obtain ⟨q1, bb, q2, q3⟩ := arr_of hl (opd_CR hR h1)
     rw [offBy_eq, Nat.zero_add] at h7
     rw [ret1_to h7]
     have hes := g4.size ty g5
     obtain ⟨B, hB⟩ : ∃ B, look σ.bk b = some B := by rcases hl with hl | hl <;> exact ⟨_, hl⟩
     have hrun := sliceArr_run (P := P) (w := w) (ad := ⟨bb, 0, none⟩) (lo := lo.map a.eval) (hi := hi.map a.eval) (l := l) (len := len) g3 g4 (by
      rcases hlo with ⟨rfl, rfl⟩ | ⟨y, kd, i, rfl, k1, rfl⟩
      ·exact .inl ⟨rfl, p2 rfl⟩
      ·exact .inr ⟨kd, i, by simp [k1], (p3 i rfl).1, (p3 i rfl).2⟩) (by
      rcases hhi with ⟨rfl, rfl⟩ | ⟨y, kd, i, rfl, k1, rfl⟩
      ·exact .inl ⟨rfl, p5 rfl⟩
      ·exact .inr ⟨kd, i, by simp [k1], (p4 i rfl).1, (p4 i rfl).2.2.1⟩) p1
     refine good_put hR hd (v := .slice (some (if n = l.getD 0 then ⟨bb, 0, none⟩ else (⟨bb, 0, none⟩ : Addr).add (l.getD 0 * ei.size))) len (n - l.getD 0)) ?_ ⟨rfl, B, hB, fun t' m hm => ?_⟩
     ·simp only [execOp, ho, q3, Option.map_none, hrun, Sem.run_bind, Result.andThen_ok, Sem.run_pure]
     ·obtain ⟨rfl, rfl⟩ := isRow_at hl hB hm
      rw [q2]
      refine ⟨⟨_, rfl, p1, ?_, fun hlt => by rw [if_neg (by omega), add_at, ← hes]; simp⟩, by omega⟩
      split
      ·rfl
      ·rw [add_block]
  | _ => exact h6.elim
 ·exact good_slice hT hR hd ho h0
end
end Go.BB
