/- A symbolic machine for the model's code, and what it shows of this seat's functions. No conditions. -/
import Derived.Test.YtnofmeckcimodaaCOps7
set_option linter.unusedSimpArgs false
set_option linter.unusedVariables false
namespace Go.BB
open Go
section
variable {O : ObjK} {cx : Cx} {σ : St O} {a : Act} {w : World} {pl : Nat → Pl} {cfg : Cfg O} {P : Program} {o : Oper} {wr : Wr O}

theorem rep_value {R : Nat → Prop} {R' : Nat → Prop} {bk : List (Nat × Blk O)} {ty : Ty} {y : ty.den} {t : T} {v : Value} (ht : TR w R bk pl t v)
    (h : ∀ vs, All2 (CR w R bk pl) t.cells vs → Rep w R' ty y vs) : Rep w R' ty y v.cells.toList := by
  cases t with
  | ag cs =>
    obtain ⟨va, e1, e2⟩ := ht
    rw [e1]
    exact h _ e2
  | one c =>
    have h10 := h [v] ⟨ht, trivial⟩
    rw [cells_one (Rep_one _ _ _ h10 _ List.mem_cons_self)]
    exact h10
theorem litParts_to (hR : Rel cx σ a w pl) {ty : Ty} : ∀ (parts : List (Nat × Operand)) (j : Nat) (k : List ty.den → List (Nat × Blk O) → RM O), (litParts ty parts j k).to σ wr →
    ∃ xs fz vs, (k xs fz).to σ wr ∧ Fz σ fz ∧ (parts.map fun p => (p.1, a.eval p.2)) = ((vs : List Value).zipIdx j).map (fun x => (x.2, x.1)) ∧ vs.length = (xs : List ty.den).length ∧
      ∀ (i : Nat) (x : ty.den), xs[i]? = some x → ∃ v, vs[i]? = some v ∧ Rep w (R2 cx w σ pl fz) ty x v.cells.toList
  | [], j, k, h => ⟨[], [], [], h, by simp [Fz], rfl, rfl, by simp⟩
  | p :: ps, j, k, h => by
    unfold litParts at h
    cases hb : Nat.beq p.1 j with
    | false => rw [hb] at h; exact h.elim
    | true =>
      rw [hb] at h
      simp only at h
      obtain ⟨t, h1, h2⟩ := evT_to h
      obtain ⟨x, f, h3, h4, h5⟩ := ofCells_to hR _ _ _ _ h2
      obtain ⟨xs, g, vs, h6, h7, h8, h9, h10⟩ := litParts_to hR ps _ _ h3
      have hv := rep_value (opd_TR hR h1) h5
      refine ⟨x :: xs, capp f g, a.eval p.2 :: vs, h6, ?_, ?_, by simp [h9], ?_⟩
      · rw [capp_eq]
        intro q hq
        rcases List.mem_append.1 hq with hq | hq
        · exact h4 q hq
        · exact h7 q hq
      · simp only [List.map_cons, List.zipIdx_cons]
        have e1 : p.1 = j := Nat.eq_of_beq_eq_true hb
        have e2 : Nat.add j 1 = j + 1 := rfl
        rw [h8, e1, e2]
      · intro i y hi
        cases i with
        | zero =>
          simp only [List.getElem?_cons_zero, Option.some.injEq] at hi
          subst hi
          refine ⟨_, rfl, Rep_mono (fun b hb => ?_) (fun _ _ => rfl) _ _ _ hv⟩
          rcases hb with hb | ⟨q, hq, hb⟩
          · exact .inl hb
          · exact .inr ⟨q, by rw [capp_eq]; exact List.mem_append_left _ hq, hb⟩
        | succ i =>
          obtain ⟨v, q1, q2⟩ := h10 i y (by simpa using hi)
          refine ⟨v, by simpa using q1, Rep_mono (fun b hb => ?_) (fun _ _ => rfl) _ _ _ q2⟩
          rcases hb with hb | ⟨q, hq, hb⟩
          · exact .inl hb
          · exact .inr ⟨q, by rw [capp_eq]; exact List.mem_append_right _ hq, hb⟩
theorem good_buildSlice (hT : TTok P cfg.tt) (hR : Rel cx σ a w pl) (hd : ∀ d, o.dst = some d → d < cx.N) {nb : Nat} {t n : Nat} {parts : Array (Nat × Operand)}
    (ho : o.op = .buildSlice t n parts) (h : (opBuildSlice cfg nb o.dst t n parts : RM O).to σ wr) : Good P cx σ a w o wr := by
  obtain ⟨e, ty, ei, hu, he, hty, hz, h1⟩ := elemTI_to hT h
  cases b1 : Nat.beq n (clen parts.toList) with
  | false => rw [b1] at h1; exact h1.elim
  | true =>
    cases b2 : Nat.ble (Nat.mul n ty.sz) 16777216 with
    | false => rw [b1, b2] at h1; exact h1.elim
    | true =>
      rw [b1, b2] at h1
      simp only at h1
      obtain ⟨xs, fz, vs, h2, h3, h4, h5, h6⟩ := litParts_to hR _ _ _ h1
      cases hfz : fzOk fz with
      | false => rw [hfz] at h2; exact h2.elim
      | true =>
        rw [hfz] at h2
        obtain ⟨hn, h64, h7⟩ := fresh_to h2
        cases h7
        have e1 : n = parts.toList.length := by rw [← clen_eq]; exact Nat.eq_of_beq_eq_true b1
        have e2 : n * ty.sz ≤ 16777216 := Nat.le_of_ble_eq_true b2
        have hsz : ty.sz = ei.size := he.size ty hty
        obtain ⟨i0, z, q1, q2, q3, q4⟩ := info_of he
        have hvl : vs.length = n := by
          have := congrArg List.length h4
          simp only [List.length_map, List.length_zipIdx] at this
          omega
        have hvc : ∀ v ∈ vs, v.cells.size = ty.sz := by
          intro v hv
          obtain ⟨i, hi, rfl⟩ := List.mem_iff_getElem.1 hv
          have hix : i < xs.length := by omega
          obtain ⟨v', g1, g2⟩ := h6 i _ (List.getElem?_eq_getElem hix)
          rw [List.getElem?_eq_getElem hi] at g1
          cases g1
          have := Rep_len _ _ _ g2
          simpa using this
        obtain ⟨hRf, hkf, hROf⟩ := rel_freeze hR h3 (fzOk_mem hfz)
        have hnf : look (fz ++ σ.bk) nb = none := by
          rw [look_append]
          cases hl : look fz nb with
          | none => simpa using hn
          | some B =>
            obtain ⟨t', ys, _, g⟩ := h3 (nb, B) (look_mem hl)
            simp only at g
            rcases g with g | g <;> rw [hn] at g <;> cases g
        obtain ⟨arr, hrun, hsize, helem⟩ : ∃ arr : Array Value, (execOp a.eval o).run P w = .ok (.value (.slice (some ⟨w.heap.size, 0, none⟩) n n)) (w.alloc (.cells arr e)) ∧ arr.size = n * ty.sz ∧
            ∀ j v, vs[j]? = some v → ∀ q u, v.cells[q]? = some u → arr[j * ty.sz + q]? = some u := by
          by_cases h0 : n = 0
          · refine ⟨#[], ?_, by simp [h0], fun j v hj => ?_⟩
            · have hp : parts = #[] := by
                apply Array.eq_empty_of_size_eq_zero
                simpa [h0] using e1.symm
              subst hp
              subst h0
              simp [execOp, ho, Instr.buildSlice, run_underlying hu, sizeOf, typeInfo, q1, Instr.fill, newRow]
              congr 2
              exact Array.size_eq_zero_iff.1 (by simp)
            · have : j < vs.length := (List.getElem?_eq_some_iff.1 hj).1
              omega
          · have hfill := Great.fill_whole hz vs ((Array.range (n * i0.size)).map (z.cells[· % z.cells.size]!)) hvc (by simp [hvl, q2, hsz])
            have hparts : (parts.map fun (i, x) => (i, a.eval x)).toList = (vs.zipIdx 0).map fun x => (x.2, x.1) := by
              rw [← h4]; simp
            refine ⟨(vs.flatMap fun v => v.cells.toList).toArray, ?_, ?_, ?_⟩
            · have hr := run_buildSlice (P := P) w t e n (parts.map fun (i, x) => (i, a.eval x)) _ i0 z hu q1 q4 (by rw [q2, ← hsz]; omega) (by
                rw [q2, ← hsz]
                intro hc
                rcases Nat.mul_eq_zero.1 hc with hc | hc <;> omega) (by rw [hparts, q2, ← hsz]; rw [q2, ← hsz] at hfill; exact hfill)
              simp only [execOp, ho, hr, Sem.run_bind, Result.andThen_ok, Sem.run_pure]
            · rw [List.size_toArray]
              have hgen : ∀ (l : List Value), (∀ v ∈ l, v.cells.size = ty.sz) → (l.flatMap fun v => v.cells.toList).length = l.length * ty.sz := by
                intro l
                induction l with
                | nil => intro _; simp
                | cons v l ih =>
                  intro hh
                  rw [List.flatMap_cons, List.length_append, ih (fun u hu => hh u (List.mem_cons_of_mem _ hu)), Array.length_toList, hh v List.mem_cons_self, List.length_cons, Nat.add_mul, Nat.one_mul, Nat.add_comm]
              rw [hgen vs hvc, hvl]
            · intro j v hj q u hq
              have hq' : q < ty.sz := by
                have := (Array.getElem?_eq_some_iff.1 hq).1
                rw [hvc v (List.mem_of_getElem? hj)] at this
                exact this
              rw [List.getElem?_toArray, Great.flat_get hz vs hvc]
              have d1 : (j * ty.sz + q) / ty.sz = j := by
                rw [Nat.mul_comm, Nat.mul_add_div hz, Nat.div_eq_of_lt hq', Nat.add_zero]
              have d2 : (j * ty.sz + q) % ty.sz = q := by
                rw [Nat.mul_comm, Nat.mul_add_mod, Nat.mod_eq_of_lt hq']
              rw [d1, d2, hj]
              exact hq
        have hM := mem_alloc hRf (σ := ⟨σ.sl, fz ++ σ.bk⟩) hnf h64 (w' := w.alloc (.cells arr e)) (Ext.alloc _ _) (B := .row ty xs) (p := .at w.heap.size n) (fun b hb => by cases hb; simp) trivial
          (fun hRO hRw hk => ⟨hz, by
            rw [plus_same]
            refine ⟨arr, e, heap_alloc_new w _, hsize, by omega, ?_, fun j x hj => ?_⟩
            · have : n ≤ n * ty.sz := Nat.le_mul_of_pos_right _ hz
              simp only [maxLen]; omega
            · obtain ⟨v, g1, g2⟩ := h6 j x hj
              refine ⟨v.cells.toList, Rep_mono (fun b hb => hRO b (hROf b hb)) (fun b hb => hRw b (hROf b hb)) _ _ _ g2, fun q u hq => helem j v g1 q u ?_⟩
              simpa using hq⟩)
        have hfin := rel_gen hRf hM.1 hM.2 (dst := o.dst) hd (s := .t (.one (.own nb))) (v := .slice (some ⟨w.heap.size, 0, none⟩) n n) ⟨rfl, .row ty xs, by rw [look_cons]; simp, fun t' m hm => by
          rw [plus_same]
          obtain ⟨zs, p1 | p1, p2⟩ := hm <;> cases p1
          subst p2
          show Value.slice _ n n = Value.slice _ xs.length n
          rw [← h5, hvl]⟩
        refine good_value hrun (pl' := plus pl nb (.at w.heap.size n)) ?_
        simp only [St.app, capp, capp_eq] at hfin ⊢
        exact hfin
theorem fillParts_to (hT : TTok P cfg.tt) (hR : Rel cx σ a w pl) {s : Nat} {fields : Array Field} {places : Array (Nat × Nat)} (hu : P.underlying s = some (.struct fields))
    (hp : ∀ (f : Nat) (fd : Field) (fi : TI), fields[f]? = some fd → TIok P fd.type fi → places[f]? = some (fd.offset, fi.size)) :
    ∀ (parts : List (Nat × Operand)) (cs : List C) (arr : Array Value) (k : List C → RM O), (fillParts cfg s parts cs k).to σ wr → All2 (CR w (RO cx w σ.bk pl) σ.bk pl) cs arr.toList →
    ∃ cs' arr', (k cs').to σ wr ∧ All2 (CR w (RO cx w σ.bk pl) σ.bk pl) cs' arr'.toList ∧ Instr.fill (places[·]?) arr (parts.map fun p => (p.1, a.eval p.2)) = some arr'
  | [], cs, arr, k, h, hcs => ⟨cs, arr, h, hcs, rfl⟩
  | p :: ps, cs, arr, k, h, hcs => by
    unfold fillParts at h
    obtain ⟨fields', fd, fi, h1, h2, h3, h4⟩ := fieldTI_to hT h
    rw [hu] at h1
    cases h1
    obtain ⟨t, h5, h6⟩ := evT_to h4
    cases b1 : Nat.beq (clen t.cells) fi.size with
    | false => rw [b1] at h6; exact h6.elim
    | true =>
      cases b2 : Nat.ble (Nat.add fd.offset fi.size) (clen cs) with
      | false => rw [b1, b2] at h6; exact h6.elim
      | true =>
        cases b3 : okCs t.cells with
        | false => rw [b1, b2, b3] at h6; exact h6.elim
        | true =>
          rw [b1, b2, b3] at h6
          simp only [forceM_eq] at h6
          have e1 : t.cells.length = fi.size := by rw [← clen_eq]; exact Nat.eq_of_beq_eq_true b1
          have e2 : fd.offset + fi.size ≤ cs.length := by have := Nat.le_of_ble_eq_true b2; rw [clen_eq] at this; exact this
          have hv := TR_cells (opd_TR hR h5) b3
          have e3 : (a.eval p.2).cells.size = fi.size := by rw [← e1, hv.length]; simp
          have e4 : cs.length = arr.size := by rw [hcs.length]; simp
          obtain ⟨g1, g2⟩ := Great.foldl_set fd.offset (a.eval p.2).cells.toList 0 arr
          have hnew : All2 (CR w (RO cx w σ.bk pl) σ.bk pl) (putAt fd.offset t.cells cs) (((a.eval p.2).cells.toList.zipIdx 0).foldl (fun cs (x : Value × Nat) => cs.setIfInBounds (fd.offset + x.2) x.1) arr).toList := by
            have hl : (((a.eval p.2).cells.toList.zipIdx 0).foldl (fun cs (x : Value × Nat) => cs.setIfInBounds (fd.offset + x.2) x.1) arr).toList =
                arr.toList.take fd.offset ++ ((a.eval p.2).cells.toList ++ arr.toList.drop (fd.offset + (a.eval p.2).cells.toList.length)) := by
              apply List.ext_getElem?
              intro k
              rw [splice_get (by simp only [Array.length_toList]; omega)]
              simp only [Array.getElem?_toList]
              rw [g2 k]
              simp only [Array.length_toList, Nat.add_zero]
              by_cases c1 : k < fd.offset
              · rw [if_neg (by omega), if_pos c1]
              · by_cases c2 : k < fd.offset + (a.eval p.2).cells.size
                · rw [if_pos (by omega), if_neg c1, if_pos c2]
                  simp
                · rw [if_neg (by omega), if_neg c1, if_neg c2]
            rw [hl, putAt_eq]
            rw [show (a.eval p.2).cells.toList.length = t.cells.length by rw [hv.length]]
            exact (hcs.take _).append (hv.append (hcs.drop _))
          obtain ⟨cs', arr', h7, h8, h9⟩ := fillParts_to hT hR hu hp ps _ _ _ h6 hnew
          refine ⟨cs', arr', h7, h8, ?_⟩
          simp only [List.map_cons]
          unfold Instr.fill
          rw [hp p.1 fd fi h2 h3]
          simp only [e3]
          rw [if_neg (by simp; omega)]
          rw [← h9]
          congr 1
          rw [← Array.foldl_toList]
          simp
theorem mapM_run {α β : Type} {f : α → Sem β} {g : α → β} : ∀ (l : List α), (∀ x ∈ l, (f x).run P w = .ok (g x) w) → (l.mapM f).run P w = .ok (l.map g) w
  | [], _ => by simp
  | x :: l, h => by
    simp only [List.mapM_cons, Sem.run_bind, h x List.mem_cons_self, Result.andThen_ok, mapM_run l (fun y hy => h y (List.mem_cons_of_mem _ hy)), Sem.run_pure, List.map_cons]
theorem good_build (hT : TTok P cfg.tt) (hR : Rel cx σ a w pl) (hd : ∀ d, o.dst = some d → d < cx.N) {s : Nat} {parts : Array (Nat × Operand)}
    (ho : o.op = .build s parts) (h : (opBuild cfg o.dst s parts : RM O).to σ wr) : Good P cx σ a w o wr := by
  obtain ⟨ti, h1, h2⟩ := getTI_to h
  cases hs : ti.sub with
  | struct fs =>
    simp only [hs, forceM_eq] at h2
    obtain ⟨fields, h3, _, h4⟩ := (hT s ti h1).struct fs hs
    obtain ⟨i, z, g1, g2, g3, g4, g5⟩ := (hT s ti h1).info
    have hpl : (fields.mapM fun f => do pure (f.offset, ← sizeOf f.type) : Sem (Array (Nat × Nat))).run P w = .ok (fields.map fun f => (f.offset, ((P.info? f.type).map (·.size)).getD 0)) w := by
      rw [Array.mapM_eq_mapM_toList]
      simp only [Sem.run_map]
      rw [mapM_run (g := fun f => (f.offset, ((P.info? f.type).map (·.size)).getD 0)) fields.toList (fun f hf => by
        obtain ⟨i, hi⟩ := h4 f hf
        simp [sizeOf, typeInfo, hi])]
      simp only [Result.andThen_ok]
      congr 1
      apply Array.ext'
      simp
    obtain ⟨cs', arr', h5, h6, h7⟩ := fillParts_to hT hR (places := fields.map fun f => (f.offset, ((P.info? f.type).map (·.size)).getD 0)) h3 (fun f fd fi hf hfi => by
      obtain ⟨i', z', p1, p2, _⟩ := hfi.info
      simp [hf, p1, p2]) parts.toList (ti.zero.map .sc) z.cells _ h2 (by rw [g5]; exact All2_sc _)
    rw [ret1_to h5]
    refine good_put hR hd (v := .agg arr') ?_ ⟨arr', rfl, h6⟩
    have hparts : (parts.map fun (i, x) => (i, a.eval x)).toList = parts.toList.map fun p => (p.1, a.eval p.2) := by simp
    simp only [execOp, ho, Instr.build, zeroValue, typeInfo, Sem.run_bind, run_program, Result.andThen_ok, g1, Sem.run_pure, g4, run_underlying h3, hpl, hparts, h7]
  | _ => simp only [hs] at h2; exact h2.elim
end
end Go.BB
