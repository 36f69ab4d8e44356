/- A symbolic machine for the model's code, and what it shows of this seat's functions. No conditions. -/
import Derived.Test.YtnofmeckcimodaaCOps3
set_option linter.unusedSimpArgs false
set_option linter.unusedVariables false
namespace Go.BB
open Go
section
variable {O : ObjK} {cx : Cx} {σ : St O} {a : Act} {w : World} {pl : Nat → Pl} {cfg : Cfg O} {P : Program} {o : Oper} {wr : Wr O}

theorem putAt_eq (off : Nat) (new cs : List C) : putAt off new cs = cs.take off ++ (new ++ cs.drop (off + new.length)) := by
  unfold putAt
  rw [capp_eq, capp_eq, ctake_eq, cdrop_eq, clen_eq]; rfl
theorem canSet_some : ∀ (t : Ty) (x : t.den) (off : Nat) (t' : Ty) (y : t'.den), canSet t off t' = true → ∃ z, setCells t x off t' y = some z := by
  intro t
  induction t with
  | pair a b iha ihb =>
    intro x off t' y h
    unfold canSet at h
    unfold setCells
    by_cases h1 : off = 0 ∧ t' = .pair a b
    · rw [dif_pos h1]; exact ⟨_, rfl⟩
    · rw [if_neg h1] at h
      rw [dif_neg h1]
      simp only at h ⊢
      by_cases h2 : off < a.sz
      · rw [if_pos h2] at h ⊢
        obtain ⟨z, hz⟩ := iha x.1 off t' y h
        exact ⟨_, by rw [hz]; rfl⟩
      · rw [if_neg h2] at h ⊢
        obtain ⟨z, hz⟩ := ihb x.2 (Nat.sub off a.sz) t' y h
        exact ⟨_, by rw [hz]; rfl⟩
  | _ =>
    intro x off t' y h
    unfold canSet at h
    unfold setCells
    split at h
    · rename_i h1
      rw [dif_pos h1]; exact ⟨_, rfl⟩
    · simp at h
theorem setC_some {t : Ty} {x : t.den} {off : Nat} {t' : Ty} {y : t'.den} {z : t.den} (h : setC t x off t' y = some z) : setCells t x off t' y = some z := by
  unfold setC at h
  split at h
  · split at h
    · rename_i h2
      obtain ⟨z', hz⟩ := canSet_some t x off t' y h2
      unfold putD at h
      rw [hz] at h
      cases h
      exact hz
    · cases h
  · exact h
theorem setCells_rel {R : Nat → Prop} : ∀ (t : Ty) (x : t.den) (off : Nat) (t' : Ty) (y : t'.den) (z : t.den), setCells t x off t' y = some z → ∀ (cs vs : List Value), Rep w R t x cs → Rep w R t' y vs →
    off + t'.sz ≤ t.sz ∧ Rep w R t z (cs.take off ++ (vs ++ cs.drop (off + vs.length))) := by
  intro t
  have base : ∀ (t : Ty) (x : t.den) (off : Nat) (t' : Ty) (y : t'.den) (z : t.den) (h : off = 0 ∧ t' = t), some (h.2 ▸ y) = some z → ∀ (cs vs : List Value), Rep w R t x cs → Rep w R t' y vs →
      off + t'.sz ≤ t.sz ∧ Rep w R t z (cs.take off ++ (vs ++ cs.drop (off + vs.length))) := by
    rintro t x off t' y z ⟨rfl, rfl⟩ h cs vs h1 h2
    cases h
    have l1 := Rep_len _ _ _ h1
    have l2 := Rep_len _ _ _ h2
    refine ⟨by omega, ?_⟩
    rw [List.take_zero, List.nil_append, List.drop_eq_nil_of_le (by omega), List.append_nil]
    exact h2
  induction t with
  | pair ta tb iha ihb =>
    intro x off t' y z h cs vs h1 h2
    unfold setCells at h
    split at h
    · rename_i hh; exact base _ x off t' y z hh h cs vs h1 h2
    · obtain ⟨v1, v2, rfl, h3, h4⟩ := h1
      have l1 := Rep_len _ _ _ h3
      have l2 := Rep_len _ _ _ h4
      have l3 := Rep_len _ _ _ h2
      simp only at h
      split at h
      · rename_i hlt
        obtain ⟨z', hz, rfl⟩ := Option.map_eq_some_iff.1 h
        obtain ⟨h5, h6⟩ := iha _ _ _ _ _ hz v1 vs h3 h2
        refine ⟨by simp only [Ty.sz, Nat.add_eq]; omega, v1.take off ++ (vs ++ v1.drop (off + vs.length)), v2, ?_, h6, h4⟩
        rw [List.take_append_of_le_length (by omega), List.drop_append_of_le_length (by omega)]
        simp only [List.append_assoc]
      · rename_i hlt
        obtain ⟨z', hz, rfl⟩ := Option.map_eq_some_iff.1 h
        have e : Nat.sub off ta.sz = off - ta.sz := rfl
        rw [e] at hz
        obtain ⟨h5, h6⟩ := ihb _ _ _ _ _ hz v2 vs h4 h2
        refine ⟨by simp only [Ty.sz, Nat.add_eq]; omega, v1, v2.take (off - ta.sz) ++ (vs ++ v2.drop (off - ta.sz + vs.length)), ?_, h3, h6⟩
        rw [List.take_append, List.drop_append, List.take_of_length_le (by omega), List.drop_eq_nil_of_le (as := v1) (by omega), l1]
        simp only [List.append_assoc, List.nil_append]
        rw [show off + vs.length - ta.sz = off - ta.sz + vs.length by omega]
  | int k =>
    intro x off t' y z h cs vs h1 h2
    unfold setCells at h
    split at h
    · rename_i hh; exact base _ x off t' y z hh h cs vs h1 h2
    · simp at h
  | bool =>
    intro x off t' y z h cs vs h1 h2
    unfold setCells at h
    split at h
    · rename_i hh; exact base _ x off t' y z hh h cs vs h1 h2
    · simp at h
  | str =>
    intro x off t' y z h cs vs h1 h2
    unfold setCells at h
    split at h
    · rename_i hh; exact base _ x off t' y z hh h cs vs h1 h2
    · simp at h
  | unit =>
    intro x off t' y z h cs vs h1 h2
    unfold setCells at h
    split at h
    · rename_i hh; exact base _ x off t' y z hh h cs vs h1 h2
    · simp at h
  | slice t ih =>
    intro x off t' y z h cs vs h1 h2
    unfold setCells at h
    split at h
    · rename_i hh; exact base _ x off t' y z hh h cs vs h1 h2
    · simp at h
/-- cells put in the place of an element's -/
theorem splice_get {l vs : List Value} {off : Nat} (hfit : off + vs.length ≤ l.length) (q : Nat) :
    (l.take off ++ (vs ++ l.drop (off + vs.length)))[q]? = if q < off then l[q]? else if q < off + vs.length then vs[q - off]? else l[q]? := by
  have h1 : (l.take off).length = off := by simp; omega
  by_cases hq : q < off
  · rw [if_pos hq, List.getElem?_append_left (by omega), List.getElem?_take, if_pos hq]
  · rw [if_neg hq, List.getElem?_append_right (by omega), h1]
    by_cases hq2 : q < off + vs.length
    · rw [if_pos hq2, List.getElem?_append_left (by omega)]
    · rw [if_neg hq2, List.getElem?_append_right (by omega), List.getElem?_drop]
      congr 1; omega
theorem good_store (hT : TTok P cfg.tt) (hR : Rel cx σ a w pl) (hd : ∀ d, o.dst = some d → d < cx.N) {t : TypeId} {x y : Operand}
    (ho : o.op = .store t x y) (h : (opStore cfg o.dst t x y : RM O).to σ wr) : Good P cx σ a w o wr := by
  obtain ⟨ti, h1, h2⟩ := getTI_to h
  obtain ⟨c, h3, h4⟩ := evC_to h2
  obtain ⟨v, h5, h6⟩ := evT_to h4
  clear h h2 h4
  have hti := hT t ti h1
  have hc := opd_CR hR h3
  have hv := opd_TR hR h5
  cases c with
  | ptr i off =>
    simp only [RM.to] at h6
    obtain ⟨_, B, hB, hB2⟩ := hc
    rw [hB] at h6
    cases B with
    | box cs =>
      obtain ⟨b, c, g1, g2⟩ := hB2 ⟨cs, rfl⟩
      obtain ⟨b', c', arr, e, g3, g4, g5⟩ := hR.mem.blocks i _ hB
      rw [g1] at g3
      cases g3
      simp only at h6
      cases q1 : Nat.beq (clen v.cells) ti.size with
      | false => rw [q1] at h6; exact h6.elim
      | true =>
        cases q2 : Nat.ble (Nat.add off ti.size) (clen cs) with
        | false => rw [q1, q2] at h6; exact h6.elim
        | true =>
          cases q3 : okCs v.cells with
          | false => rw [q1, q2, q3] at h6; exact h6.elim
          | true =>
            rw [q1, q2, q3] at h6
            simp only [forceM_eq] at h6
            cases h6
            have k1 : v.cells.length = ti.size := by rw [← clen_eq]; exact Nat.eq_of_beq_eq_true q1
            have k2 : off + ti.size ≤ cs.length := by have := Nat.le_of_ble_eq_true q2; rw [clen_eq] at this; exact this
            have hcs := TR_cells hv q3
            have hone := All2_one hcs q3
            have l1 : (a.eval y).cells.size = ti.size := by rw [← k1, hcs.length]; simp
            have l2 : cs.length = arr.size := by rw [g5.length]; simp
            have hrun := storeVar_run (P := P) (w := w) hti g4 (v := a.eval y) (off := off) l1 (by omega) hone
            obtain ⟨L, hL⟩ : ∃ L : List Value, L = arr.toList.take off ++ (a.eval y).cells.toList ++ arr.toList.drop (off + (a.eval y).cells.size) := ⟨_, rfl⟩
            obtain ⟨D, hD⟩ : ∃ D : List C, D = putAt off v.cells cs := ⟨_, rfl⟩
            rw [← hL] at hrun
            rw [← hD]
            have hM := mem_write hR hB trivial (B' := .box D) trivial g1 (w' := w.setRow b L.toArray) (setRow_Ext w b _)
              (by rintro t n ⟨xs, h | h, _⟩ <;> cases h) (fun _ => ⟨cs, rfl⟩) (fun h => by cases h)
              (fun hRO hRw hk => ⟨b, c, _, e, g1, setRow_heap w b arr _ e (0, 0) g4, by
                have hm := CR_mono hRO hRw hk
                have h1 := ((g5.mono hm).take off).append ((hcs.mono hm).append ((g5.mono hm).drop (off + v.cells.length)))
                rw [show cs.take off ++ (v.cells ++ cs.drop (off + v.cells.length)) = D by rw [hD, putAt_eq],
                  show arr.toList.take off ++ ((a.eval y).cells.toList ++ arr.toList.drop (off + v.cells.length)) = L by rw [hL, List.append_assoc, show (a.eval y).cells.size = v.cells.length by omega]] at h1
                exact h1⟩)
            exact good_skip (w' := w.setRow b L.toArray) (pl' := pl) (by
              simp only [execOp, ho, g2, Instr.storeAt, Instr.sureAddr, Sem.run_bind, Sem.run_pure, Result.andThen_ok, hrun]) (rel_gen hR hM.1 hM.2 hd rfl)
    | _ => exact h6.elim
  | rptr i idx off =>
    cases hty : ti.ty with
    | none => simp only [hty] at h6; exact h6.elim
    | some ty =>
      simp only [hty] at h6
      obtain ⟨yv, fz, h7, h8, h9⟩ := ofCells_to hR ty v.cells _ _ h6
      simp only [RM.to] at h7
      obtain ⟨_, B, hB, hB2⟩ := hc
      rw [hB] at h7
      cases B with
      | row t' xs =>
        simp only at h7
        cases hs : setC t' (xs.getD idx t'.zero) off ty yv with
        | none => rw [hs] at h7; exact h7.elim
        | some z =>
          rw [hs] at h7
          replace hs := setC_some hs
          simp only at h7
          cases hmem : memN i (fz.map (·.1)) with
          | true => rw [hmem] at h7; exact h7.elim
          | false =>
            cases hfz : fzOk fz with
            | false => rw [hmem, hfz] at h7; exact h7.elim
            | true =>
              rw [hmem, hfz] at h7
              cases h7
              obtain ⟨hRf, hkf, hROf⟩ := rel_freeze hR h8 (fzOk_mem hfz)
              -- from here on with what was frozen
              have hnot : look fz i = none := by
                rw [look_none]
                intro x hx
                have : memN i (fz.map (·.1)) = true := (memN_iff _ _).2 (List.mem_map.2 ⟨(i, x), hx, rfl⟩)
                rw [hmem] at this; cases this
              have hBf : look (fz ++ σ.bk) i = some (.row t' xs) := by rw [look_append, hnot]; simpa using hB
              obtain ⟨hidx, b, c, g1, g2⟩ := hB2 t' _ (isRow_row t' xs)
              obtain ⟨hz, hrow⟩ := hRf.mem.blocks i _ hBf
              rw [g1] at hrow
              obtain ⟨arr, e, g3, g4, g5, g6, g7⟩ := hrow
              have hj : xs[idx]? = some (xs.getD idx t'.zero) := by rw [List.getD_eq_getElem?_getD, List.getElem?_eq_getElem hidx]; rfl
              obtain ⟨cs, p1, p2⟩ := g7 idx _ hj
              -- the value's cells
              have hvs : Rep w (RO cx w (fz ++ σ.bk) pl) ty yv (a.eval y).cells.toList := by
                refine Rep_mono hROf (fun _ _ => rfl) _ _ _ ?_
                cases v with
                | ag cs' =>
                  obtain ⟨va, e1, e2⟩ := hv
                  rw [e1]
                  exact h9 _ e2
                | one c' =>
                  have h10 := h9 [a.eval y] ⟨hv, trivial⟩
                  rw [cells_one (Rep_one _ _ _ h10 _ List.mem_cons_self)]
                  exact h10
              have l1 := Rep_len _ _ _ hvs
              have l0 : (a.eval y).cells.toList.length = (a.eval y).cells.size := by simp
              have hsz := hti.size ty hty
              obtain ⟨k1, k2⟩ := setCells_rel t' _ off ty yv z hs cs _ p1 hvs
              have lcs := Rep_len _ _ _ p1
              have hmul : (idx + 1) * t'.sz ≤ arr.size := by rw [g4]; exact Nat.mul_le_mul_right _ (by omega)
              rw [Nat.add_mul, Nat.one_mul] at hmul
              have hrun := storeVar_run (P := P) (w := w) hti g3 (v := a.eval y) (off := idx * t'.sz + off) (by omega) (by omega) (Rep_one _ _ _ hvs)
              have hfit : idx * t'.sz + off + (a.eval y).cells.toList.length ≤ arr.toList.length := by simp only [Array.length_toList] at *; omega
              obtain ⟨L, hL⟩ : ∃ L : List Value, L = arr.toList.take (idx * t'.sz + off) ++ (a.eval y).cells.toList ++ arr.toList.drop (idx * t'.sz + off + (a.eval y).cells.size) := ⟨_, rfl⟩
              rw [← hL] at hrun
              have hLs : L.length = arr.size := by
                rw [hL]
                simp only [List.length_append, List.length_take, List.length_drop, Array.length_toList] at hfit ⊢
                omega
              have hget : ∀ q, L[q]? =
                  if q < idx * t'.sz + off then arr[q]? else if q < idx * t'.sz + off + (a.eval y).cells.toList.length then (a.eval y).cells.toList[q - (idx * t'.sz + off)]? else arr[q]? := by
                intro q
                rw [hL, List.append_assoc, ← l0, splice_get hfit q]
                simp
              have hM := mem_write hRf (σ := ⟨σ.sl, fz ++ σ.bk⟩) hBf trivial (B' := .row t' (xs.set idx z)) trivial g1
                (w' := w.setRow b L.toArray) (setRow_Ext w b _)
                (by
                  rintro t n ⟨ys, h | h, hn⟩
                  · cases h
                    rw [List.length_set] at hn
                    exact ⟨xs, .inl rfl, hn⟩
                  · cases h)
                (fun ⟨_, h⟩ => by cases h) (fun h => by cases h)
                (fun hRO hRw hk => ⟨hz, by
                  show RowAt _ _ _ _ _
                  rw [g1]
                  refine ⟨_, e, setRow_heap w b arr _ e (0, 0) g3, ?_, by rw [List.length_set]; exact g5, g6, fun j x hj => ?_⟩
                  · rw [List.size_toArray, hLs, g4]
                  · rw [List.getElem?_set] at hj
                    by_cases hij : idx = j
                    · subst hij
                      rw [if_pos rfl, if_pos hidx] at hj
                      cases hj
                      refine ⟨_, Rep_mono hRO hRw _ _ _ k2, fun q v hq => ?_⟩
                      rw [List.getElem?_toArray, hget]
                      rw [splice_get (by omega)] at hq
                      by_cases a1 : q < off
                      · rw [if_pos a1] at hq
                        rw [if_pos (by omega)]
                        exact p2 q v hq
                      · rw [if_neg a1] at hq
                        rw [if_neg (by omega)]
                        by_cases a2 : q < off + (a.eval y).cells.toList.length
                        · rw [if_pos a2] at hq
                          rw [if_pos (by omega), ← hq]
                          congr 1; omega
                        · rw [if_neg a2] at hq
                          rw [if_neg (by omega)]
                          exact p2 q v hq
                    · rw [if_neg hij] at hj
                      obtain ⟨cs', b1, b2⟩ := g7 j x hj
                      have lcs' := Rep_len _ _ _ b1
                      refine ⟨cs', Rep_mono hRO hRw _ _ _ b1, fun q v hq => ?_⟩
                      have hq' : q < t'.sz := by
                        have := (List.getElem?_eq_some_iff.1 hq).1
                        omega
                      rw [List.getElem?_toArray, hget]
                      rcases Nat.lt_or_gt_of_ne hij with hlt | hgt
                      · have : (idx + 1) * t'.sz ≤ j * t'.sz := Nat.mul_le_mul_right _ hlt
                        rw [Nat.add_mul, Nat.one_mul] at this
                        rw [if_neg (by omega), if_neg (by omega)]
                        exact b2 q v hq
                      · have : (j + 1) * t'.sz ≤ idx * t'.sz := Nat.mul_le_mul_right _ hgt
                        rw [Nat.add_mul, Nat.one_mul] at this
                        rw [if_pos (by omega)]
                        exact b2 q v hq⟩)
              have hfin := rel_gen hRf hM.1 hM.2 (dst := o.dst) hd (s := undefS) (v := undef) rfl
              refine good_skip (w' := w.setRow b L.toArray) (pl' := pl) ?_ ?_
              · simp only [execOp, ho, g2, Instr.storeAt, Instr.sureAddr, Sem.run_bind, Sem.run_pure, Result.andThen_ok, hrun]
              · simp only [St.app, capp, capp_eq] at hfin ⊢
                exact hfin
      | _ => exact h7.elim
  | _ => exact h6.elim
end
end Go.BB
