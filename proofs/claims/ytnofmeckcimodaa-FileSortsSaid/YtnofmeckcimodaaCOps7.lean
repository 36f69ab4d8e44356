/- A symbolic machine for the model's code, and what it shows of this seat's functions. No conditions. -/
import Derived.Test.YtnofmeckcimodaaCOps6
import Derived.Great.FillDense
import Derived.Great.BuildSlice
set_option linter.unusedSimpArgs false
set_option linter.unusedVariables false
namespace Go.BB
open Go
section
variable {O : ObjK} {cx : Cx} {σ : St O} {a : Act} {w : World} {pl : Nat → Pl} {cfg : Cfg O} {P : Program} {o : Oper} {wr : Wr O}

/-! a state that reads the same -/
theorem liveAt_congr {bk bk' : List (Nat × Blk O)} (h : ∀ i, look bk' i = look bk i) (i : Nat) : liveAt bk' i ↔ liveAt bk i := by simp [liveAt, h]
theorem RO_congr {bk bk' : List (Nat × Blk O)} (h : ∀ i, look bk' i = look bk i) : RO cx w bk' pl = RO cx w bk pl := by
  funext b
  simp only [RO, liveAt_congr h]
theorem Keeps_congr {bk bk' : List (Nat × Blk O)} (h : ∀ i, look bk' i = look bk i) : Keeps bk bk' pl pl := fun i B hB => ⟨Pl.same_refl _, B, by rw [h]; exact hB, fun _ _ h => h, id, id⟩
theorem Mem_congr {bk bk' : List (Nat × Blk O)} (h : ∀ i, look bk' i = look bk i) (hm : Mem cx w bk pl) : Mem cx w bk' pl := by
  have e := RO_congr (cx := cx) (w := w) (pl := pl) h
  refine ⟨fun i B hi => ?_, fun i j hi hj => hm.disj i j ((liveAt_congr h i).1 hi) ((liveAt_congr h j).1 hj), fun i hi => hm.bound i ((liveAt_congr h i).1 hi), hm.ext, fun i t xs hi b hb => ?_, fun i p B hp hi => hm.pin i p B hp (by rw [← h]; exact hi), fun i hi => hm.apart i ((liveAt_congr h i).1 hi), hm.priv, fun i hi => by rw [h]; exact hm.hard i hi, hm.privw⟩
  · rw [e]
    rw [h] at hi
    exact BR_mono (fun _ h => h) (fun _ _ => rfl) (Keeps_congr h) (Nat.le_refl _) i B rfl (fun _ _ => rfl) (hm.blocks i B hi)
  · rw [e]
    rw [h] at hi
    exact hm.frozen i t xs hi b hb
theorem Rel_congr {sl sl' : List (Nat × S)} {bk bk' : List (Nat × Blk O)} (h1 : ∀ t, look sl' t = look sl t) (h2 : ∀ i, look bk' i = look bk i) (hR : Rel cx ⟨sl, bk⟩ a w pl) : Rel cx ⟨sl', bk'⟩ a w pl := by
  refine ⟨Mem_congr h2 hR.mem, fun t s hs => ?_, hR.defers, hR.size⟩
  simp only at hs
  rw [h1] at hs
  obtain ⟨h3, h4⟩ := hR.slots t s hs
  refine ⟨h3, ?_⟩
  show SR w (RO cx w bk' pl) bk' pl s _
  rw [RO_congr h2]
  exact SR_mono (fun _ h => h) (fun _ _ => rfl) (Keeps_congr h2) _ _ h4

/-! copy -/
theorem copy_none_run {t e : TypeId} {ei : TI} (hu : P.underlying t = some (.slice e)) (he : TIok P e ei) {ty' : TypeId} {D : Option Addr} {n cap : Nat} {A : Option Addr} {m c : Nat} (hk : Nat.min m n = 0) :
    (Builtin.copy_ #[t, t] ty' #[.slice D n cap, .slice A m c]).run P w = .ok (goInt 0) w := by
  simp only [Builtin.copy_]
  simp only [List.getElem?_toArray, List.getElem?_cons_zero, List.getElem?_cons_succ]
  simp only [run_underlying hu, Builtin.lenOf, Sem.run_bind, Sem.run_pure, Result.andThen_ok, sizeOf_run he, hk]
  have hf : (Builtin.firstCells ei.size 0 (.slice A m c)).run P w = .ok #[] w := by
    cases A <;> simp [Builtin.firstCells, loadCells, loadCellsFrom]
  rw [hf]
  cases D <;> simp [storeCells]
theorem splice_none {α : Type} {xs ys : List α} {lo n : Nat} (h : Nat.min ys.length n = 0) : splice xs ys lo n = xs := by
  unfold splice
  rw [h]
  have h' : min ys.length n = 0 := h
  have : ys.take n = [] := by
    rcases Nat.eq_zero_or_pos n with h1 | h1
    · subst h1; simp
    · have : ys.length = 0 := by omega
      rw [List.eq_nil_of_length_eq_zero this]; simp
  rw [this]
  simp
theorem splice_length {α : Type} {xs ys : List α} {lo n : Nat} (h : lo + n ≤ xs.length) : (splice xs ys lo n).length = xs.length := by
  unfold splice
  have : Nat.min ys.length n = min ys.length n := rfl
  simp only [List.length_append, List.length_take, List.length_drop, this]
  omega
/-- as elems_append, for cells told by a function -/
theorem elems_cat {R R' : Nat → Prop} {w' : World} {t : Ty} {xs ys : List t.den} {old new L : Nat → Option Value} (hR : ∀ b, R b → R' b) (hw : ∀ b, R b → w'.heap[b]? = w.heap[b]?)
    (h1 : ∀ (j : Nat) (x : t.den), xs[j]? = some x → ∃ cs, Rep w R t x cs ∧ ∀ q v, cs[q]? = some v → old (j * t.sz + q) = some v)
    (h2 : ∀ (j : Nat) (x : t.den), ys[j]? = some x → ∃ cs, Rep w R t x cs ∧ ∀ q v, cs[q]? = some v → new (j * t.sz + q) = some v)
    (g1 : ∀ k v, k < xs.length * t.sz → old k = some v → L k = some v) (g2 : ∀ k v, new k = some v → L (xs.length * t.sz + k) = some v) :
    ∀ (j : Nat) (x : t.den), (xs ++ ys)[j]? = some x → ∃ cs, Rep w' R' t x cs ∧ ∀ q v, cs[q]? = some v → L (j * t.sz + q) = some v := by
  intro j x hj
  by_cases hlt : j < xs.length
  · rw [List.getElem?_append_left hlt] at hj
    obtain ⟨cs, h3, h4⟩ := h1 j x hj
    refine ⟨cs, Rep_mono hR hw _ _ _ h3, fun q v hq => g1 _ v ?_ (h4 q v hq)⟩
    have hq' : q < t.sz := by
      have := (List.getElem?_eq_some_iff.1 hq).1
      rw [Rep_len _ _ _ h3] at this
      exact this
    have : (j + 1) * t.sz ≤ xs.length * t.sz := Nat.mul_le_mul_right _ hlt
    rw [Nat.add_mul, Nat.one_mul] at this
    omega
  · rw [List.getElem?_append_right (by omega)] at hj
    obtain ⟨cs, h3, h4⟩ := h2 _ x hj
    refine ⟨cs, Rep_mono hR hw _ _ _ h3, fun q v hq => ?_⟩
    have := g2 _ v (h4 q v hq)
    have e : j * t.sz = xs.length * t.sz + (j - xs.length) * t.sz := by rw [← Nat.add_mul]; congr 1; omega
    rw [e, Nat.add_assoc]
    exact this
theorem good_copy (hT : TTok P cfg.tt) (hR : Rel cx σ a w pl) (hd : ∀ d, o.dst = some d → d < cx.N) {t : TypeId} {x y : Operand}
    (ho : o.op = .call { callee := .builtin .copy, args := #[x, y], argTypes := #[t, t] }) (h : (opCopy cfg o.dst t x y : RM O).to σ wr) : Good P cx σ a w o wr := by
  obtain ⟨e, ty, ei, hu, he, hty, hz, h1⟩ := elemTI_to hT h
  obtain ⟨c1, h2, h3⟩ := evC_to h1
  obtain ⟨c2, h4, h5⟩ := evC_to h3
  clear h h1 h3
  have hx := opd_CR hR h2
  have hy := opd_CR hR h4
  obtain ⟨ys, h6, hys⟩ := sliceOf_to2 hR h5 hy
  clear h5
  obtain ⟨A, c, news, ey, _, hA, hnl, hn1, hnc, hne⟩ := src_cells hys
  have hsz : ty.sz = ei.size := he.size ty hty
  have exec : ∀ {v : Value} {w' : World}, (Builtin.copy_ #[t, t] o.type #[a.eval x, .slice A ys.length c]).run P w = .ok v w' → (execOp a.eval o).run P w = .ok (.value v) w' := by
    intro v w' hr
    simp only [execOp, ho, resolve, invoke, builtin, Sem.run_bind, Sem.run_pure, Result.andThen_ok, List.map_toArray, List.map_cons, List.map_nil, ey, hr]
  have key : ∀ (i lo n : Nat) (xs : List ty.den), look σ.bk i = some (.row ty xs) → subV (pl i) ty.sz lo n (a.eval x) → lo + n ≤ xs.length →
      Good P cx σ a w o { sl := putS o.dst (.t (.one (.sc (.int .i64 (Nat.min ys.length n : Nat))))), bk := [(i, .row ty (splice xs ys lo n))] } := by
    intro i lo n xs hl hv hln
    obtain ⟨_, hrow⟩ := row_of hR (.inl hl)
    by_cases hk : Nat.min ys.length n = 0
    · -- nothing is copied
      obtain ⟨D, cap', hx'⟩ : ∃ D cap', a.eval x = .slice D n cap' := by
        cases hp : pl i with
        | nil => rw [hp] at hv; exact ⟨none, 0, by rw [hv.2.2]; exact hv.1⟩
        | obj v f => rw [hp] at hv; exact hv.elim
        | «at» b cap => rw [hp] at hv; obtain ⟨ad, e1, _⟩ := hv; exact ⟨_, _, e1⟩
      have hr := copy_none_run (P := P) (w := w) (ty' := o.type) (D := D) (cap := cap') (A := A) (c := c) hu he hk
      rw [splice_none hk, hk]
      refine good_value (v := goInt 0) (w' := w) (pl' := pl) (exec (by rw [hx']; exact hr)) ?_
      have h0 := rel_put hR (dst := o.dst) hd (s := .t (.one (.sc (.int .i64 0)))) (v := goInt 0) rfl
      refine Rel_congr (sl := capp (putS o.dst (.t (.one (.sc (.int .i64 0))))) σ.sl) (bk := capp [] σ.bk) (fun _ => rfl) (fun j => ?_) h0
      simp only [capp, look_cons]
      split
      · rename_i e1; rw [← e1]; exact hl.symm
      · rfl
    · cases hp : pl i with
      | nil =>
        rw [hp] at hv
        have : n = 0 := hv.2.2
        exact absurd (by rw [this]; exact Nat.min_zero _) hk
      | obj v f => rw [hp] at hv; exact hv.elim
      | «at» b cap =>
        rw [hp] at hv hrow
        obtain ⟨ad, e1, e2, e3, e4⟩ := hv
        obtain ⟨arr, e', g1, g2, g3, g4, g5⟩ := hrow
        obtain ⟨k, hkk⟩ : ∃ k, k = Nat.min ys.length n := ⟨_, rfl⟩
        have hk1 : k ≤ ys.length := by rw [hkk]; exact Nat.min_le_left _ _
        have hk2 : k ≤ n := by rw [hkk]; exact Nat.min_le_right _ _
        rw [← hkk] at hk
        have e5 := e4 (by omega)
        subst e5
        have hlk : (lo + k) * ty.sz ≤ arr.size := by rw [g2]; exact Nat.mul_le_mul_right _ (by omega)
        rw [Nat.add_mul] at hlk
        have hr := copy_run (P := P) hu he (ty' := o.type) (g := b) (off := lo * ty.sz) (n := n) (cap := cap - lo) g1 (A := A) (m := ys.length) (c := c) hA (by rw [← hsz]; exact hnl) hnc hn1 (by rw [← hkk, ← hsz]; exact hlk)
        rw [← hkk, ← hsz] at hr
        obtain ⟨L, hL⟩ : ∃ L : List Value, L = arr.toList.take (lo * ty.sz) ++ news.take (k * ty.sz) ++ arr.toList.drop (lo * ty.sz + k * ty.sz) := ⟨_, rfl⟩
        rw [← hL] at hr
        have hkn : k * ty.sz ≤ news.length := by rw [hnl]; exact Nat.mul_le_mul_right _ hk1
        have hnt : (news.take (k * ty.sz)).length = k * ty.sz := by rw [List.length_take]; omega
        have hals : arr.toList.length = arr.size := by simp
        have hLn : L = arr.toList.take (lo * ty.sz) ++ (news.take (k * ty.sz) ++ arr.toList.drop (lo * ty.sz + (news.take (k * ty.sz)).length)) := by rw [hL, List.append_assoc, hnt]
        have hLg : ∀ q, L[q]? = if q < lo * ty.sz then arr[q]? else if q < lo * ty.sz + k * ty.sz then news[q - lo * ty.sz]? else arr[q]? := by
          intro q
          rw [hLn, splice_get (by rw [hnt, hals]; exact hlk), hnt]
          simp only [Array.getElem?_toList]
          by_cases h1 : q < lo * ty.sz
          · simp [h1]
          · by_cases h2 : q < lo * ty.sz + k * ty.sz
            · simp only [h1, h2, if_false, if_true, List.getElem?_take]
              rw [if_pos (by omega)]
            · simp [h1, h2]
        have hLs : L.length = arr.size := by
          rw [hL]
          simp only [List.length_append, hnt, List.length_take, List.length_drop, hals]
          omega
        have hM := mem_write hR hl trivial (B' := .row ty (splice xs ys lo n)) trivial hp (w' := w.setRow b L.toArray) (setRow_Ext w b _)
          (by
            rintro t' m ⟨zs, h | h, hm⟩
            · cases h
              rw [splice_length hln] at hm
              exact ⟨xs, .inl rfl, hm⟩
            · cases h)
          (fun ⟨_, h⟩ => by cases h) (fun h => by cases h)
          (fun hRO hRw hkp => ⟨hz, by
            rw [hp]
            refine ⟨_, e', setRow_heap w b arr _ e' (0, 0) g1, by rw [List.size_toArray, hLs, g2], by rw [splice_length hln]; exact g3, g4, ?_⟩
            have hsp : splice xs ys lo n = xs.take lo ++ (ys.take k ++ xs.drop (lo + k)) := by
              unfold splice
              rw [← hkk, List.append_assoc]
              congr 2
              rw [hkk, show Nat.min ys.length n = min ys.length n from rfl, Nat.min_comm, ← List.take_take, List.take_length]
            have l1 : (xs.take lo).length = lo := by rw [List.length_take]; omega
            have l2 : (ys.take k).length = k := by rw [List.length_take]; omega
            have fin := elems_cat (xs := xs.take lo) (ys := ys.take k ++ xs.drop (lo + k)) (old := fun q => arr[q]?) (new := fun q => L[lo * ty.sz + q]?) (L := fun q => L.toArray[q]?) hRO hRw ?_ ?_ ?_ ?_
            · rw [← hsp] at fin
              exact fin
            · intro j x hj
              rw [List.getElem?_take] at hj
              split at hj
              · exact g5 j x hj
              · simp at hj
            · refine elems_cat (R' := RO cx w σ.bk pl) (old := fun q => news[q]?) (new := fun q => arr[(lo + k) * ty.sz + q]?) (L := fun q => L[lo * ty.sz + q]?) (fun _ h => h) (fun _ _ => rfl) ?_ ?_ ?_ ?_
              · intro j x hj
                rw [List.getElem?_take] at hj
                split at hj
                · exact hne j x hj
                · simp at hj
              · intro j x hj
                rw [List.getElem?_drop] at hj
                obtain ⟨cs, q1, q2⟩ := g5 _ x hj
                refine ⟨cs, q1, fun q v hq => ?_⟩
                have := q2 q v hq
                rw [Nat.add_mul (lo + k), Nat.add_assoc] at this
                exact this
              · intro q v hq hv
                rw [l2] at hq
                rw [hLg, if_neg (by omega), if_pos (by omega), show lo * ty.sz + q - lo * ty.sz = q by omega]
                exact hv
              · intro q v hv
                rw [l2]
                rw [Nat.add_mul] at hv
                rw [hLg, if_neg (by omega), if_neg (by omega), ← Nat.add_assoc]
                exact hv
            · intro q v hq hv
              rw [l1] at hq
              simp only [List.getElem?_toArray]
              rw [hLg, if_pos hq]
              exact hv
            · intro q v hv
              rw [l1]
              simpa using hv⟩)
        exact good_value (v := goInt k) (w' := w.setRow b L.toArray) (pl' := pl) (exec (by rw [e1]; exact hr)) (rel_gen hR hM.1 hM.2 hd (by rw [← hkk]; rfl))
  cases c1 with
  | own i =>
    simp only [RM.to] at h6
    cases hr : rowW ty (look σ.bk i) with
    | none => rw [hr] at h6; exact h6.elim
    | some xs =>
      rw [hr] at h6
      cases h6
      have hl := rowW_some hr
      have hov := own_of hR (.inl hl) hx
      obtain ⟨_, hrow⟩ := row_of hR (.inl hl)
      refine key i 0 xs.length xs hl ?_ (by omega)
      cases hp : pl i with
      | nil => rw [hp] at hov; exact ⟨hov.1, rfl, hov.2⟩
      | obj v f => rw [hp] at hov; exact hov.elim
      | «at» b cap =>
        rw [hp] at hov hrow
        obtain ⟨arr, e', g1, g2, g3, g4, g5⟩ := hrow
        exact ⟨⟨b, 0, none⟩, hov, by omega, rfl, fun _ => by simp⟩
  | sub i lo n =>
    simp only [RM.to] at h6
    cases hr : rowW ty (look σ.bk i) with
    | none => rw [hr] at h6; exact h6.elim
    | some xs =>
      rw [hr] at h6
      cases h6
      have hl := rowW_some hr
      obtain ⟨hov, hln⟩ := sub_of (.inl hl) hx
      exact key i lo n xs hl hov hln
  | _ => exact h6.elim
end
end Go.BB
