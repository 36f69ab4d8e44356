/- A symbolic machine for the model's code, and what it shows of this seat's functions. No conditions. -/
import Derived.Test.YtnofmeckcimodaaFOps6
import Derived.Great.FillDense
import Derived.Great.BuildSlice
set_option linter.unusedSimpArgs false
set_option linter.unusedVariables false
namespace Go.BB
open Go
section
variable {O : ObjK} {cx : Cx} {σ : St O} {a : Act} {w : World} {pl : Nat → Pl} {cfg : Cfg O} {P : Program} {o : Oper} {wr : Wr O}

theorem liveAt_congr {bk bk' : List (Nat × Blk O)} (h : ∀ i, look bk' i = look bk i) (i : Nat) : liveAt bk' i ↔ liveAt bk i := by simp [liveAt, h]
theorem RO_congr {bk bk' : List (Nat × Blk O)} (h : ∀ i, look bk' i = look bk i) : RO cx w bk' pl = RO cx w bk pl := by
 funext b
 simp only [RO, liveAt_congr h]
theorem Keeps_congr {bk bk' : List (Nat × Blk O)} (h : ∀ i, look bk' i = look bk i) : Keeps bk bk' pl pl := fun i B hB => ⟨Pl.same_refl _, B, by rw [h]; exact hB, fun _ _ h => h, id, id⟩
theorem Mem_congr {bk bk' : List (Nat × Blk O)} (h : ∀ i, look bk' i = look bk i) (hm : Mem cx w bk pl) : Mem cx w bk' pl := by
 have e := RO_congr (cx := cx) (w := w) (pl := pl) h
 refine ⟨fun i B hi => ?_, fun i j hi hj => hm.disj i j ((liveAt_congr h i).1 hi) ((liveAt_congr h j).1 hj), fun i hi => hm.bound i ((liveAt_congr h i).1 hi), hm.ext, fun i t xs hi b hb => ?_, fun i p B hp hi => hm.pin i p B hp (by rw [← h]; exact hi), fun i hi => hm.apart i ((liveAt_congr h i).1 hi), hm.priv, fun i hi => by rw [h]; exact hm.hard i hi, hm.privw⟩
 ·rw [e]
  rw [h] at hi
  exact BR_mono (fun _ h => h) (fun _ _ => rfl) (Keeps_congr h) (Nat.le_refl _) i B rfl (fun _ _ => rfl) (hm.blocks i B hi)
 ·rw [e]
  rw [h] at hi
  exact hm.frozen i t xs hi b hb
theorem Rel_congr {sl sl' : List (Nat × S)} {bk bk' : List (Nat × Blk O)} (h1 : ∀ t, look sl' t = look sl t) (h2 : ∀ i, look bk' i = look bk i) (hR : Rel cx ⟨sl, bk⟩ a w pl) : Rel cx ⟨sl', bk'⟩ a w pl := by
 refine ⟨Mem_congr h2 hR.mem, fun t s hs => ?_, hR.defers, hR.size⟩
 simp only at hs
 rw [h1] at hs
 obtain ⟨h3, h4⟩ := hR.slots t s hs
 refine ⟨h3, ?_⟩
 show SR w (RO cx w bk' pl) bk' pl s _
 rw [RO_congr h2]
 exact SR_mono (fun _ h => h) (fun _ _ => rfl) (Keeps_congr h2) _ _ h4

theorem copy_none_run {t e : TypeId} {ei : TI} (hu : P.underlying t = some (.slice e)) (he : TIok P e ei) {ty' : TypeId} {D : Option Addr} {n cap : Nat} {A : Option Addr} {m c : Nat} (hk : Nat.min m n = 0) :
  (Builtin.copy_ #[t, t] ty' #[.slice D n cap, .slice A m c]).run P w = .ok (goInt 0) w := by
 simp only [Builtin.copy_]
 simp only [List.getElem?_toArray, List.getElem?_cons_zero, List.getElem?_cons_succ]
 simp only [run_underlying hu, Builtin.lenOf, Sem.run_bind, Sem.run_pure, Result.andThen_ok, sizeOf_run he, hk]
 have hf : (Builtin.firstCells ei.size 0 (.slice A m c)).run P w = .ok #[] w := by
  cases A <;> simp [Builtin.firstCells, loadCells, loadCellsFrom]
 rw [hf]
 cases D <;> simp [storeCells]
theorem splice_none {α : Type} {xs ys : List α} {lo n : Nat} (h : Nat.min ys.length n = 0) : splice xs ys lo n = xs := by
 unfold splice
 rw [h]
 have h' : min ys.length n = 0 := h
 have : ys.take n = [] := by
  rcases Nat.eq_zero_or_pos n with h1 | h1
  ·subst h1; simp
  ·have : ys.length = 0 := by omega
   rw [List.eq_nil_of_length_eq_zero this]; simp
 rw [this]
 simp
theorem splice_length {α : Type} {xs ys : List α} {lo n : Nat} (h : lo + n ≤ xs.length) : (splice xs ys lo n).length = xs.length := by
 unfold splice
 have : Nat.min ys.length n = min ys.length n := rfl
 simp only [List.length_append, List.length_take, List.length_drop, this]
 omega
theorem elems_cat {R R' : Nat → Prop} {w' : World} {t : Ty} {xs ys : List t.den} {old new L : Nat → Option Value} (hR : ∀ b, R b → R' b) (hw : ∀ b, R b → w'.heap[b]? = w.heap[b]?)
  (h1 : ∀ (j : Nat) (x : t.den), xs[j]? = some x → ∃ cs, Rep w R t x cs ∧ ∀ q v, cs[q]? = some v → old (j * t.sz + q) = some v)
  (h2 : ∀ (j : Nat) (x : t.den), ys[j]? = some x → ∃ cs, Rep w R t x cs ∧ ∀ q v, cs[q]? = some v → new (j * t.sz + q) = some v)
  (g1 : ∀ k v, k < xs.length * t.sz → old k = some v → L k = some v) (g2 : ∀ k v, new k = some v → L (xs.length * t.sz + k) = some v) :
  ∀ (j : Nat) (x : t.den), (xs ++ ys)[j]? = some x → ∃ cs, Rep w' R' t x cs ∧ ∀ q v, cs[q]? = some v → L (j * t.sz + q) = some v := by
 intro j x hj
 by_cases hlt : j < xs.length
 ·rw [List.getElem?_append_left hlt] at hj
  obtain ⟨cs, h3, h4⟩ := h1 j x hj
  refine ⟨cs, Rep_mono hR hw _ _ _ h3, fun q v hq => g1 _ v ?_ (h4 q v hq)⟩
  have hq' : q < t.sz := by
   have := (List.getElem?_eq_some_iff.1 hq).1
   rw [Rep_len _ _ _ h3] at this
   exact this
  have : (j + 1) * t.sz ≤ xs.length * t.sz := Nat.mul_le_mul_right _ hlt
  rw [Nat.add_mul, Nat.one_mul] at this
  omega
 ·rw [List.getElem?_append_right (by omega)] at hj
  obtain ⟨cs, h3, h4⟩ := h2 _ x hj
  refine ⟨cs, Rep_mono hR hw _ _ _ h3, fun q v hq => ?_⟩
  have := g2 _ v (h4 q v hq)
  have e : j * t.sz = xs.length * t.sz + (j - xs.length) * t.sz := by rw [← Nat.add_mul]; congr 1; omega
  rw [e, Nat.add_assoc]
  exact this
theorem good_copy (hT : TTok P cfg.tt) (hR : Rel cx σ a w pl) (hd : ∀ d, o.dst = some d → d < cx.N) {t : TypeId} {x y : Operand}
  (ho : o.op = .call { callee := .builtin .copy, args := #[x, y], argTypes := #[t, t] }) (h : (opCopy cfg o.dst t x y : RM O).to σ wr) : Good P cx σ a w o wr := by
 obtain ⟨e, ty, ei, hu, he, hty, hz, h1⟩ := elemTI_to hT h
 obtain ⟨c1, h2, h3⟩ := evC_to h1
 obtain ⟨c2, h4, h5⟩ := evC_to h3
 clear h h1 h3
 have hx := opd_CR hR h2
 have hy := opd_CR hR h4
 obtain ⟨ys, h6, hys⟩ := sliceOf_to2 hR h5 hy
 clear h5
 obtain ⟨A, c, news, ey, _, hA, hnl, hn1, hnc, hne⟩ := src_cells hys
 have hsz : ty.sz = ei.size := he.size ty hty
 have exec : ∀ {v : Value} {w' : World}, (Builtin.copy_ #[t, t] o.type #[a.eval x, .slice A ys.length c]).run P w = .ok v w' → (execOp a.eval o).run P w = .ok (.value v) w' := by
  intro v w' hr
  simp only [execOp, ho, resolve, invoke, builtin, Sem.run_bind, Sem.run_pure, Result.andThen_ok, List.map_toArray, List.map_cons, List.map_nil, ey, hr]
 have key : ∀ (i lo n : Nat) (xs : List ty.den), look σ.bk i = some (.row ty xs) → subV (pl i) ty.sz lo n (a.eval x) → lo + n ≤ xs.length →
   Good P cx σ a w o { sl := putS o.dst (.t (.one (.sc (.int .i64 (Nat.min ys.length n : Nat))))), bk := [(i, .row ty (splice xs ys lo n))] } := by
  intro i lo n xs hl hv hln
  obtain ⟨_, hrow⟩ := row_of hR (.inl hl)
  by_cases hk : Nat.min ys.length n = 0
  ·-- nothing is copied
   obtain ⟨D, cap', hx'⟩ : ∃ D cap', a.eval x = .slice D n cap' := by
    cases hp : pl i with
    | nil => rw [hp] at hv; exact ⟨none, 0, by rw [hv.2.2]; exact hv.1⟩
    | obj v f => rw [hp] at hv; exact hv.elim
    | «at» b cap => rw [hp] at hv; obtain ⟨ad, e1, _⟩ := hv; exact ⟨_, _, e1⟩
   have hr := copy_none_run (P := P) (w := w) (ty' := o.type) (D := D) (cap := cap') (A := A) (c := c) hu he hk
   rw [splice_none hk, hk]
   refine good_value (v := goInt 0) (w' := w) (pl' := pl) (exec (by rw [hx']; exact hr)) ?_
   have h0 := rel_put hR (dst := o.dst) hd (s := .t (.one (.sc (.int .i64 0)))) (v := goInt 0) rfl
   refine Rel_congr (sl := capp (putS o.dst (.t (.one (.sc (.int .i64 0))))) σ.sl) (bk := capp [] σ.bk) (fun _ => rfl) (fun j => ?_) h0
   simp only [capp, look_cons]
   split
   ·rename_i e1; rw [← e1]; exact hl.symm
   ·rfl
  ·cases hp : pl i with
   | nil =>
    rw [hp] at hv
    have : n = 0 := hv.2.2
    exact absurd (by rw [this]; exact Nat.min_zero _) hk
   | obj v f => rw [hp] at hv; exact hv.elim
   | «at» b cap =>
    rw [hp] at hv hrow
    obtain ⟨ad, e1, e2, e3, e4⟩ := hv
    obtain ⟨arr, e', g1, g2, g3, g4, g5⟩ := hrow
    obtain ⟨k, hkk⟩ : ∃ k, k = Nat.min ys.length n := ⟨_, rfl⟩
    have hk1 : k ≤ ys.length := by rw [hkk]; exact Nat.min_le_left _ _
    have hk2 : k ≤ n := by rw [hkk]; exact Nat.min_le_right _ _
    rw [← hkk] at hk
    have e5 := e4 (by omega)
    subst e5
    have hlk : (lo + k) * ty.sz ≤ arr.size := by rw [g2]; exact Nat.mul_le_mul_right _ (by omega)
    rw [Nat.add_mul] at hlk
    have hr := copy_run (P := P) hu he (ty' := o.type) (g := b) (off := lo * ty.sz) (n := n) (cap := cap - lo) g1 (A := A) (m := ys.length) (c := c) hA (by rw [← hsz]; exact hnl) hnc hn1 (by rw [← hkk, ← hsz]; exact hlk)
    rw [← hkk, ← hsz] at hr
    obtain ⟨L, hL⟩ : ∃ L : List Value, L = arr.toList.take (lo * ty.sz) ++ news.take (k * ty.sz) ++ arr.toList.drop (lo * ty.sz + k * ty.sz) := ⟨_, rfl⟩
    rw [← hL] at hr
    have hkn : k * ty.sz ≤ news.length := by rw [hnl]; exact Nat.mul_le_mul_right _ hk1
    have hnt : (news.take (k * ty.sz)).length = k * ty.sz := by rw [List.length_take]; omega
    have hals : arr.toList.length = arr.size := by simp
    have hLn : L = arr.toList.take (lo * ty.sz) ++ (news.take (k * ty.sz) ++ arr.toList.drop (lo * ty.sz + (news.take (k * ty.sz)).length)) := by rw [hL, List.append_assoc, hnt]
    have hLg : ∀ q, L[q]? = if q < lo * ty.sz then arr[q]? else if q < lo * ty.sz + k * ty.sz then news[q - lo * ty.sz]? else arr[q]? := by
     intro q
     rw [hLn, splice_get (by rw [hnt, hals]; exact hlk), hnt]
     simp only [Array.getElem?_toList]
     by_cases h1 : q < lo * ty.sz
     ·simp [h1]
     ·by_cases h2 : q < lo * ty.sz + k * ty.sz
      ·simp only [h1, h2, if_false, if_true, List.getElem?_take]
       rw [if_pos (by omega)]
      ·simp [h1, h2]
    have hLs : L.length = arr.size := by
     rw [hL]
     simp only [List.length_append, hnt, List.length_take, List.length_drop, hals]
     omega
    have hM := mem_write hR hl trivial (B' := .row ty (splice xs ys lo n)) trivial hp (w' := w.setRow b L.toArray) (setRow_Ext w b _)
     (by
      rintro t' m ⟨zs, h | h, hm⟩
      ·cases h
       rw [splice_length hln] at hm
       exact ⟨xs, .inl rfl, hm⟩
      ·cases h)
     (fun ⟨_, h⟩ => by cases h) (fun h => by cases h)
     (fun hRO hRw hkp => ⟨hz, by
      rw [hp]
      refine ⟨_, e', setRow_heap w b arr _ e' (0, 0) g1, by rw [List.size_toArray, hLs, g2], by rw [splice_length hln]; exact g3, g4, ?_⟩
      have hsp : splice xs ys lo n = xs.take lo ++ (ys.take k ++ xs.drop (lo + k)) := by
       unfold splice
       rw [← hkk, List.append_assoc]
       congr 2
       rw [hkk, show Nat.min ys.length n = min ys.length n from rfl, Nat.min_comm, ← List.take_take, List.take_length]
      have l1 : (xs.take lo).length = lo := by rw [List.length_take]; omega
      have l2 : (ys.take k).length = k := by rw [List.length_take]; omega
      have fin := elems_cat (xs := xs.take lo) (ys := ys.take k ++ xs.drop (lo + k)) (old := fun q => arr[q]?) (new := fun q => L[lo * ty.sz + q]?) (L := fun q => L.toArray[q]?) hRO hRw ?_ ?_ ?_ ?_
      ·rw [← hsp] at fin
       exact fin
      ·intro j x hj
       rw [List.getElem?_take] at hj
       split at hj
       ·exact g5 j x hj
       ·simp at hj
      ·refine elems_cat (R' := RO cx w σ.bk pl) (old := fun q => news[q]?) (new := fun q => arr[(lo + k) * ty.sz + q]?) (L := fun q => L[lo * ty.sz + q]?) (fun _ h => h) (fun _ _ => rfl) ?_ ?_ ?_ ?_
       ·intro j x hj
        rw [List.getElem?_take] at hj
        split at hj
        ·exact hne j x hj
        ·simp at hj
       ·intro j x hj
        rw [List.getElem?_drop] at hj
        obtain ⟨cs, q1, q2⟩ := g5 _ x hj
        refine ⟨cs, q1, fun q v hq => ?_⟩
        have := q2 q v hq
        rw [Nat.add_mul (lo + k), Nat.add_assoc] at this
        exact this
       ·intro q v hq hv
        rw [l2] at hq
        rw [hLg, if_neg (by omega), if_pos (by omega), show lo * ty.sz + q - lo * ty.sz = q by omega]
        exact hv
       ·intro q v hv
        rw [l2]
        rw [Nat.add_mul] at hv
        rw [hLg, if_neg (by omega), if_neg (by omega), ← Nat.add_assoc]
        exact hv
      ·intro q v hq hv
       rw [l1] at hq
       simp only [List.getElem?_toArray]
       rw [hLg, if_pos hq]
       exact hv
      ·intro q v hv
       rw [l1]
       simpa using hv⟩)
    exact good_value (v := goInt k) (w' := w.setRow b L.toArray) (pl' := pl) (exec (by rw [e1]; exact hr)) (rel_gen hR hM.1 hM.2 hd (by rw [← hkk]; rfl))
 cases c1 with
 | own i =>
  simp only [RM.to] at h6
  cases hr : rowW ty (look σ.bk i) with
  | none => rw [hr] at h6; exact h6.elim
  | some xs =>
   rw [hr] at h6
   cases h6
   have hl := rowW_some hr
   have hov := own_of hR (.inl hl) hx
   obtain ⟨_, hrow⟩ := row_of hR (.inl hl)
   refine key i 0 xs.length xs hl ?_ (by omega)
   cases hp : pl i with
   | nil => rw [hp] at hov; exact ⟨hov.1, rfl, hov.2⟩
   | obj v f => rw [hp] at hov; exact hov.elim
   | «at» b cap =>
    rw [hp] at hov hrow
    obtain ⟨arr, e', g1, g2, g3, g4, g5⟩ := hrow
    exact ⟨⟨b, 0, none⟩, hov, by omega, rfl, fun _ => by simp⟩
 | sub i lo n =>
  simp only [RM.to] at h6
  cases hr : rowW ty (look σ.bk i) with
  | none => rw [hr] at h6; exact h6.elim
  | some xs =>
   rw [hr] at h6
   cases h6
   have hl := rowW_some hr
   obtain ⟨hov, hln⟩ := sub_of (.inl hl) hx
   exact key i lo n xs hl hov hln
 | _ => exact h6.elim
end
end Go.BB
set_option linter.unusedSimpArgs false
set_option linter.unusedVariables false
namespace Go.BB
open Go
section
variable {O : ObjK} {cx : Cx} {σ : St O} {a : Act} {w : World} {pl : Nat → Pl} {cfg : Cfg O} {P : Program} {o : Oper} {wr : Wr O}

theorem rep_value {R : Nat → Prop} {R' : Nat → Prop} {bk : List (Nat × Blk O)} {ty : Ty} {y : ty.den} {t : T} {v : Value} (ht : TR w R bk pl t v)
  (h : ∀ vs, All2 (CR w R bk pl) t.cells vs → Rep w R' ty y vs) : Rep w R' ty y v.cells.toList := by
 cases t with
 | ag cs =>
  obtain ⟨va, e1, e2⟩ := ht
  rw [e1]
  exact h _ e2
 | one c =>
  have h10 := h [v] ⟨ht, trivial⟩
  rw [cells_one (Rep_one _ _ _ h10 _ List.mem_cons_self)]
  exact h10
theorem litParts_to (hR : Rel cx σ a w pl) {ty : Ty} : ∀ (parts : List (Nat × Operand)) (j : Nat) (k : List ty.den → List (Nat × Blk O) → RM O), (litParts ty parts j k).to σ wr →
  ∃ xs fz vs, (k xs fz).to σ wr ∧ Fz σ fz ∧ (parts.map fun p => (p.1, a.eval p.2)) = ((vs : List Value).zipIdx j).map (fun x => (x.2, x.1)) ∧ vs.length = (xs : List ty.den).length ∧
   ∀ (i : Nat) (x : ty.den), xs[i]? = some x → ∃ v, vs[i]? = some v ∧ Rep w (R2 cx w σ pl fz) ty x v.cells.toList
 | [], j, k, h => ⟨[], [], [], h, by simp [Fz], rfl, rfl, by simp⟩
 | p :: ps, j, k, h => by
  unfold litParts at h
  cases hb : Nat.beq p.1 j with
  | false => rw [hb] at h; exact h.elim
  | true =>
   rw [hb] at h
   simp only at h
   obtain ⟨t, h1, h2⟩ := evT_to h
   obtain ⟨x, f, h3, h4, h5⟩ := ofCells_to hR _ _ _ _ h2
   obtain ⟨xs, g, vs, h6, h7, h8, h9, h10⟩ := litParts_to hR ps _ _ h3
   have hv := rep_value (opd_TR hR h1) h5
   refine ⟨x :: xs, capp f g, a.eval p.2 :: vs, h6, ?_, ?_, by simp [h9], ?_⟩
   ·rw [capp_eq]
    intro q hq
    rcases List.mem_append.1 hq with hq | hq
    ·exact h4 q hq
    ·exact h7 q hq
   ·simp only [List.map_cons, List.zipIdx_cons]
    have e1 : p.1 = j := Nat.eq_of_beq_eq_true hb
    have e2 : Nat.add j 1 = j + 1 := rfl
    rw [h8, e1, e2]
   ·intro i y hi
    cases i with
    | zero =>
     simp only [List.getElem?_cons_zero, Option.some.injEq] at hi
     subst hi
     refine ⟨_, rfl, Rep_mono (fun b hb => ?_) (fun _ _ => rfl) _ _ _ hv⟩
     rcases hb with hb | ⟨q, hq, hb⟩
     ·exact .inl hb
     ·exact .inr ⟨q, by rw [capp_eq]; exact List.mem_append_left _ hq, hb⟩
    | succ i =>
     obtain ⟨v, q1, q2⟩ := h10 i y (by simpa using hi)
     refine ⟨v, by simpa using q1, Rep_mono (fun b hb => ?_) (fun _ _ => rfl) _ _ _ q2⟩
     rcases hb with hb | ⟨q, hq, hb⟩
     ·exact .inl hb
     ·exact .inr ⟨q, by rw [capp_eq]; exact List.mem_append_right _ hq, hb⟩
theorem good_buildSlice (hT : TTok P cfg.tt) (hR : Rel cx σ a w pl) (hd : ∀ d, o.dst = some d → d < cx.N) {nb : Nat} {t n : Nat} {parts : Array (Nat × Operand)}
  (ho : o.op = .buildSlice t n parts) (h : (opBuildSlice cfg nb o.dst t n parts : RM O).to σ wr) : Good P cx σ a w o wr := by
 obtain ⟨e, ty, ei, hu, he, hty, hz, h1⟩ := elemTI_to hT h
 cases b1 : Nat.beq n (clen parts.toList) with
 | false => rw [b1] at h1; exact h1.elim
 | true =>
  cases b2 : Nat.ble (Nat.mul n ty.sz) 16777216 with
  | false => rw [b1, b2] at h1; exact h1.elim
  | true =>
   rw [b1, b2] at h1
   simp only at h1
   obtain ⟨xs, fz, vs, h2, h3, h4, h5, h6⟩ := litParts_to hR _ _ _ h1
   cases hfz : fzOk fz with
   | false => rw [hfz] at h2; exact h2.elim
   | true =>
    rw [hfz] at h2
    obtain ⟨hn, h64, h7⟩ := fresh_to h2
    cases h7
    have e1 : n = parts.toList.length := by rw [← clen_eq]; exact Nat.eq_of_beq_eq_true b1
    have e2 : n * ty.sz ≤ 16777216 := Nat.le_of_ble_eq_true b2
    have hsz : ty.sz = ei.size := he.size ty hty
    obtain ⟨i0, z, q1, q2, q3, q4⟩ := info_of he
    have hvl : vs.length = n := by
     have := congrArg List.length h4
     simp only [List.length_map, List.length_zipIdx] at this
     omega
    have hvc : ∀ v ∈ vs, v.cells.size = ty.sz := by
     intro v hv
     obtain ⟨i, hi, rfl⟩ := List.mem_iff_getElem.1 hv
     have hix : i < xs.length := by omega
     obtain ⟨v', g1, g2⟩ := h6 i _ (List.getElem?_eq_getElem hix)
     rw [List.getElem?_eq_getElem hi] at g1
     cases g1
     have := Rep_len _ _ _ g2
     simpa using this
    obtain ⟨hRf, hkf, hROf⟩ := rel_freeze hR h3 (fzOk_mem hfz)
    have hnf : look (fz ++ σ.bk) nb = none := by
     rw [look_append]
     cases hl : look fz nb with
     | none => simpa using hn
     | some B =>
      obtain ⟨t', ys, _, g⟩ := h3 (nb, B) (look_mem hl)
      simp only at g
      rcases g with g | g <;> rw [hn] at g <;> cases g
    obtain ⟨arr, hrun, hsize, helem⟩ : ∃ arr : Array Value, (execOp a.eval o).run P w = .ok (.value (.slice (some ⟨w.heap.size, 0, none⟩) n n)) (w.alloc (.cells arr e)) ∧ arr.size = n * ty.sz ∧
      ∀ j v, vs[j]? = some v → ∀ q u, v.cells[q]? = some u → arr[j * ty.sz + q]? = some u := by
     by_cases h0 : n = 0
     ·refine ⟨#[], ?_, by simp [h0], fun j v hj => ?_⟩
      ·have hp : parts = #[] := by
        apply Array.eq_empty_of_size_eq_zero
        simpa [h0] using e1.symm
       subst hp
       subst h0
       simp [execOp, ho, Instr.buildSlice, run_underlying hu, sizeOf, typeInfo, q1, Instr.fill, newRow]
       congr 2
       exact Array.size_eq_zero_iff.1 (by simp)
      ·have : j < vs.length := (List.getElem?_eq_some_iff.1 hj).1
       omega
     ·have hfill := Great.fill_whole hz vs ((Array.range (n * i0.size)).map (z.cells[· % z.cells.size]!)) hvc (by simp [hvl, q2, hsz])
      have hparts : (parts.map fun (i, x) => (i, a.eval x)).toList = (vs.zipIdx 0).map fun x => (x.2, x.1) := by
       rw [← h4]; simp
      refine ⟨(vs.flatMap fun v => v.cells.toList).toArray, ?_, ?_, ?_⟩
      ·have hr := run_buildSlice (P := P) w t e n (parts.map fun (i, x) => (i, a.eval x)) _ i0 z hu q1 q4 (by rw [q2, ← hsz]; omega) (by
        rw [q2, ← hsz]
        intro hc
        rcases Nat.mul_eq_zero.1 hc with hc | hc <;> omega) (by rw [hparts, q2, ← hsz]; rw [q2, ← hsz] at hfill; exact hfill)
       simp only [execOp, ho, hr, Sem.run_bind, Result.andThen_ok, Sem.run_pure]
      ·rw [List.size_toArray]
       have hgen : ∀ (l : List Value), (∀ v ∈ l, v.cells.size = ty.sz) → (l.flatMap fun v => v.cells.toList).length = l.length * ty.sz := by
        intro l
        induction l with
        | nil => intro _; simp
        | cons v l ih =>
         intro hh
         rw [List.flatMap_cons, List.length_append, ih (fun u hu => hh u (List.mem_cons_of_mem _ hu)), Array.length_toList, hh v List.mem_cons_self, List.length_cons, Nat.add_mul, Nat.one_mul, Nat.add_comm]
       rw [hgen vs hvc, hvl]
      ·intro j v hj q u hq
       have hq' : q < ty.sz := by
        have := (Array.getElem?_eq_some_iff.1 hq).1
        rw [hvc v (List.mem_of_getElem? hj)] at this
        exact this
       rw [List.getElem?_toArray, Great.flat_get hz vs hvc]
       have d1 : (j * ty.sz + q) / ty.sz = j := by
        rw [Nat.mul_comm, Nat.mul_add_div hz, Nat.div_eq_of_lt hq', Nat.add_zero]
       have d2 : (j * ty.sz + q) % ty.sz = q := by
        rw [Nat.mul_comm, Nat.mul_add_mod, Nat.mod_eq_of_lt hq']
       rw [d1, d2, hj]
       exact hq
    have hM := mem_alloc hRf (σ := ⟨σ.sl, fz ++ σ.bk⟩) hnf h64 (w' := w.alloc (.cells arr e)) (Ext.alloc _ _) (B := .row ty xs) (p := .at w.heap.size n) (fun b hb => by cases hb; simp) trivial
     (fun hRO hRw hk => ⟨hz, by
      rw [plus_same]
      refine ⟨arr, e, heap_alloc_new w _, hsize, by omega, ?_, fun j x hj => ?_⟩
      ·have : n ≤ n * ty.sz := Nat.le_mul_of_pos_right _ hz
       simp only [maxLen]; omega
      ·obtain ⟨v, g1, g2⟩ := h6 j x hj
       refine ⟨v.cells.toList, Rep_mono (fun b hb => hRO b (hROf b hb)) (fun b hb => hRw b (hROf b hb)) _ _ _ g2, fun q u hq => helem j v g1 q u ?_⟩
       simpa using hq⟩)
    have hfin := rel_gen hRf hM.1 hM.2 (dst := o.dst) hd (s := .t (.one (.own nb))) (v := .slice (some ⟨w.heap.size, 0, none⟩) n n) ⟨rfl, .row ty xs, by rw [look_cons]; simp, fun t' m hm => by
     rw [plus_same]
     obtain ⟨zs, p1 | p1, p2⟩ := hm <;> cases p1
     subst p2
     show Value.slice _ n n = Value.slice _ xs.length n
     rw [← h5, hvl]⟩
    refine good_value hrun (pl' := plus pl nb (.at w.heap.size n)) ?_
    simp only [St.app, capp, capp_eq] at hfin ⊢
    exact hfin
theorem fillParts_to (hT : TTok P cfg.tt) (hR : Rel cx σ a w pl) {s : Nat} {fields : Array Field} {places : Array (Nat × Nat)} (hu : P.underlying s = some (.struct fields))
  (hp : ∀ (f : Nat) (fd : Field) (fi : TI), fields[f]? = some fd → TIok P fd.type fi → places[f]? = some (fd.offset, fi.size)) :
  ∀ (parts : List (Nat × Operand)) (cs : List C) (arr : Array Value) (k : List C → RM O), (fillParts cfg s parts cs k).to σ wr → All2 (CR w (RO cx w σ.bk pl) σ.bk pl) cs arr.toList →
  ∃ cs' arr', (k cs').to σ wr ∧ All2 (CR w (RO cx w σ.bk pl) σ.bk pl) cs' arr'.toList ∧ Instr.fill (places[·]?) arr (parts.map fun p => (p.1, a.eval p.2)) = some arr'
 | [], cs, arr, k, h, hcs => ⟨cs, arr, h, hcs, rfl⟩
 | p :: ps, cs, arr, k, h, hcs => by
  unfold fillParts at h
  obtain ⟨fields', fd, fi, h1, h2, h3, h4⟩ := fieldTI_to hT h
  rw [hu] at h1
  cases h1
  obtain ⟨t, h5, h6⟩ := evT_to h4
  cases b1 : Nat.beq (clen t.cells) fi.size with
  | false => rw [b1] at h6; exact h6.elim
  | true =>
   cases b2 : Nat.ble (Nat.add fd.offset fi.size) (clen cs) with
   | false => rw [b1, b2] at h6; exact h6.elim
   | true =>
    cases b3 : okCs t.cells with
    | false => rw [b1, b2, b3] at h6; exact h6.elim
    | true =>
     rw [b1, b2, b3] at h6
     simp only [forceM_eq] at h6
     have e1 : t.cells.length = fi.size := by rw [← clen_eq]; exact Nat.eq_of_beq_eq_true b1
     have e2 : fd.offset + fi.size ≤ cs.length := by have := Nat.le_of_ble_eq_true b2; rw [clen_eq] at this; exact this
     have hv := TR_cells (opd_TR hR h5) b3
     have e3 : (a.eval p.2).cells.size = fi.size := by rw [← e1, hv.length]; simp
     have e4 : cs.length = arr.size := by rw [hcs.length]; simp
     obtain ⟨g1, g2⟩ := Great.foldl_set fd.offset (a.eval p.2).cells.toList 0 arr
     have hnew : All2 (CR w (RO cx w σ.bk pl) σ.bk pl) (putAt fd.offset t.cells cs) (((a.eval p.2).cells.toList.zipIdx 0).foldl (fun cs (x : Value × Nat) => cs.setIfInBounds (fd.offset + x.2) x.1) arr).toList := by
      have hl : (((a.eval p.2).cells.toList.zipIdx 0).foldl (fun cs (x : Value × Nat) => cs.setIfInBounds (fd.offset + x.2) x.1) arr).toList =
        arr.toList.take fd.offset ++ ((a.eval p.2).cells.toList ++ arr.toList.drop (fd.offset + (a.eval p.2).cells.toList.length)) := by
       apply List.ext_getElem?
       intro k
       rw [splice_get (by simp only [Array.length_toList]; omega)]
       simp only [Array.getElem?_toList]
       rw [g2 k]
       simp only [Array.length_toList, Nat.add_zero]
       by_cases c1 : k < fd.offset
       ·rw [if_neg (by omega), if_pos c1]
       ·by_cases c2 : k < fd.offset + (a.eval p.2).cells.size
        ·rw [if_pos (by omega), if_neg c1, if_pos c2]
         simp
        ·rw [if_neg (by omega), if_neg c1, if_neg c2]
      rw [hl, putAt_eq]
      rw [show (a.eval p.2).cells.toList.length = t.cells.length by rw [hv.length]]
      exact (hcs.take _).append (hv.append (hcs.drop _))
     obtain ⟨cs', arr', h7, h8, h9⟩ := fillParts_to hT hR hu hp ps _ _ _ h6 hnew
     refine ⟨cs', arr', h7, h8, ?_⟩
     simp only [List.map_cons]
     unfold Instr.fill
     rw [hp p.1 fd fi h2 h3]
     simp only [e3]
     rw [if_neg (by simp; omega)]
     rw [← h9]
     congr 1
     rw [← Array.foldl_toList]
     simp
theorem mapM_run {α β : Type} {f : α → Sem β} {g : α → β} : ∀ (l : List α), (∀ x ∈ l, (f x).run P w = .ok (g x) w) → (l.mapM f).run P w = .ok (l.map g) w
 | [], _ => by simp
 | x :: l, h => by
  simp only [List.mapM_cons, Sem.run_bind, h x List.mem_cons_self, Result.andThen_ok, mapM_run l (fun y hy => h y (List.mem_cons_of_mem _ hy)), Sem.run_pure, List.map_cons]
theorem good_build (hT : TTok P cfg.tt) (hR : Rel cx σ a w pl) (hd : ∀ d, o.dst = some d → d < cx.N) {s : Nat} {parts : Array (Nat × Operand)}
  (ho : o.op = .build s parts) (h : (opBuild cfg o.dst s parts : RM O).to σ wr) : Good P cx σ a w o wr := by
 obtain ⟨ti, h1, h2⟩ := getTI_to h
 cases hs : ti.sub with
 | struct fs =>
  simp only [hs, forceM_eq] at h2
  obtain ⟨fields, h3, _, h4⟩ := (hT s ti h1).struct fs hs
  obtain ⟨i, z, g1, g2, g3, g4, g5⟩ := (hT s ti h1).info
  have hpl : (fields.mapM fun f => do pure (f.offset, ← sizeOf f.type) : Sem (Array (Nat × Nat))).run P w = .ok (fields.map fun f => (f.offset, ((P.info? f.type).map (·.size)).getD 0)) w := by
   rw [Array.mapM_eq_mapM_toList]
   simp only [Sem.run_map]
   rw [mapM_run (g := fun f => (f.offset, ((P.info? f.type).map (·.size)).getD 0)) fields.toList (fun f hf => by
    obtain ⟨i, hi⟩ := h4 f hf
    simp [sizeOf, typeInfo, hi])]
   simp only [Result.andThen_ok]
   congr 1
   apply Array.ext'
   simp
  obtain ⟨cs', arr', h5, h6, h7⟩ := fillParts_to hT hR (places := fields.map fun f => (f.offset, ((P.info? f.type).map (·.size)).getD 0)) h3 (fun f fd fi hf hfi => by
   obtain ⟨i', z', p1, p2, _⟩ := hfi.info
   simp [hf, p1, p2]) parts.toList (ti.zero.map .sc) z.cells _ h2 (by rw [g5]; exact All2_sc _)
  rw [ret1_to h5]
  refine good_put hR hd (v := .agg arr') ?_ ⟨arr', rfl, h6⟩
  have hparts : (parts.map fun (i, x) => (i, a.eval x)).toList = parts.toList.map fun p => (p.1, a.eval p.2) := by simp
  simp only [execOp, ho, Instr.build, zeroValue, typeInfo, Sem.run_bind, run_program, Result.andThen_ok, g1, Sem.run_pure, g4, run_underlying h3, hpl, hparts, h7]
 | _ => simp only [hs] at h2; exact h2.elim
end
end Go.BB
set_option linter.unusedSimpArgs false
set_option linter.unusedVariables false
namespace Go.BB
open Go
section
variable {O : ObjK} {σ : St O} {pl : Nat → Pl}

abbrev REnt := Pl × Option Nat
def rids (E : List REnt) : List Nat := E.filterMap (·.2)
def ROk (σ : St O) (pl : Nat → Pl) (E : List REnt) : Prop := ∀ e ∈ E, match e.2 with | some i => e.1 = pl i ∧ liveAt σ.bk i | none => ∀ b, ¬ e.1.fp b
def Rds (σ : St O) (rd : List Nat) : Prop := ∀ i ∈ rd, ∃ (t : Ty) (xs : List t.den), look σ.bk i = some (.row t xs) ∨ look σ.bk i = some (.fro t xs)
theorem Rds.append {x y : List Nat} (h : Rds σ x) (h' : Rds σ y) : Rds σ (capp x y) := by
 rw [capp_eq]
 intro i hi
 rcases List.mem_append.1 hi with hi | hi
 ·exact h i hi
 ·exact h' i hi
theorem rids_append (E F : List REnt) : rids (E ++ F) = rids E ++ rids F := by simp [rids]
def Sh.pinned : Sh → Bool
 | .sub _ => true | .map _ => true | .ptr _ => true | _ => false
theorem labs_append (nb m n : Nat) : labs nb (m + n) = labs nb m ++ labs (nb + m) n := by
 induction m generalizing nb with
 | zero => simp [labs]
 | succ m ih =>
  rw [show m + 1 + n = (m + n) + 1 by omega]
  simp only [labs, List.cons_append, Nat.add_eq]
  rw [ih (nb + 1), show nb + 1 + m = nb + (m + 1) by omega]
theorem labs_length (nb n : Nat) : (labs nb n).length = n := by
 induction n generalizing nb with
 | zero => rfl
 | succ n ih => simp [labs, ih]
theorem labs_mem {nb n i : Nat} : i ∈ labs nb n ↔ nb ≤ i ∧ i < nb + n := by
 induction n generalizing nb with
 | zero => simp [labs]
 | succ n ih =>
  simp only [labs, List.mem_cons, ih, Nat.add_eq]
  omega
theorem labs_nodup (nb n : Nat) : (labs nb n).Nodup := by
 induction n generalizing nb with
 | zero => exact List.nodup_nil
 | succ n ih => exact List.nodup_cons.2 ⟨fun h => by have := labs_mem.1 h; simp only [Nat.add_eq] at this; omega, ih _⟩
theorem mem_zip_left {α β : Type} {a a' : List α} {b b' : List β} (h : a.length = b.length) {x : α × β} : x ∈ a.zip b → x ∈ (a ++ a').zip (b ++ b') := fun hx => by
 rw [List.zip_append h]; exact List.mem_append_left _ hx
theorem mem_zip_right {α β : Type} {a a' : List α} {b b' : List β} (h : a.length = b.length) {x : α × β} : x ∈ a'.zip b' → x ∈ (a ++ a').zip (b ++ b') := fun hx => by
 rw [List.zip_append h]; exact List.mem_append_right _ hx
theorem zip_right_map {α β γ : Type} {f : β → γ} : ∀ {a : List α} {b : List β} {x : α} {y : β}, (x, y) ∈ a.zip b → (x, f y) ∈ a.zip (b.map f)
 | _ :: _, _ :: _, x, y, h => by
  rcases List.mem_cons.1 h with h | h
  ·cases h; exact List.mem_cons_self
  ·exact List.mem_cons_of_mem _ (zip_right_map h)
theorem rids_mem {E : List REnt} {i : Nat} : i ∈ rids E ↔ ∃ p, (p, some i) ∈ E := by
 unfold rids
 rw [List.mem_filterMap]
 constructor
 ·rintro ⟨⟨p, o⟩, h1, h2⟩
  simp only at h2
  subst h2
  exact ⟨p, h1⟩
 ·rintro ⟨p, h⟩; exact ⟨_, h, rfl⟩
theorem zip_mem_right {α β : Type} : ∀ {a : List α} {b : List β} {x : α}, a.length = b.length → x ∈ a → ∃ y, (x, y) ∈ a.zip b
 | [], _, _, _, h => by cases h
 | _ :: _, [], _, h, _ => by simp at h
 | y :: a, z :: b, x, h, hx => by
  rcases List.mem_cons.1 hx with rfl | hx
  ·exact ⟨z, List.mem_cons_self⟩
  ·obtain ⟨q, hq⟩ := zip_mem_right (b := b) (by simpa using h) hx
   exact ⟨q, List.mem_cons_of_mem _ hq⟩
theorem zip_keys_eq {α β : Type} : ∀ {a : List α} {b : List β}, a.length = b.length → (a.zip b).map (·.1) = a
 | [], _, _ => by simp
 | _ :: _, [], h => by simp at h
 | x :: a, y :: b, h => by simp [zip_keys_eq (a := a) (b := b) (by simpa using h)]
theorem rids_pair : ∀ {ls : List Nat} {E : List REnt}, (rids E).Nodup → ls.length = E.length → ∀ l e m f i, (l, e) ∈ ls.zip E → (m, f) ∈ ls.zip E → e.2 = some i → f.2 = some i → l ≠ m → False
 | [], E, _, _, l, e, m, f, i, h, _, _, _, _ => by simp at h
 | _ :: _, [], _, h, _, _, _, _, _, _, _, _, _, _ => by simp at h
 | y :: ls, g :: E, hn, hlen, l, e, m, f, i, h1, h2, he, hf, hlm => by
  have hn' : (rids E).Nodup := by
   unfold rids at hn ⊢
   rw [List.filterMap_cons] at hn
   split at hn
   ·exact hn
   ·exact (List.nodup_cons.1 hn).2
  have hg : g.2 = some i → ∀ q f, (q, f) ∈ ls.zip E → f.2 = some i → False := by
   intro hgi q f hq hfi
   unfold rids at hn
   rw [List.filterMap_cons, hgi] at hn
   exact (List.nodup_cons.1 hn).1 (List.mem_filterMap.2 ⟨f, (List.of_mem_zip hq).2, hfi⟩)
  rcases List.mem_cons.1 h1 with h1 | h1
  ·cases h1
   rcases List.mem_cons.1 h2 with h2 | h2
   ·cases h2; exact hlm rfl
   ·exact hg he m f h2 hf
  ·rcases List.mem_cons.1 h2 with h2 | h2
   ·cases h2; exact hg hf l e h1 he
   ·exact rids_pair hn' (by simpa using hlen) l e m f i h1 h2 he hf hlm
def PK.asSh : (p : PK O) → p.den → p.sh.den
 | .val _, x => x | .fn _, x => x | .row _, x => x | .obj _, x => x | .box _, x => x | .rop _, x => x
def RK.asSh : (r : RK O) → r.den → r.sh.den
 | .val _, x => x | .own _, x => x | .sub _, x => x | .obj _, x => x | .box _, x => x
def Entry (w : World) (R : Nat → Prop) : (ps : List (PK O)) → dens ps → List Value → List Pl → Prop
 | [], _, vs, pls => vs = [] ∧ pls = []
 | p :: ps, x, vs, pls => ∃ v vs' q pls', vs = v :: vs' ∧ pls = q ++ pls' ∧ VRel w R p.sh (p.asSh x.1) v q ∧ Entry w R ps x.2 vs' pls'
def UpdR (w : World) (R : Nat → Prop) : (p : PK O) → p.upd → List Pl → List Pl → Prop
 | .val _, _, o, n => o = [] ∧ n = []
 | .fn _, _, o, n => o = [] ∧ n = []
 | .rop _, _, o, n => o = [] ∧ n = []
 | .row t, u, o, n => ∃ p q, o = [p] ∧ n = [q] ∧ p.same q ∧ RowAt w R q t u
 | .obj k, u, o, n => ∃ p v f, o = [p] ∧ n = [.obj v f] ∧ p.same (.obj v f) ∧ MapRel w R k u v f
 | .box b, u, o, n => ∃ bb c so sn arr e, o = .at bb c :: so ∧ so.length = b.wid ∧ n = .at bb c :: sn ∧ w.heap[bb]? = some (.cells arr e (0, 0)) ∧ ShRel w R b u arr.toList sn
def Upd (w : World) (R : Nat → Prop) : (ps : List (PK O)) → upds ps → List Pl → List Pl → Prop
 | [], _, o, n => o = [] ∧ n = []
 | p :: ps, u, o, n => ∃ qo o' qn n', o = qo ++ o' ∧ n = qn ++ n' ∧ UpdR w R p u.1 qo qn ∧ Upd w R ps u.2 o' n'
def Kept : (ps : List (PK O)) → dens ps → upds ps → Prop
 | [], _, _ => True
 | .val _ :: ps, x, u => Kept ps x.2 u.2
 | .fn _ :: ps, x, u => Kept ps x.2 u.2
 | .rop _ :: ps, x, u => Kept ps x.2 u.2
 | .row t :: ps, x, u => (u.1 : List t.den).length = (x.1.1 : List t.den).length ∧ Kept ps x.2 u.2
 | .obj k :: ps, x, u => Kept ps x.2 u.2
 | .box b :: ps, x, u => Kept ps x.2 u.2
def Res (w : World) (R : Nat → Prop) : (rs : List (RK O)) → rdens rs → List Value → List Pl → Prop
 | [], _, vs, pls => vs = [] ∧ pls = []
 | r :: rs, x, vs, pls => ∃ v vs' q pls', vs = v :: vs' ∧ pls = q ++ pls' ∧ VRel w R r.sh (r.asSh x.1) v q ∧ Res w R rs x.2 vs' pls'
structure Before (w : World) (R : Nat → Prop) (ps : List (PK O)) (x : dens ps) (vs : List Value) (pls : List Pl) : Prop where
 entry : Entry w R ps x vs pls
 disj : Disj pls
 bound : ∀ p ∈ pls, ∀ b, p.fp b → b < w.heap.size ∧ ¬ R b
 read : ∀ b, R b → b < w.heap.size
def R' (w w' : World) (R : Nat → Prop) (old pls : List Pl) (b : Nat) : Prop := (R b ∨ (∃ p ∈ old, p.fp b) ∨ w.heap.size ≤ b) ∧ b < w'.heap.size ∧ ∀ p ∈ pls, ¬ p.fp b
structure After (w w' : World) (R : Nat → Prop) (ps : List (PK O)) (rs : List (RK O)) (x : dens ps) (r : rdens rs) (u : upds ps) (vs : List Value) (pls pls' rpl : List Pl) : Prop where
 ext : Ext (fun b => ∀ p ∈ pls, ¬ p.fp b) w w'
 disj : Disj (pls' ++ rpl)
 bound : ∀ p ∈ pls' ++ rpl, ∀ b, p.fp b → b < w'.heap.size
 new : ∀ p ∈ pls' ++ rpl, ∀ b, p.fp b → (∃ q ∈ pls, q.fp b) ∨ w.heap.size ≤ b
 upd : Upd w' (R' w w' R pls (pls' ++ rpl)) ps u pls pls'
 kept : Kept ps x u
 res : Res w' (R' w w' R pls (pls' ++ rpl)) rs r vs rpl
def resV : List Value → Value
 | [v] => v
 | vs => .tuple vs.toArray
structure Valid (P : Program) (g : Nat) (c : Ctr O) : Prop where
 fn : ∃ f, P.funcs[g]? = some f ∧ (f.name == "runtime.NumGoroutine") = false ∧ f.body.isNone = false
 calls : ∀ (w : World) (R : Nat → Prop) (args : Array Value) (pls : List Pl) (x : dens c.ins) (r : rdens c.outs) (u : upds c.ins), c.F x = some (r, u) → Before w R c.ins x args.toList pls →
  Calls P g args w fun e w' => ∃ vs pls' rpl, e = .returned (resV vs) ∧ After w w' R c.ins c.outs x r u vs pls pls' rpl
def Γok (P : Program) (Γ : List (Nat × Ctr O)) : Prop := ∀ g c, look Γ g = some c → Valid P g c

theorem RowAt_R {w : World} {R R' : Nat → Prop} {p : Pl} {t : Ty} {xs : List t.den} (hR : ∀ b, R b → R' b) (h : RowAt w R p t xs) : RowAt w R' p t xs :=
 RowAt_mono hR (fun _ _ => rfl) (Pl.same_refl _) (fun _ _ => rfl) h
theorem flat_sh {r : RK O} (h : r.flat = true) : r.sh.flat = true := by cases r <;> exact h
theorem Res_R {w : World} {R R2 : Nat → Prop} : ∀ (rs : List (RK O)) (r : rdens rs) (vs : List Value) (pls : List Pl), (flats rs = true ∨ ∀ b, R b → R2 b) → Res w R rs r vs pls → Res w R2 rs r vs pls
 | [], _, _, _, _, h => h
 | r :: rs, x, vs, pls, hf, ⟨v, vs', q, pls', e1, e2, h1, h2⟩ => by
  have hf' : (r.flat = true ∧ flats rs = true) ∨ ∀ b, R b → R2 b := by
   rcases hf with hf | hf
   ·left
    unfold flats at hf
    cases ht : r.flat with
    | false => rw [ht] at hf; cases hf
    | true => rw [ht] at hf; exact ⟨rfl, hf⟩
   ·exact .inr hf
  refine ⟨v, vs', q, pls', e1, e2, ?_, Res_R rs _ _ _ (hf'.imp (·.2) id) h2⟩
  rcases hf' with hf' | hf'
  ·exact VRel_flat (flat_sh hf'.1) h1
  ·exact VRel_R hf' h1
theorem Entry_R {w : World} {R R2 : Nat → Prop} (hR : ∀ b, R b → R2 b) : ∀ (ps : List (PK O)) (x : dens ps) (vs : List Value) (pls : List Pl), Entry w R ps x vs pls → Entry w R2 ps x vs pls
 | [], _, _, _, h => h
 | p :: ps, x, vs, pls, ⟨v, vs', q, pls', e1, e2, h1, h2⟩ => ⟨v, vs', q, pls', e1, e2, VRel_R hR h1, Entry_R hR ps _ _ _ h2⟩
theorem flatR_cons {p : PK O} {ps : List (PK O)} (h : flatR (p :: ps) = true) : (∀ {w : World} {R R2 : Nat → Prop} {u : p.upd} {o n : List Pl}, UpdR w R p u o n → UpdR w R2 p u o n) ∧ flatR ps = true := by
 cases p with
 | val t => exact ⟨fun h => h, h⟩
 | fn g => exact ⟨fun h => h, h⟩
 | rop t => exact ⟨fun h => h, h⟩
 | row t =>
  unfold flatR at h
  cases ht : t.flat with
  | false => rw [ht] at h; cases h
  | true => rw [ht] at h; exact ⟨fun ⟨p, q, e1, e2, h1, h2⟩ => ⟨p, q, e1, e2, h1, RowAt_flat ht h2⟩, h⟩
 | obj k =>
  unfold flatR at h
  cases ht : MapK.flat k with
  | false => rw [ht] at h; cases h
  | true => rw [ht] at h; exact ⟨fun ⟨p, v, f, e1, e2, h1, h2⟩ => ⟨p, v, f, e1, e2, h1, MapRel_flat ht h2⟩, h⟩
 | box b =>
  unfold flatR at h
  cases ht : b.flat with
  | false => rw [ht] at h; cases h
  | true => rw [ht] at h; exact ⟨fun ⟨bb, c, so, sn, arr, e, e1, e2, e3, h1, h2⟩ => ⟨bb, c, so, sn, arr, e, e1, e2, e3, h1, ShRel_flat ht h2⟩, h⟩
theorem UpdR_R {w : World} {R R2 : Nat → Prop} (hR : ∀ b, R b → R2 b) : ∀ {p : PK O} {u : p.upd} {o n : List Pl}, UpdR w R p u o n → UpdR w R2 p u o n
 | .val _, _, _, _, h => h
 | .fn _, _, _, _, h => h
 | .rop _, _, _, _, h => h
 | .row t, _, _, _, ⟨p, q, e1, e2, h1, h2⟩ => ⟨p, q, e1, e2, h1, RowAt_R hR h2⟩
 | .obj k, _, _, _, ⟨p, v, f, e1, e2, h1, h2⟩ => ⟨p, v, f, e1, e2, h1, MapRel_R hR h2⟩
 | .box b, _, _, _, ⟨bb, c, so, sn, arr, e, e1, e2, e3, h1, h2⟩ => ⟨bb, c, so, sn, arr, e, e1, e2, e3, h1, ShRel_R hR h2⟩
theorem Upd_R {w : World} {R R2 : Nat → Prop} : ∀ (ps : List (PK O)) (u : upds ps) (o n : List Pl), (flatR ps = true ∨ ∀ b, R b → R2 b) → Upd w R ps u o n → Upd w R2 ps u o n
 | [], _, _, _, _, h => h
 | p :: ps, u, o, n, hf, ⟨qo, o', qn, n', e1, e2, h1, h2⟩ => by
  rcases hf with hf | hf
  ·obtain ⟨g1, g2⟩ := flatR_cons hf
   exact ⟨qo, o', qn, n', e1, e2, g1 h1, Upd_R ps _ _ _ (.inl g2) h2⟩
  ·exact ⟨qo, o', qn, n', e1, e2, UpdR_R hf h1, Upd_R ps _ _ _ (.inr hf) h2⟩
end
end Go.BB
