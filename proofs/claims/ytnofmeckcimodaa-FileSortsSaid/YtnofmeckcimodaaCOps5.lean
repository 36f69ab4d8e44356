/- A symbolic machine for the model's code, and what it shows of this seat's functions. No conditions. -/
import Derived.Test.YtnofmeckcimodaaCOps4
set_option linter.unusedSimpArgs false
set_option linter.unusedVariables false
namespace Go.BB
open Go
section
variable {O : ObjK} {cx : Cx} {σ : St O} {a : Act} {w : World} {pl : Nat → Pl} {cfg : Cfg O} {P : Program} {o : Oper} {wr : Wr O}

theorem i64_small {n : Int} (h0 : 0 ≤ n) (h1 : n ≤ 140737488355328) : IntKind.i64.wrap n = n := by
  have h2 : n % 18446744073709551616 = n := Int.emod_eq_of_lt h0 (by omega)
  simp [IntKind.wrap, IntKind.bits, IntKind.signed, h2]
  omega
theorem makeSlice_run {t e : TypeId} {ei : TI} {ty : Ty} (hu : P.underlying t = some (.slice e)) (he : TIok P e ei) (hty : ei.ty = some ty) (hz : 0 < ty.sz) {k k' : IntKind} {l c : Int}
    (h0 : 0 ≤ l) (h1 : l ≤ c) (h2 : c.toNat * ei.bytes ≤ LIM) (h3 : c.toNat ≤ LIM) :
    ∃ arr : Array Value, arr.size = c.toNat * ty.sz ∧ (∀ j q v, j < c.toNat → ei.zero[q]? = some v → arr[j * ty.sz + q]? = some v) ∧
      (Instr.makeSlice t (.int k l) (.int k' c)).run P w = .ok (.slice (some ⟨w.heap.size, 0, none⟩) l.toNat c.toNat) (w.alloc (.cells arr e)) := by
  obtain ⟨i, z, g1, g2, g3, g4, g5⟩ := he.info
  have hsz : ty.sz = ei.size := he.size ty hty
  have hzl : z.cells.size = ty.sz := by
    have := Rep_len _ _ _ (he.zero ty hty w (fun _ => True))
    rw [← g5] at this
    simpa using this
  simp only [LIM] at h2 h3
  have wl : IntKind.i64.wrap l = l := i64_small h0 (by omega)
  have wc : IntKind.i64.wrap c = c := i64_small (by omega) (by omega)
  have hb : ¬ (ei.bytes * c > (2 : Int) ^ 48) := by
    have : (ei.bytes : Int) * c = ((c.toNat * ei.bytes : Nat) : Int) := by
      rw [Int.natCast_mul, Int.toNat_of_nonneg (by omega), Int.mul_comm]
    rw [this]
    omega
  by_cases hc : c.toNat = 0
  · refine ⟨#[], by simp [hc], fun j q v hj => by omega, ?_⟩
    have hl : l.toNat = 0 := by omega
    have hc0 : c = 0 := by omega
    have hl0 : l = 0 := by omega
    subst hc0 hl0
    simp [Instr.makeSlice, underlying, hu, typeInfo, g1, g3, asInt, asIntOf, wl, sizeOf_run he, newRow]
    congr 2
    exact Array.size_eq_zero_iff.1 (by simp)
  · refine ⟨(Array.range (c.toNat * ty.sz)).map (z.cells[· % z.cells.size]!), by simp, fun j q v hj hq => ?_, ?_⟩
    · have hq' : q < ty.sz := by
        have := (List.getElem?_eq_some_iff.1 hq).1
        rw [← g5] at this
        simpa [hzl] using this
      have hlt : j * ty.sz + q < c.toNat * ty.sz := by
        have : (j + 1) * ty.sz ≤ c.toNat * ty.sz := Nat.mul_le_mul_right _ hj
        rw [Nat.add_mul, Nat.one_mul] at this
        omega
      rw [Array.getElem?_map, Array.getElem?_eq_getElem (by simpa using hlt), Array.getElem_range, Option.map_some, hzl, Nat.mul_comm j, Nat.mul_add_mod, Nat.mod_eq_of_lt hq']
      rw [← g5] at hq
      have hq2 : z.cells[q]? = some v := by simpa using hq
      rw [Array.getElem!_eq_getD, Array.getD_eq_getD_getElem?, hq2]
      rfl
    · have hn0 : ¬ c.toNat * ty.sz = 0 := by
        intro h
        rcases Nat.mul_eq_zero.1 h with h | h <;> omega
      have hc1 : ¬ (c < 0) := by omega
      have hl1 : ¬ (l < 0) := by omega
      have hlc : ¬ (l > c) := by omega
      have hgo : (z.cells.size = ty.sz) := hzl
      have hb' : ¬ (281474976710656 < (ei.bytes : Int) * c) := by
        have : ((2 : Int) ^ 48) = 281474976710656 := by decide
        omega
      simp [Instr.makeSlice, underlying, hu, typeInfo, g1, g3, asInt, asIntOf, wl, wc, hb', hc1, hl1, hlc, sizeOf, g2, zeroValue, g4, newRow, hn0, ← hsz]
theorem rep_zero {R : Nat → Prop} {e : TypeId} {ei : TI} {ty : Ty} (he : TIok P e ei) (hty : ei.ty = some ty) : Rep w R ty ty.zero ei.zero := he.zero ty hty w R
theorem good_makeSlice (hT : TTok P cfg.tt) (hR : Rel cx σ a w pl) (hd : ∀ d, o.dst = some d → d < cx.N) {nb : Nat} {t : TypeId} {l c : Operand}
    (ho : o.op = .makeSlice t l c) (h : (opMakeSlice cfg nb o.dst t l c : RM O).to σ wr) : Good P cx σ a w o wr := by
  obtain ⟨k, lv, h1, h2⟩ := evI_to h
  obtain ⟨k', cv, h3, h4⟩ := evI_to h2
  obtain ⟨e, ty, ei, hu, he, hty, hz, h5⟩ := elemTI_to hT h4
  obtain ⟨g1, g2, g3, g4, h6⟩ := h5
  obtain ⟨h7, h8, h9⟩ := fresh_to h6
  cases h9
  have hl := opd_sc hR h1
  have hc := opd_sc hR h3
  have g1 := of_decide_eq_true g1
  have g2 := of_decide_eq_true g2
  obtain ⟨arr, p1, p2, p3⟩ := makeSlice_run (P := P) (w := w) hu he hty hz (k := k) (k' := k') g1 g2 (of_decide_eq_true g3) (of_decide_eq_true g4)
  have hrl : (List.replicate lv.toNat ty.zero).length = lv.toNat := by simp
  have hM := mem_alloc hR h7 h8 (w' := w.alloc (.cells arr e)) (Ext.alloc _ _) (B := .row ty (List.replicate lv.toNat ty.zero)) (p := .at w.heap.size cv.toNat) (fun b hb => by cases hb; simp) trivial
    (fun hRO hRw hk => ⟨hz, by
      rw [plus_same]
      refine ⟨arr, e, heap_alloc_new w _, p1, by rw [hrl]; omega, ?_, fun j x hj => ?_⟩
      · have := of_decide_eq_true g4
        simp only [LIM] at this
        simp only [maxLen]; omega
      · rw [List.getElem?_replicate] at hj
        split at hj
        · cases hj
          exact ⟨ei.zero, rep_zero he hty, fun q v hq => p2 j q v (by omega) hq⟩
        · simp at hj⟩)
  refine good_value (v := .slice (some ⟨w.heap.size, 0, none⟩) lv.toNat cv.toNat) (w' := w.alloc (.cells arr e)) (pl' := plus pl nb (.at w.heap.size cv.toNat)) (by simp [execOp, ho, hl, hc, p3]) ?_
  refine rel_gen hR hM.1 hM.2 hd ⟨rfl, .row ty (List.replicate lv.toNat ty.zero), by rw [look_cons]; simp, fun t' n hn => ?_⟩
  rw [plus_same]
  obtain ⟨ys, q1 | q1, q2⟩ := hn <;> cases q1
  rw [hrl] at q2
  subst q2
  rfl

/-! append and copy -/
/-- a slice that is read, its elements as they were all along -/
theorem sliceOf_to2 (hR : Rel cx σ a w pl) {t : Ty} {c : C} {k : List t.den → RM O} {wr : Wr O} (h : (sliceOf t c k).to σ wr) {u : Value} (hu : CR w (RO cx w σ.bk pl) σ.bk pl c u) :
    ∃ xs, (k xs).to σ wr ∧ RepL w (fun _ => True) (Rep w (RO cx w σ.bk pl) t) t.sz xs [u] := by
  have gen : ∀ (i lo n : Nat) (xs : List t.den), (look σ.bk i = some (.row t xs) ∨ look σ.bk i = some (.fro t xs)) → subV (pl i) t.sz lo n u → lo + n ≤ xs.length →
      RepL w (fun _ => True) (Rep w (RO cx w σ.bk pl) t) t.sz ((xs.drop lo).take n) [u] := by
    intro i lo n xs hl hv hn
    obtain ⟨hz, hrow⟩ := row_of hR hl
    have hlen : ((xs.drop lo).take n).length = n := by simp; omega
    cases hp : pl i with
    | nil =>
      rw [hp] at hv
      obtain ⟨rfl, rfl, rfl⟩ := hv
      exact ⟨none, 0, by simp, by simp, fun h => by simp at h⟩
    | obj v f => rw [hp] at hv; exact hv.elim
    | «at» b cap =>
      rw [hp] at hv hrow
      obtain ⟨ad, rfl, h1, h2, h3⟩ := hv
      obtain ⟨arr, e, g1, g2, g3, g4, g5⟩ := hrow
      refine ⟨some ad, cap - lo, by rw [hlen], by rw [hlen]; omega, fun hpos => ⟨ad, rfl, trivial, fun j x hj => ?_⟩⟩
      rw [hlen] at hpos
      have hjn : j < n := by
        have := (List.getElem?_eq_some_iff.1 hj).1
        rw [hlen] at this; exact this
      have hj' : xs[lo + j]? = some x := by
        rw [List.getElem?_take, if_pos hjn, List.getElem?_drop] at hj
        exact hj
      obtain ⟨cs, g6, g7⟩ := g5 (lo + j) x hj'
      have had : ad = ⟨b, lo * t.sz, none⟩ := h3 (by omega)
      refine ⟨cs, g6, fun q v hq => ?_⟩
      rw [had, add_at, cell_of_row w b _ arr e (0, 0) g1]
      have := g7 q v hq
      rw [← this]
      congr 1
      rw [Nat.add_mul]; omega
  unfold sliceOf at h
  unfold ofCells at h
  split at h
  · rename_i t' xs heq
    cases heq
    cases hc : castL t ⟨t', xs⟩ with
    | none => rw [hc] at h; exact h.elim
    | some ys =>
      rw [hc] at h
      have := castL_some hc
      cases this
      obtain ⟨A, c', e1, e2, e3⟩ := hu
      refine ⟨_, h, A, c', e1, e2, fun hp => ?_⟩
      obtain ⟨ad, e4, _, e5⟩ := e3 hp
      exact ⟨ad, e4, trivial, e5⟩
  · rename_i i heq
    cases heq
    simp only [RM.to] at h
    cases hc : rowAs t (look σ.bk i) with
    | none => rw [hc] at h; exact h.elim
    | some xs =>
      rw [hc] at h
      have hl := rowAs_some hc
      have ho := own_of hR hl hu
      have hrow := (row_of hR hl).2
      have hs : subV (pl i) t.sz 0 xs.length u := by
        cases hp : pl i with
        | nil => rw [hp] at ho; exact ⟨ho.1, rfl, ho.2⟩
        | obj v f => rw [hp] at ho; exact ho.elim
        | «at» b cap =>
          rw [hp] at ho hrow
          obtain ⟨arr, e, g1, g2, g3, g4, g5⟩ := hrow
          exact ⟨⟨b, 0, none⟩, ho, by omega, rfl, fun _ => by simp⟩
      have := gen i 0 xs.length xs hl hs (by omega)
      simp only [List.drop_zero, List.take_length] at this
      exact ⟨xs, h, this⟩
  · rename_i i lo n heq
    cases heq
    simp only [RM.to] at h
    cases hc : rowAs t (look σ.bk i) with
    | none => rw [hc] at h; exact h.elim
    | some xs =>
      rw [hc] at h
      have hl := rowAs_some hc
      obtain ⟨hs, hn⟩ := sub_of hl hu
      exact ⟨_, h, gen i lo n xs hl hs hn⟩
  · rename_i heq
    cases heq
    exact ⟨[], h, none, 0, by rw [show u = _ from hu]; rfl, Nat.le_refl _, fun h => by simp at h⟩
  · exact h.elim
/-- the cells of a row of elements, one behind the other -/
theorem flat_cells {R : Nat → Prop} {t : Ty} : ∀ (xs : List t.den) (ad : Addr), (∀ (j : Nat) (x : t.den), xs[j]? = some x → ∃ cs, Rep w R t x cs ∧ ∀ q v, cs[q]? = some v → w.cell? (ad.add (j * t.sz + q)) = some v) →
    ∃ news : List Value, news.length = xs.length * t.sz ∧ (∀ k v, news[k]? = some v → w.cell? (ad.add k) = some v) ∧ (∀ v ∈ news, v.oneCell' = true) ∧
      ∀ (j : Nat) (x : t.den), xs[j]? = some x → ∃ cs, Rep w R t x cs ∧ ∀ q v, cs[q]? = some v → news[j * t.sz + q]? = some v
  | [], ad, _ => ⟨[], by simp, by simp, by simp, by simp⟩
  | x :: xs, ad, h => by
    obtain ⟨c0, h1, h2⟩ := h 0 x rfl
    have l0 := Rep_len _ _ _ h1
    obtain ⟨news, h3, h4, h5, h6⟩ := flat_cells xs (ad.add t.sz) (fun j y hj => by
      obtain ⟨cs, g1, g2⟩ := h (j + 1) y (by simpa using hj)
      refine ⟨cs, g1, fun q v hq => ?_⟩
      rw [add_add]
      have := g2 q v hq
      rw [Nat.add_mul, Nat.one_mul] at this
      rw [show t.sz + (j * t.sz + q) = j * t.sz + t.sz + q by omega]
      exact this)
    refine ⟨c0 ++ news, by rw [List.length_append, l0, h3, List.length_cons, Nat.add_mul, Nat.one_mul, Nat.add_comm], fun k v hk => ?_, fun v hv => ?_, fun j y hj => ?_⟩
    · by_cases hlt : k < c0.length
      · rw [List.getElem?_append_left hlt] at hk
        have := h2 k v hk
        simpa using this
      · rw [List.getElem?_append_right (by omega)] at hk
        have := h4 _ v hk
        rw [add_add, l0, show t.sz + (k - t.sz) = k by omega] at this
        exact this
    · rcases List.mem_append.1 hv with hv | hv
      · exact Rep_one _ _ _ h1 v hv
      · exact h5 v hv
    · cases j with
      | zero =>
        simp only [List.getElem?_cons_zero, Option.some.injEq] at hj
        subst hj
        refine ⟨c0, h1, fun q v hq => ?_⟩
        rw [Nat.zero_mul, Nat.zero_add, List.getElem?_append_left (List.getElem?_eq_some_iff.1 hq).1]
        exact hq
      | succ j =>
        obtain ⟨cs, g1, g2⟩ := h6 j y (by simpa using hj)
        refine ⟨cs, g1, fun q v hq => ?_⟩
        rw [List.getElem?_append_right (by rw [l0, Nat.add_mul]; omega), l0, Nat.add_mul, Nat.one_mul, show j * t.sz + t.sz + q - t.sz = j * t.sz + q by omega]
        exact g2 q v hq
/-- what a slice that is read has at run time -/
theorem src_cells {R : Nat → Prop} {t : Ty} {ys : List t.den} {u : Value} (h : RepL w (fun _ => True) (Rep w R t) t.sz ys [u]) :
    ∃ (A : Option Addr) (c : Nat) (news : List Value), u = .slice A ys.length c ∧ ys.length ≤ c ∧ (0 < ys.length → ∃ ad, A = some ad) ∧ news.length = ys.length * t.sz ∧ (∀ v ∈ news, v.oneCell' = true) ∧
      (∀ ad, A = some ad → ∀ k v, news[k]? = some v → w.cell? (ad.add k) = some v) ∧
      ∀ (j : Nat) (x : t.den), ys[j]? = some x → ∃ cs, Rep w R t x cs ∧ ∀ q v, cs[q]? = some v → news[j * t.sz + q]? = some v := by
  obtain ⟨A, c, e1, e2, e3⟩ := h
  simp only [List.cons.injEq, and_true] at e1
  by_cases hp : 0 < ys.length
  · obtain ⟨ad, rfl, _, e4⟩ := e3 hp
    obtain ⟨news, h1, h2, h3, h4⟩ := flat_cells ys ad e4
    exact ⟨some ad, c, news, e1, e2, fun _ => ⟨ad, rfl⟩, h1, h3, fun ad' he => by cases he; exact h2, h4⟩
  · obtain rfl : ys = [] := List.eq_nil_of_length_eq_zero (by omega)
    exact ⟨A, c, [], e1, e2, fun h => by simp at h, by simp, by simp, by simp, by simp⟩
theorem firstCells_run {A : Option Addr} {m c : Nat} {news : List Value} (sz k : Nat) (hA : 0 < m → ∃ ad, A = some ad) (hl : news.length = m * sz) (hk : k ≤ m)
    (hc : ∀ ad, A = some ad → ∀ k v, news[k]? = some v → w.cell? (ad.add k) = some v) : (Builtin.firstCells sz k (.slice A m c)).run P w = .ok (news.take (k * sz)).toArray w := by
  cases A with
  | none =>
    have : m = 0 := by
      rcases Nat.eq_zero_or_pos m with h | h
      · exact h
      · obtain ⟨ad, h⟩ := hA h; cases h
    subst this
    have : news = [] := List.eq_nil_of_length_eq_zero (by simpa using hl)
    subst this
    simp [Builtin.firstCells]
  | some ad =>
    have hle : k * sz ≤ news.length := by rw [hl]; exact Nat.mul_le_mul_right _ hk
    have := run_firstCells_some (P := P) w sz k ad m c (news.take (k * sz)) (by rw [List.length_take]; omega) (fun j v hj => by
      rw [List.getElem?_take] at hj
      split at hj
      · exact hc ad rfl j v hj
      · simp at hj)
    exact this
theorem append_room_run {t e : TypeId} {ei : TI} (hu : P.underlying t = some (.slice e)) (he : TIok P e ei) {ty' : TypeId} {g n cap : Nat} {arr : Array Value} {e' : TypeId}
    (hg : w.heap[g]? = some (.cells arr e' (0, 0))) {A : Option Addr} {m c : Nat} {news : List Value} (hA : 0 < m → ∃ ad, A = some ad) (hl : news.length = m * ei.size)
    (hc : ∀ ad, A = some ad → ∀ k v, news[k]? = some v → w.cell? (ad.add k) = some v) (h1 : ∀ v ∈ news, v.oneCell' = true) (hroom : n + m ≤ cap) (hfit : n * ei.size + news.length ≤ arr.size) :
    (Builtin.append_ #[t, t] ty' #[.slice (some ⟨g, 0, none⟩) n cap, .slice A m c]).run P w =
      .ok (.slice (some ⟨g, 0, none⟩) (n + m) cap) (w.setRow g (arr.toList.take (n * ei.size) ++ news ++ arr.toList.drop (n * ei.size + news.length)).toArray) := by
  have hf := firstCells_run (P := P) (c := c) ei.size m hA hl (Nat.le_refl _) hc
  rw [← hl, List.take_length] at hf
  have hst := run_storeCells_at (P := P) g (n * ei.size) e' news 0 arr w hg (by simpa using hfit) h1
  simp only [Nat.add_zero] at hst
  obtain ⟨i, z, g1, g2, g3, g4, g5⟩ := he.info
  simp [Builtin.append_, run_underlying hu, sizeOf, typeInfo, g1, g2, Builtin.lenOf, hroom, hf, Addr.add_lit, hst]
theorem copy_run {t e : TypeId} {ei : TI} (hu : P.underlying t = some (.slice e)) (he : TIok P e ei) {ty' : TypeId} {g off n cap : Nat} {arr : Array Value} {e' : TypeId}
    (hg : w.heap[g]? = some (.cells arr e' (0, 0))) {A : Option Addr} {m c : Nat} {news : List Value} (hA : 0 < m → ∃ ad, A = some ad) (hl : news.length = m * ei.size)
    (hc : ∀ ad, A = some ad → ∀ k v, news[k]? = some v → w.cell? (ad.add k) = some v) (h1 : ∀ v ∈ news, v.oneCell' = true) (hfit : off + Nat.min m n * ei.size ≤ arr.size) :
    (Builtin.copy_ #[t, t] ty' #[.slice (some ⟨g, off, none⟩) n cap, .slice A m c]).run P w =
      .ok (goInt (Nat.min m n)) (w.setRow g (arr.toList.take off ++ news.take (Nat.min m n * ei.size) ++ arr.toList.drop (off + Nat.min m n * ei.size)).toArray) := by
  have hf := firstCells_run (P := P) (c := c) ei.size (Nat.min m n) hA hl (Nat.min_le_left _ _) hc
  have hlt : (news.take (Nat.min m n * ei.size)).length = Nat.min m n * ei.size := by
    rw [List.length_take, hl]
    exact Nat.min_eq_left (Nat.mul_le_mul_right _ (Nat.min_le_left _ _))
  have hst := run_storeCells_at (P := P) g off e' (news.take (Nat.min m n * ei.size)) 0 arr w hg (by rw [hlt]; simpa using hfit) (fun v hv => h1 v (List.mem_of_mem_take hv))
  simp only [Nat.add_zero, hlt] at hst
  simp only [Builtin.copy_, run_underlying hu, Builtin.lenOf, Sem.run_bind, Sem.run_pure, Result.andThen_ok, sizeOf_run he]
  simp only [List.getElem?_toArray, List.getElem?_cons_zero, List.getElem?_cons_succ]
  simp [run_underlying hu, sizeOf_run he, hf, hst]
end
end Go.BB
