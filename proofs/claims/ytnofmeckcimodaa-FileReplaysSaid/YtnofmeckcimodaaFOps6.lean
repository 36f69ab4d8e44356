/- A symbolic machine for the model's code, and what it shows of this seat's functions. No conditions. -/
import Derived.Test.YtnofmeckcimodaaFOps4
set_option linter.unusedSimpArgs false
set_option linter.unusedVariables false
namespace Go.BB
open Go
section
variable {O : ObjK} {cx : Cx} {σ : St O} {a : Act} {w : World} {pl : Nat → Pl} {cfg : Cfg O} {P : Program} {o : Oper} {wr : Wr O}

theorem i64_small {n : Int} (h0 : 0 ≤ n) (h1 : n ≤ 140737488355328) : IntKind.i64.wrap n = n := by
 have h2 : n % 18446744073709551616 = n := Int.emod_eq_of_lt h0 (by omega)
 simp [IntKind.wrap, IntKind.bits, IntKind.signed, h2]
 omega
theorem makeSlice_run {t e : TypeId} {ei : TI} {ty : Ty} (hu : P.underlying t = some (.slice e)) (he : TIok P e ei) (hty : ei.ty = some ty) (hz : 0 < ty.sz) {k k' : IntKind} {l c : Int}
  (h0 : 0 ≤ l) (h1 : l ≤ c) (h2 : c.toNat * ei.bytes ≤ LIM) (h3 : c.toNat ≤ LIM) :
  ∃ arr : Array Value, arr.size = c.toNat * ty.sz ∧ (∀ j q v, j < c.toNat → ei.zero[q]? = some v → arr[j * ty.sz + q]? = some v) ∧
   (Instr.makeSlice t (.int k l) (.int k' c)).run P w = .ok (.slice (some ⟨w.heap.size, 0, none⟩) l.toNat c.toNat) (w.alloc (.cells arr e)) := by
 obtain ⟨i, z, g1, g2, g3, g4, g5⟩ := he.info
 have hsz : ty.sz = ei.size := he.size ty hty
 have hzl : z.cells.size = ty.sz := by
  have := Rep_len _ _ _ (he.zero ty hty w (fun _ => True))
  rw [← g5] at this
  simpa using this
 simp only [LIM] at h2 h3
 have wl : IntKind.i64.wrap l = l := i64_small h0 (by omega)
 have wc : IntKind.i64.wrap c = c := i64_small (by omega) (by omega)
 have hb : ¬ (ei.bytes * c > (2 : Int) ^ 48) := by
  have : (ei.bytes : Int) * c = ((c.toNat * ei.bytes : Nat) : Int) := by
   rw [Int.natCast_mul, Int.toNat_of_nonneg (by omega), Int.mul_comm]
  rw [this]
  omega
 by_cases hc : c.toNat = 0
 ·refine ⟨#[], by simp [hc], fun j q v hj => by omega, ?_⟩
  have hl : l.toNat = 0 := by omega
  have hc0 : c = 0 := by omega
  have hl0 : l = 0 := by omega
  subst hc0 hl0
  simp [Instr.makeSlice, underlying, hu, typeInfo, g1, g3, asInt, asIntOf, wl, sizeOf_run he, newRow]
  congr 2
  exact Array.size_eq_zero_iff.1 (by simp)
 ·refine ⟨(Array.range (c.toNat * ty.sz)).map (z.cells[· % z.cells.size]!), by simp, fun j q v hj hq => ?_, ?_⟩
  ·have hq' : q < ty.sz := by
    have := (List.getElem?_eq_some_iff.1 hq).1
    rw [← g5] at this
    simpa [hzl] using this
   have hlt : j * ty.sz + q < c.toNat * ty.sz := by
    have : (j + 1) * ty.sz ≤ c.toNat * ty.sz := Nat.mul_le_mul_right _ hj
    rw [Nat.add_mul, Nat.one_mul] at this
    omega
   rw [Array.getElem?_map, Array.getElem?_eq_getElem (by simpa using hlt), Array.getElem_range, Option.map_some, hzl, Nat.mul_comm j, Nat.mul_add_mod, Nat.mod_eq_of_lt hq']
   rw [← g5] at hq
   have hq2 : z.cells[q]? = some v := by simpa using hq
   rw [Array.getElem!_eq_getD, Array.getD_eq_getD_getElem?, hq2]
   rfl
  ·have hn0 : ¬ c.toNat * ty.sz = 0 := by
    intro h
    rcases Nat.mul_eq_zero.1 h with h | h <;> omega
   have hc1 : ¬ (c < 0) := by omega
   have hl1 : ¬ (l < 0) := by omega
   have hlc : ¬ (l > c) := by omega
   have hgo : (z.cells.size = ty.sz) := hzl
   have hb' : ¬ (281474976710656 < (ei.bytes : Int) * c) := by
    have : ((2 : Int) ^ 48) = 281474976710656 := by decide
    omega
   simp [Instr.makeSlice, underlying, hu, typeInfo, g1, g3, asInt, asIntOf, wl, wc, hb', hc1, hl1, hlc, sizeOf, g2, zeroValue, g4, newRow, hn0, ← hsz]
theorem rep_zero {R : Nat → Prop} {e : TypeId} {ei : TI} {ty : Ty} (he : TIok P e ei) (hty : ei.ty = some ty) : Rep w R ty ty.zero ei.zero := he.zero ty hty w R
theorem good_makeSlice (hT : TTok P cfg.tt) (hR : Rel cx σ a w pl) (hd : ∀ d, o.dst = some d → d < cx.N) {nb : Nat} {t : TypeId} {l c : Operand}
  (ho : o.op = .makeSlice t l c) (h : (opMakeSlice cfg nb o.dst t l c : RM O).to σ wr) : Good P cx σ a w o wr := by
 obtain ⟨k, lv, h1, h2⟩ := evI_to h
 obtain ⟨k', cv, h3, h4⟩ := evI_to h2
 obtain ⟨e, ty, ei, hu, he, hty, hz, h5⟩ := elemTI_to hT h4
 obtain ⟨g1, g2, g3, g4, h6⟩ := h5
 obtain ⟨h7, h8, h9⟩ := fresh_to h6
 cases h9
 have hl := opd_sc hR h1
 have hc := opd_sc hR h3
 have g1 := of_decide_eq_true g1
 have g2 := of_decide_eq_true g2
 obtain ⟨arr, p1, p2, p3⟩ := makeSlice_run (P := P) (w := w) hu he hty hz (k := k) (k' := k') g1 g2 (of_decide_eq_true g3) (of_decide_eq_true g4)
 have hrl : (List.replicate lv.toNat ty.zero).length = lv.toNat := by simp
 have hM := mem_alloc hR h7 h8 (w' := w.alloc (.cells arr e)) (Ext.alloc _ _) (B := .row ty (List.replicate lv.toNat ty.zero)) (p := .at w.heap.size cv.toNat) (fun b hb => by cases hb; simp) trivial
  (fun hRO hRw hk => ⟨hz, by
   rw [plus_same]
   refine ⟨arr, e, heap_alloc_new w _, p1, by rw [hrl]; omega, ?_, fun j x hj => ?_⟩
   ·have := of_decide_eq_true g4
    simp only [LIM] at this
    simp only [maxLen]; omega
   ·rw [List.getElem?_replicate] at hj
    split at hj
    ·cases hj
     exact ⟨ei.zero, rep_zero he hty, fun q v hq => p2 j q v (by omega) hq⟩
    ·simp at hj⟩)
 refine good_value (v := .slice (some ⟨w.heap.size, 0, none⟩) lv.toNat cv.toNat) (w' := w.alloc (.cells arr e)) (pl' := plus pl nb (.at w.heap.size cv.toNat)) (by simp [execOp, ho, hl, hc, p3]) ?_
 refine rel_gen hR hM.1 hM.2 hd ⟨rfl, .row ty (List.replicate lv.toNat ty.zero), by rw [look_cons]; simp, fun t' n hn => ?_⟩
 rw [plus_same]
 obtain ⟨ys, q1 | q1, q2⟩ := hn <;> cases q1
 rw [hrl] at q2
 subst q2
 rfl

theorem sliceOf_to2 (hR : Rel cx σ a w pl) {t : Ty} {c : C} {k : List t.den → RM O} {wr : Wr O} (h : (sliceOf t c k).to σ wr) {u : Value} (hu : CR w (RO cx w σ.bk pl) σ.bk pl c u) :
  ∃ xs, (k xs).to σ wr ∧ RepL w (fun _ => True) (Rep w (RO cx w σ.bk pl) t) t.sz xs [u] := by
 have gen : ∀ (i lo n : Nat) (xs : List t.den), (look σ.bk i = some (.row t xs) ∨ look σ.bk i = some (.fro t xs)) → subV (pl i) t.sz lo n u → lo + n ≤ xs.length →
   RepL w (fun _ => True) (Rep w (RO cx w σ.bk pl) t) t.sz ((xs.drop lo).take n) [u] := by
  intro i lo n xs hl hv hn
  obtain ⟨hz, hrow⟩ := row_of hR hl
  have hlen : ((xs.drop lo).take n).length = n := by simp; omega
  cases hp : pl i with
  | nil =>
   rw [hp] at hv
   obtain ⟨rfl, rfl, rfl⟩ := hv
   exact ⟨none, 0, by simp, by simp, fun h => by simp at h⟩
  | obj v f => rw [hp] at hv; exact hv.elim
  | «at» b cap =>
   rw [hp] at hv hrow
   obtain ⟨ad, rfl, h1, h2, h3⟩ := hv
   obtain ⟨arr, e, g1, g2, g3, g4, g5⟩ := hrow
   refine ⟨some ad, cap - lo, by rw [hlen], by rw [hlen]; omega, fun hpos => ⟨ad, rfl, trivial, fun j x hj => ?_⟩⟩
   rw [hlen] at hpos
   have hjn : j < n := by
    have := (List.getElem?_eq_some_iff.1 hj).1
    rw [hlen] at this; exact this
   have hj' : xs[lo + j]? = some x := by
    rw [List.getElem?_take, if_pos hjn, List.getElem?_drop] at hj
    exact hj
   obtain ⟨cs, g6, g7⟩ := g5 (lo + j) x hj'
   have had : ad = ⟨b, lo * t.sz, none⟩ := h3 (by omega)
   refine ⟨cs, g6, fun q v hq => ?_⟩
   rw [had, add_at, cell_of_row w b _ arr e (0, 0) g1]
   have := g7 q v hq
   rw [← this]
   congr 1
   rw [Nat.add_mul]; omega
 unfold sliceOf at h
 unfold ofCells at h
 split at h
 ·rename_i t' xs heq
  cases heq
  cases hc : castL t ⟨t', xs⟩ with
  | none => rw [hc] at h; exact h.elim
  | some ys =>
   rw [hc] at h
   have := castL_some hc
   cases this
   obtain ⟨A, c', e1, e2, e3⟩ := hu
   refine ⟨_, h, A, c', e1, e2, fun hp => ?_⟩
   obtain ⟨ad, e4, _, e5⟩ := e3 hp
   exact ⟨ad, e4, trivial, e5⟩
 ·rename_i i heq
  cases heq
  simp only [RM.to] at h
  cases hc : rowAs t (look σ.bk i) with
  | none => rw [hc] at h; exact h.elim
  | some xs =>
   rw [hc] at h
   have hl := rowAs_some hc
   have ho := own_of hR hl hu
   have hrow := (row_of hR hl).2
   have hs : subV (pl i) t.sz 0 xs.length u := by
    cases hp : pl i with
    | nil => rw [hp] at ho; exact ⟨ho.1, rfl, ho.2⟩
    | obj v f => rw [hp] at ho; exact ho.elim
    | «at» b cap =>
     rw [hp] at ho hrow
     obtain ⟨arr, e, g1, g2, g3, g4, g5⟩ := hrow
     exact ⟨⟨b, 0, none⟩, ho, by omega, rfl, fun _ => by simp⟩
   have := gen i 0 xs.length xs hl hs (by omega)
   simp only [List.drop_zero, List.take_length] at this
   exact ⟨xs, h, this⟩
 ·rename_i i lo n heq
  cases heq
  simp only [RM.to] at h
  cases hc : rowAs t (look σ.bk i) with
  | none => rw [hc] at h; exact h.elim
  | some xs =>
   rw [hc] at h
   have hl := rowAs_some hc
   obtain ⟨hs, hn⟩ := sub_of hl hu
   exact ⟨_, h, gen i lo n xs hl hs hn⟩
 ·rename_i heq
  cases heq
  exact ⟨[], h, none, 0, by rw [show u = _ from hu]; rfl, Nat.le_refl _, fun h => by simp at h⟩
 ·exact h.elim
theorem flat_cells {R : Nat → Prop} {t : Ty} : ∀ (xs : List t.den) (ad : Addr), (∀ (j : Nat) (x : t.den), xs[j]? = some x → ∃ cs, Rep w R t x cs ∧ ∀ q v, cs[q]? = some v → w.cell? (ad.add (j * t.sz + q)) = some v) →
  ∃ news : List Value, news.length = xs.length * t.sz ∧ (∀ k v, news[k]? = some v → w.cell? (ad.add k) = some v) ∧ (∀ v ∈ news, v.oneCell' = true) ∧
   ∀ (j : Nat) (x : t.den), xs[j]? = some x → ∃ cs, Rep w R t x cs ∧ ∀ q v, cs[q]? = some v → news[j * t.sz + q]? = some v
 | [], ad, _ => ⟨[], by simp, by simp, by simp, by simp⟩
 | x :: xs, ad, h => by
  obtain ⟨c0, h1, h2⟩ := h 0 x rfl
  have l0 := Rep_len _ _ _ h1
  obtain ⟨news, h3, h4, h5, h6⟩ := flat_cells xs (ad.add t.sz) (fun j y hj => by
   obtain ⟨cs, g1, g2⟩ := h (j + 1) y (by simpa using hj)
   refine ⟨cs, g1, fun q v hq => ?_⟩
   rw [add_add]
   have := g2 q v hq
   rw [Nat.add_mul, Nat.one_mul] at this
   rw [show t.sz + (j * t.sz + q) = j * t.sz + t.sz + q by omega]
   exact this)
  refine ⟨c0 ++ news, by rw [List.length_append, l0, h3, List.length_cons, Nat.add_mul, Nat.one_mul, Nat.add_comm], fun k v hk => ?_, fun v hv => ?_, fun j y hj => ?_⟩
  ·by_cases hlt : k < c0.length
   ·rw [List.getElem?_append_left hlt] at hk
    have := h2 k v hk
    simpa using this
   ·rw [List.getElem?_append_right (by omega)] at hk
    have := h4 _ v hk
    rw [add_add, l0, show t.sz + (k - t.sz) = k by omega] at this
    exact this
  ·rcases List.mem_append.1 hv with hv | hv
   ·exact Rep_one _ _ _ h1 v hv
   ·exact h5 v hv
  ·cases j with
   | zero =>
    simp only [List.getElem?_cons_zero, Option.some.injEq] at hj
    subst hj
    refine ⟨c0, h1, fun q v hq => ?_⟩
    rw [Nat.zero_mul, Nat.zero_add, List.getElem?_append_left (List.getElem?_eq_some_iff.1 hq).1]
    exact hq
   | succ j =>
    obtain ⟨cs, g1, g2⟩ := h6 j y (by simpa using hj)
    refine ⟨cs, g1, fun q v hq => ?_⟩
    rw [List.getElem?_append_right (by rw [l0, Nat.add_mul]; omega), l0, Nat.add_mul, Nat.one_mul, show j * t.sz + t.sz + q - t.sz = j * t.sz + q by omega]
    exact g2 q v hq
theorem src_cells {R : Nat → Prop} {t : Ty} {ys : List t.den} {u : Value} (h : RepL w (fun _ => True) (Rep w R t) t.sz ys [u]) :
  ∃ (A : Option Addr) (c : Nat) (news : List Value), u = .slice A ys.length c ∧ ys.length ≤ c ∧ (0 < ys.length → ∃ ad, A = some ad) ∧ news.length = ys.length * t.sz ∧ (∀ v ∈ news, v.oneCell' = true) ∧
   (∀ ad, A = some ad → ∀ k v, news[k]? = some v → w.cell? (ad.add k) = some v) ∧
   ∀ (j : Nat) (x : t.den), ys[j]? = some x → ∃ cs, Rep w R t x cs ∧ ∀ q v, cs[q]? = some v → news[j * t.sz + q]? = some v := by
 obtain ⟨A, c, e1, e2, e3⟩ := h
 simp only [List.cons.injEq, and_true] at e1
 by_cases hp : 0 < ys.length
 ·obtain ⟨ad, rfl, _, e4⟩ := e3 hp
  obtain ⟨news, h1, h2, h3, h4⟩ := flat_cells ys ad e4
  exact ⟨some ad, c, news, e1, e2, fun _ => ⟨ad, rfl⟩, h1, h3, fun ad' he => by cases he; exact h2, h4⟩
 ·obtain rfl : ys = [] := List.eq_nil_of_length_eq_zero (by omega)
  exact ⟨A, c, [], e1, e2, fun h => by simp at h, by simp, by simp, by simp, by simp⟩
theorem firstCells_run {A : Option Addr} {m c : Nat} {news : List Value} (sz k : Nat) (hA : 0 < m → ∃ ad, A = some ad) (hl : news.length = m * sz) (hk : k ≤ m)
  (hc : ∀ ad, A = some ad → ∀ k v, news[k]? = some v → w.cell? (ad.add k) = some v) : (Builtin.firstCells sz k (.slice A m c)).run P w = .ok (news.take (k * sz)).toArray w := by
 cases A with
 | none =>
  have : m = 0 := by
   rcases Nat.eq_zero_or_pos m with h | h
   ·exact h
   ·obtain ⟨ad, h⟩ := hA h; cases h
  subst this
  have : news = [] := List.eq_nil_of_length_eq_zero (by simpa using hl)
  subst this
  simp [Builtin.firstCells]
 | some ad =>
  have hle : k * sz ≤ news.length := by rw [hl]; exact Nat.mul_le_mul_right _ hk
  have := run_firstCells_some (P := P) w sz k ad m c (news.take (k * sz)) (by rw [List.length_take]; omega) (fun j v hj => by
   rw [List.getElem?_take] at hj
   split at hj
   ·exact hc ad rfl j v hj
   ·simp at hj)
  exact this
theorem append_room_run {t e : TypeId} {ei : TI} (hu : P.underlying t = some (.slice e)) (he : TIok P e ei) {ty' : TypeId} {g n cap : Nat} {arr : Array Value} {e' : TypeId}
  (hg : w.heap[g]? = some (.cells arr e' (0, 0))) {A : Option Addr} {m c : Nat} {news : List Value} (hA : 0 < m → ∃ ad, A = some ad) (hl : news.length = m * ei.size)
  (hc : ∀ ad, A = some ad → ∀ k v, news[k]? = some v → w.cell? (ad.add k) = some v) (h1 : ∀ v ∈ news, v.oneCell' = true) (hroom : n + m ≤ cap) (hfit : n * ei.size + news.length ≤ arr.size) :
  (Builtin.append_ #[t, t] ty' #[.slice (some ⟨g, 0, none⟩) n cap, .slice A m c]).run P w =
   .ok (.slice (some ⟨g, 0, none⟩) (n + m) cap) (w.setRow g (arr.toList.take (n * ei.size) ++ news ++ arr.toList.drop (n * ei.size + news.length)).toArray) := by
 have hf := firstCells_run (P := P) (c := c) ei.size m hA hl (Nat.le_refl _) hc
 rw [← hl, List.take_length] at hf
 have hst := run_storeCells_at (P := P) g (n * ei.size) e' news 0 arr w hg (by simpa using hfit) h1
 simp only [Nat.add_zero] at hst
 obtain ⟨i, z, g1, g2, g3, g4, g5⟩ := he.info
 simp [Builtin.append_, run_underlying hu, sizeOf, typeInfo, g1, g2, Builtin.lenOf, hroom, hf, Addr.add_lit, hst]
theorem copy_run {t e : TypeId} {ei : TI} (hu : P.underlying t = some (.slice e)) (he : TIok P e ei) {ty' : TypeId} {g off n cap : Nat} {arr : Array Value} {e' : TypeId}
  (hg : w.heap[g]? = some (.cells arr e' (0, 0))) {A : Option Addr} {m c : Nat} {news : List Value} (hA : 0 < m → ∃ ad, A = some ad) (hl : news.length = m * ei.size)
  (hc : ∀ ad, A = some ad → ∀ k v, news[k]? = some v → w.cell? (ad.add k) = some v) (h1 : ∀ v ∈ news, v.oneCell' = true) (hfit : off + Nat.min m n * ei.size ≤ arr.size) :
  (Builtin.copy_ #[t, t] ty' #[.slice (some ⟨g, off, none⟩) n cap, .slice A m c]).run P w =
   .ok (goInt (Nat.min m n)) (w.setRow g (arr.toList.take off ++ news.take (Nat.min m n * ei.size) ++ arr.toList.drop (off + Nat.min m n * ei.size)).toArray) := by
 have hf := firstCells_run (P := P) (c := c) ei.size (Nat.min m n) hA hl (Nat.min_le_left _ _) hc
 have hlt : (news.take (Nat.min m n * ei.size)).length = Nat.min m n * ei.size := by
  rw [List.length_take, hl]
  exact Nat.min_eq_left (Nat.mul_le_mul_right _ (Nat.min_le_left _ _))
 have hst := run_storeCells_at (P := P) g off e' (news.take (Nat.min m n * ei.size)) 0 arr w hg (by rw [hlt]; simpa using hfit) (fun v hv => h1 v (List.mem_of_mem_take hv))
 simp only [Nat.add_zero, hlt] at hst
 simp only [Builtin.copy_, run_underlying hu, Builtin.lenOf, Sem.run_bind, Sem.run_pure, Result.andThen_ok, sizeOf_run he]
 simp only [List.getElem?_toArray, List.getElem?_cons_zero, List.getElem?_cons_succ]
 simp [run_underlying hu, sizeOf_run he, hf, hst]
end
end Go.BB
set_option linter.unusedSimpArgs false
set_option linter.unusedVariables false
namespace Go.BB
open Go
section
variable {O : ObjK} {cx : Cx} {σ : St O} {a : Act} {w : World} {pl : Nat → Pl} {cfg : Cfg O} {P : Program} {o : Oper} {wr : Wr O}

theorem mem_append (hR : Rel cx σ a w pl) {nb : Nat} (hn : look σ.bk nb = none) (h64 : 64 ≤ nb) {i : Nat} {t : Ty} {xs : List t.den} (hi : look σ.bk i = some (.row t xs)) (hi64 : 64 ≤ i)
  {w' : World} {p : Pl} {B : Blk O} (hlive : B.live) (hx : Ext (fun b => ¬ (pl i).fp b) w w') (hp : ∀ b, p.fp b → b < w'.heap.size ∧ (w.heap.size ≤ b ∨ (pl i).fp b))
  (hB : (∀ b, RO cx w σ.bk pl b → RO cx w' ((nb, B) :: (i, .dead) :: σ.bk) (plus pl nb p) b) → (∀ b, RO cx w σ.bk pl b → w'.heap[b]? = w.heap[b]?) →
   BR w' (RO cx w' ((nb, B) :: (i, .dead) :: σ.bk) (plus pl nb p)) ((nb, B) :: (i, .dead) :: σ.bk) (plus pl nb p) nb B) :
  (Mem cx w' ((nb, B) :: (i, .dead) :: σ.bk) (plus pl nb p) ∧ (∀ b, RO cx w σ.bk pl b → RO cx w' ((nb, B) :: (i, .dead) :: σ.bk) (plus pl nb p) b) ∧
   (∀ b, RO cx w σ.bk pl b → w'.heap[b]? = w.heap[b]?)) ∧ Keeps σ.bk ((nb, B) :: (i, .dead) :: σ.bk) pl (plus pl nb p) := by
 have hne : i ≠ nb := fun e => by rw [e, hn] at hi; cases hi
 have lk : ∀ j, look ((nb, B) :: (i, Blk.dead) :: σ.bk) j = if nb = j then some B else if i = j then some .dead else look σ.bk j := fun j => by rw [look_cons, look_cons]
 have hk : Keeps σ.bk ((nb, B) :: (i, .dead) :: σ.bk) pl (plus pl nb p) := by
  intro j Bj hj
  have hjn : j ≠ nb := fun e => by rw [e, hn] at hj; cases hj
  refine ⟨by rw [plus_other _ _ hjn]; exact Pl.same_refl _, ?_⟩
  rw [lk, if_neg (fun e => hjn e.symm)]
  by_cases e : i = j
  ·rw [if_pos e]
   exact ⟨_, rfl, (by rintro t n ⟨ys, h | h, _⟩ <;> cases h), (fun ⟨_, h⟩ => by cases h), (fun h => by cases h)⟩
  ·rw [if_neg e]
   exact ⟨Bj, hj, fun _ _ h => h, id, id⟩
 have hil : liveAt σ.bk i := ⟨_, hi, trivial⟩
 refine ⟨mem_gen hR.mem (fun j => j = nb ∨ j = i) (hx.mono fun _ _ h => h.elim) ?_ hk ?_ ?_ ?_ ?_ ?_ ?_, hk⟩
 ·intro b hb h
  exact hx.keep b hb (h i (.inr rfl) hil)
 ·intro j Bj hj hu
  have h1 : j ≠ nb := fun e => hu (.inl e)
  have h2 : j ≠ i := fun e => hu (.inr e)
  rw [lk, if_neg (fun e => h1 e.symm), if_neg (fun e => h2 e.symm)] at hj
  exact ⟨hj, plus_other _ _ h1⟩
 ·rintro j (rfl | rfl) hl b hb
  ·rw [plus_same] at hb
   obtain ⟨h1, h2⟩ := hp b hb
   refine ⟨h1, ?_⟩
   rcases h2 with h2 | h2
   ·exact .inl h2
   ·exact .inr ⟨i, .inr rfl, hil, h2⟩
  ·obtain ⟨Bj, h1, h2⟩ := hl
   rw [lk, if_neg (fun e => hne e.symm), if_pos rfl] at h1
   cases h1
   exact h2.elim
 ·have dead : ¬ liveAt ((nb, B) :: (i, Blk.dead) :: σ.bk) i := by
   rintro ⟨Bj, h1, h2⟩
   rw [lk, if_neg (fun e => hne e.symm), if_pos rfl] at h1
   cases h1
   exact h2.elim
  rintro j k (rfl | rfl) (rfl | rfl) hl hl' hjk
  ·exact absurd rfl hjk
  ·exact absurd hl' dead
  ·exact absurd hl dead
  ·exact absurd rfl hjk
 ·rintro hRO hRw j Bj (rfl | rfl) hj
  ·rw [lk, if_pos rfl] at hj
   cases hj
   exact hB hRO hRw
  ·rw [lk, if_neg (fun e => hne e.symm), if_pos rfl] at hj
   cases hj
   trivial
 ·rintro hRO j t' ys (rfl | rfl) hj
  ·rw [lk, if_pos rfl] at hj
   cases hj
   exact hlive.elim
  ·rw [lk, if_neg (fun e => hne e.symm), if_pos rfl] at hj
   cases hj
 ·rintro j (rfl | rfl) _
  ·exact h64
  ·exact hi64
theorem elems_append {R R' : Nat → Prop} {w' : World} {t : Ty} {xs ys : List t.den} {old new : Nat → Option Value} {L : Array Value} (hR : ∀ b, R b → R' b) (hw : ∀ b, R b → w'.heap[b]? = w.heap[b]?)
  (h1 : ∀ (j : Nat) (x : t.den), xs[j]? = some x → ∃ cs, Rep w R t x cs ∧ ∀ q v, cs[q]? = some v → old (j * t.sz + q) = some v)
  (h2 : ∀ (j : Nat) (x : t.den), ys[j]? = some x → ∃ cs, Rep w R t x cs ∧ ∀ q v, cs[q]? = some v → new (j * t.sz + q) = some v)
  (g1 : ∀ k v, k < xs.length * t.sz → old k = some v → L[k]? = some v) (g2 : ∀ k v, new k = some v → L[xs.length * t.sz + k]? = some v) :
  ∀ (j : Nat) (x : t.den), (xs ++ ys)[j]? = some x → ∃ cs, Rep w' R' t x cs ∧ ∀ q v, cs[q]? = some v → L[j * t.sz + q]? = some v := by
 intro j x hj
 by_cases hlt : j < xs.length
 ·rw [List.getElem?_append_left hlt] at hj
  obtain ⟨cs, h3, h4⟩ := h1 j x hj
  refine ⟨cs, Rep_mono hR hw _ _ _ h3, fun q v hq => g1 _ v ?_ (h4 q v hq)⟩
  have hq' : q < t.sz := by
   have := (List.getElem?_eq_some_iff.1 hq).1
   rw [Rep_len _ _ _ h3] at this
   exact this
  have : (j + 1) * t.sz ≤ xs.length * t.sz := Nat.mul_le_mul_right _ hlt
  rw [Nat.add_mul, Nat.one_mul] at this
  omega
 ·rw [List.getElem?_append_right (by omega)] at hj
  obtain ⟨cs, h3, h4⟩ := h2 _ x hj
  refine ⟨cs, Rep_mono hR hw _ _ _ h3, fun q v hq => ?_⟩
  have := g2 _ v (h4 q v hq)
  have e : j * t.sz = xs.length * t.sz + (j - xs.length) * t.sz := by rw [← Nat.add_mul]; congr 1; omega
  rw [e, Nat.add_assoc]
  exact this
theorem info_of {e : TypeId} {ei : TI} (he : TIok P e ei) : ∃ i z, P.info? e = some i ∧ i.size = ei.size ∧ i.bytes = ei.bytes ∧ i.zero = some z := by
 obtain ⟨i, z, h1, h2, h3, h4, _⟩ := he.info
 exact ⟨i, z, h1, h2, h3, h4⟩
theorem good_append (hT : TTok P cfg.tt) (hR : Rel cx σ a w pl) (hd : ∀ d, o.dst = some d → d < cx.N) {nb : Nat} {t : TypeId} {x y : Operand}
  (ho : o.op = .call { callee := .builtin .append, args := #[x, y], argTypes := #[t, t] }) (h : (opAppend cfg nb o.dst t x y : RM O).to σ wr) : Good P cx σ a w o wr := by
 obtain ⟨e, ty, ei, hu, he, hty, hz, h1⟩ := elemTI_to hT h
 obtain ⟨c1, h2, h3⟩ := evC_to h1
 obtain ⟨c2, h4, h5⟩ := evC_to h3
 clear h h1 h3
 have hx := opd_CR hR h2
 have hy := opd_CR hR h4
 obtain ⟨ys, h6, hys⟩ := sliceOf_to2 hR h5 hy
 clear h5
 obtain ⟨A, c, news, ey, _, hA, hnl, hn1, hnc, hne⟩ := src_cells hys
 obtain ⟨i0, z, q1, q2, q3, q4⟩ := info_of he
 have hsz : ty.sz = ei.size := he.size ty hty
 have exec : ∀ {v : Value} {w' : World}, (Builtin.append_ #[t, t] o.type #[a.eval x, .slice A ys.length c]).run P w = .ok v w' → (execOp a.eval o).run P w = .ok (.value v) w' := by
  intro v w' hr
  simp only [execOp, ho, resolve, invoke, builtin, Sem.run_bind, Sem.run_pure, Result.andThen_ok, List.map_toArray, List.map_cons, List.map_nil, ey, hr]
 have nilrun : ∀ (hx' : a.eval x = .slice none 0 0) (hb : ys.length * ei.bytes ≤ LIM) (hl : ys.length ≤ LIM),
   ∃ (p : Pl) (w' : World) (v : Value), (execOp a.eval o).run P w = .ok (.value v) w' ∧ Ext (fun _ => True) w w' ∧ (∀ b, p.fp b → w.heap.size ≤ b ∧ b < w'.heap.size) ∧ ownV p ys.length v ∧
    ∀ (R' : Nat → Prop), (∀ b, RO cx w σ.bk pl b → R' b) → (∀ b, RO cx w σ.bk pl b → w'.heap[b]? = w.heap[b]?) → RowAt w' R' p ty ys := by
  intro hx' hb hl
  simp only [LIM] at hb hl
  by_cases hpos : 0 < ys.length
  ·obtain ⟨ad, rfl⟩ := hA hpos
   have hr := run_append_nil (P := P) w t o.type e i0 z hu q1 q4 ad ys.length c news (by rw [q2, ← hsz]; exact hnl) (hnc ad rfl) hpos (by omega) (by rw [q3]; omega)
   have hcap := grownCap_ge w ys.length 0 e
   have hcapm := grownCap_le_maxLen w ys.length 0 e (by simp only [maxLen]; omega)
   refine ⟨.at w.heap.size (grownCap w ys.length 0 e), _, _, exec (by rw [hx']; exact hr), (Ext.drew w).trans (Ext.alloc _ _), fun b hb => by cases hb; simp, rfl, fun R' hRO hRw => ?_⟩
   have hzc : z.cells.size = ty.sz := by
    obtain ⟨i', z', g1, g2, g3, g4, g5⟩ := he.info
    rw [q1] at g1
    cases g1
    rw [q4] at g4
    cases g4
    have := Rep_len _ _ _ (he.zero ty hty w (fun _ => True))
    rw [← g5] at this
    simpa using this
   refine ⟨_, e, heap_alloc_new w.drew _, ?_, hcap, hcapm, ?_⟩
   ·simp only [Array.size_append, List.size_toArray, hnl, size_zeroCells, hzc, ← Nat.add_mul]
    congr 1; omega
   ·intro j x hj
    obtain ⟨cs, h7, h8⟩ := hne j x hj
    refine ⟨cs, Rep_mono hRO hRw _ _ _ h7, fun q v hq => ?_⟩
    have := h8 q v hq
    rw [Array.getElem?_append_left (by simpa using (List.getElem?_eq_some_iff.1 this).1)]
    simpa using this
  ·obtain rfl : ys = [] := List.eq_nil_of_length_eq_zero (by omega)
   obtain rfl : news = [] := List.eq_nil_of_length_eq_zero (by simpa using hnl)
   refine ⟨.nil, w, .slice none 0 0, exec ?_, Ext.refl _ _, fun b hb => hb.elim, ⟨rfl, rfl⟩, fun _ _ _ => rfl⟩
   have hf := firstCells_run (P := P) (c := c) ei.size 0 hA (by simp) (Nat.le_refl _) hnc
   rw [hx']
   simp only [List.length_nil]
   simp only [List.length_nil] at hf
   simp [Builtin.append_, run_underlying hu, sizeOf, typeInfo, q1, q2, Builtin.lenOf, hf]
 cases c1 with
 | own i =>
  simp only [RM.to] at h6
  cases hb : Nat.ble 64 i with
  | false => rw [hb] at h6; exact h6.elim
  | true =>
   rw [hb] at h6
   simp only at h6
   cases hr : rowW ty (look σ.bk i) with
   | none => rw [hr] at h6; exact h6.elim
   | some xs =>
    rw [hr] at h6
    obtain ⟨b1, b2, h7⟩ := h6
    obtain ⟨hn, h64, h8⟩ := fresh_to h7
    cases h8
    have hl := rowW_some hr
    have hi64 := Nat.le_of_ble_eq_true hb
    have hov := own_of hR (.inl hl) hx
    obtain ⟨_, hrow⟩ := row_of hR (.inl hl)
    have b1 := of_decide_eq_true b1
    have b2 := of_decide_eq_true b2
    have fin : ∀ {p : Pl} {w' : World} {v : Value}, (execOp a.eval o).run P w = .ok (.value v) w' → Ext (fun b => ¬ (pl i).fp b) w w' → (∀ b, p.fp b → b < w'.heap.size ∧ (w.heap.size ≤ b ∨ (pl i).fp b)) →
      v.oneCell' = true → ownV p (cat xs ys).length v → (∀ (R' : Nat → Prop), (∀ b, RO cx w σ.bk pl b → R' b) → (∀ b, RO cx w σ.bk pl b → w'.heap[b]? = w.heap[b]?) → RowAt w' R' p ty (cat xs ys)) →
      Good P cx σ a w o { sl := putS o.dst (.t (.one (.own nb))), bk := [(nb, .row ty (cat xs ys)), (i, .dead)] } := by
     intro p w' v hrun hext hp hone hv hrow'
     have hM := mem_append hR hn h64 hl hi64 (B := .row ty (cat xs ys)) trivial hext hp (fun hRO hRw => ⟨hz, by rw [plus_same]; exact hrow' _ hRO hRw⟩)
     refine good_value hrun (rel_gen hR hM.1 hM.2 hd ⟨hone, .row ty (cat xs ys), by rw [look_cons]; simp, fun t' n hn' => ?_⟩)
     rw [plus_same]
     obtain ⟨zs, q1 | q1, q2⟩ := hn' <;> cases q1
     subst q2
     exact hv
    cases hp : pl i with
    | nil =>
     rw [hp] at hov hrow
     have hxs : xs = [] := hrow
     subst hxs
     obtain ⟨p, w', v, r1, r2, r3, r4, r5⟩ := nilrun hov.1 (by simpa using b1) (by simpa using b2)
     refine fin r1 (r2.mono fun _ _ _ => trivial) (fun b hb => ⟨(r3 b hb).2, .inl (r3 b hb).1⟩) ?_ r4 r5
     cases p with
     | nil => rw [r4.1]; rfl
     | «at» b c => rw [show v = _ from r4]; rfl
     | obj _ _ => exact r4.elim
    | obj v f => rw [hp] at hov; exact hov.elim
    | «at» b cap =>
     rw [hp] at hov hrow
     obtain ⟨arr, e', g1, g2, g3, g4, g5⟩ := hrow
     simp only [LIM] at b1 b2
     have hxl : xs.length * ty.sz ≤ arr.size := by rw [g2]; exact Nat.mul_le_mul_right _ g3
     have hcat : (cat xs ys).length = xs.length + ys.length := by simp [cat]
     by_cases hroom : xs.length + ys.length ≤ cap
     ·have hfit : xs.length * ei.size + news.length ≤ arr.size := by
       rw [hnl, g2, ← hsz, ← Nat.add_mul]; exact Nat.mul_le_mul_right _ hroom
      have hr := append_room_run (P := P) hu he (ty' := o.type) g1 (cap := cap) (n := xs.length) (c := c) hA (by rw [← hsz]; exact hnl) hnc hn1 hroom hfit
      obtain ⟨L, hL⟩ : ∃ L : List Value, L = arr.toList.take (xs.length * ei.size) ++ news ++ arr.toList.drop (xs.length * ei.size + news.length) := ⟨_, rfl⟩
      rw [← hL] at hr
      refine fin (p := .at b cap) (w' := w.setRow b L.toArray) (v := .slice (some ⟨b, 0, none⟩) (xs.length + ys.length) cap) (exec (by rw [show a.eval x = _ from hov]; exact hr)) ?_ ?_ rfl (by rw [hcat]; rfl) ?_
      ·rw [hp]; exact setRow_Ext w b _
      ·intro x hx; cases hx
       rw [hp]
       have := (Array.getElem?_eq_some_iff.1 g1).1
       exact ⟨by simpa using this, .inr rfl⟩
      ·intro R' hRO hRw
       have hLn : L = arr.toList.take (xs.length * ei.size) ++ (news ++ arr.toList.drop (xs.length * ei.size + news.length)) := by rw [hL, List.append_assoc]
       refine ⟨_, e', setRow_heap w b arr _ e' (0, 0) g1, ?_, by rw [hcat]; exact hroom, g4, ?_⟩
       ·rw [List.size_toArray, hL, ← g2]
        simp only [List.length_append, List.length_take, List.length_drop, Array.length_toList]
        omega
       ·refine elems_append (old := fun k => arr[k]?) (new := fun k => news[k]?) hRO hRw g5 hne ?_ ?_
        ·intro k v hk hv
         rw [List.getElem?_toArray, hLn, splice_get (by simpa using hfit), if_pos (by rw [← hsz]; exact hk)]
         simpa using hv
        ·intro k v hv
         have hk := (List.getElem?_eq_some_iff.1 hv).1
         rw [List.getElem?_toArray, hLn, splice_get (by simpa using hfit), if_neg (by rw [hsz]; omega), if_pos (by rw [hsz]; omega), hsz, show xs.length * ei.size + k - xs.length * ei.size = k by omega]
         exact hv
     ·have hpos : 0 < ys.length := by omega
      obtain ⟨ad, rfl⟩ := hA hpos
      obtain ⟨olds, hol⟩ : ∃ olds : List Value, olds = arr.toList.take (xs.length * ty.sz) := ⟨_, rfl⟩
      have holl : olds.length = xs.length * ty.sz := by
       have hals : arr.toList.length = arr.size := by simp
       rw [hol, List.length_take, hals]; omega
      have hold : ∀ k, k < xs.length * ty.sz → olds[k]? = arr[k]? := fun k hk => by rw [hol, List.getElem?_take, if_pos hk]; simp
      have hr := run_append_grow (P := P) w t o.type e i0 z hu q1 q4 ⟨b, 0, none⟩ xs.length cap olds (by rw [q2, ← hsz]; exact holl)
       (fun j v hj => by
        rw [add_at, cell_of_row w b _ arr e' (0, 0) g1, Nat.zero_add, ← hold j (by rw [← holl]; exact (List.getElem?_eq_some_iff.1 hj).1)]
        exact hj)
       ad ys.length c news (by rw [q2, ← hsz]; exact hnl) (hnc ad rfl) (by omega) (by omega) (by rw [q3]; exact growslice_fits (by omega) b1)
      have hcap := grownCap_ge w (xs.length + ys.length) cap e
      have hcapm := grownCap_le_maxLen w (xs.length + ys.length) cap e (by simp only [maxLen]; omega)
      refine fin (p := .at w.heap.size (grownCap w (xs.length + ys.length) cap e)) (exec (by rw [show a.eval x = _ from hov]; exact hr)) ?_ ?_ rfl (by rw [hcat]; rfl) ?_
      ·exact ((Ext.drew w).trans (Ext.alloc _ _)).mono fun _ _ _ => trivial
      ·intro x hx; cases hx
       exact ⟨by simp, .inl (Nat.le_refl _)⟩
      ·intro R' hRO hRw
       have hzc : z.cells.size = ty.sz := by
        obtain ⟨i', z', p1, p2, p3, p4, p5⟩ := he.info
        rw [q1] at p1
        cases p1
        rw [q4] at p4
        cases p4
        have := Rep_len _ _ _ (he.zero ty hty w (fun _ => True))
        rw [← p5] at this
        simpa using this
       refine ⟨_, e, heap_alloc_new w.drew _, ?_, by rw [hcat]; exact hcap, hcapm, ?_⟩
       ·simp only [Array.size_append, List.size_toArray, hnl, holl, size_zeroCells, hzc, ← Nat.add_mul]
        congr 1; omega
       ·refine elems_append (old := fun k => arr[k]?) (new := fun k => news[k]?) hRO hRw g5 hne ?_ ?_
        ·intro k v hk hv
         rw [Array.append_assoc, Array.getElem?_append_left (by rw [List.size_toArray, holl]; exact hk)]
         simp only [List.getElem?_toArray]
         rw [hold k hk]
         exact hv
        ·intro k v hv
         have hk := (List.getElem?_eq_some_iff.1 hv).1
         rw [Array.append_assoc, Array.getElem?_append_right (by rw [List.size_toArray, holl]; omega), Array.getElem?_append_left (by rw [List.size_toArray, List.size_toArray, holl]; omega)]
         simp only [List.getElem?_toArray, List.size_toArray, holl, Nat.add_sub_cancel_left]
         exact hv
 | sc v =>
  have hx' : a.eval x = v := hx
  split at h6
  ·rename_i heq
   cases heq
  ·rename_i heq
   cases heq
   obtain ⟨b1, b2, h7⟩ := h6
   obtain ⟨hn, h64, h8⟩ := fresh_to h7
   cases h8
   obtain ⟨p, w', v, r1, r2, r3, r4, r5⟩ := nilrun hx' (of_decide_eq_true b1) (of_decide_eq_true b2)
   have hM := mem_alloc hR hn h64 r2 (B := .row ty ys) (p := p) r3 trivial (fun hRO hRw hk => ⟨hz, by rw [plus_same]; exact r5 _ hRO hRw⟩)
   refine good_value r1 (rel_gen hR hM.1 hM.2 hd ⟨?_, .row ty ys, by rw [look_cons]; simp, fun t' n hn' => ?_⟩)
   ·cases p with
    | nil => rw [r4.1]; rfl
    | «at» b c => rw [show v = _ from r4]; rfl
    | obj _ _ => exact r4.elim
   ·rw [plus_same]
    obtain ⟨zs, q1 | q1, q2⟩ := hn' <;> cases q1
    subst q2
    exact r4
  ·exact h6.elim
 | _ => exact h6.elim
end
end Go.BB
