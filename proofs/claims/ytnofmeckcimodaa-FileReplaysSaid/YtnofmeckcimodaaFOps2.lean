/- A symbolic machine for the model's code, and what it shows of this seat's functions. No conditions. -/
import Derived.Test.YtnofmeckcimodaaFOps
set_option linter.unusedVariables false
set_option linter.unusedSimpArgs false
namespace Go.BB
open Go
section
variable {O : ObjK} {cx : Cx} {σ : St O} {a : Act} {w : World} {pl : Nat → Pl} {cfg : Cfg O} {P : Program} {o : Oper} {wr : Wr O}

theorem ret1_to {dst : Option Tmp} {t : T} {wr : Wr O} (h : (ret1 dst t : RM O).to σ wr) : wr = { sl := putS dst (.t t) } := h.symm
theorem EntS_length {R : Nat → Prop} {kt t : Ty} : ∀ {m : List (kt.den × List t.den)} {es : List MapEntry} {ps : List Pl}, EntS w R kt t m es ps → es.length = m.length
 | [], [], [], _ => rfl
 | _ :: _, _ :: _, _ :: _, h => by simp [EntS_length h.2]
 | [], [], _ :: _, h => h.elim
 | [], _ :: _, _, h => h.elim
 | _ :: _, [], _, h => h.elim
 | _ :: _, _ :: _, [], h => h.elim
theorem good_len (hT : TTok P cfg.tt) (hR : Rel cx σ a w pl) (hd : ∀ d, o.dst = some d → d < cx.N) {t : TypeId} {x : Operand}
  (ho : o.op = .call { callee := .builtin .len, args := #[x], argTypes := #[t] }) (h : (opLen cfg o.dst t x : RM O).to σ wr) : Good P cx σ a w o wr := by
 obtain ⟨c, h1, h2⟩ := evC_to h
 have hc := opd_CR hR h1
 obtain ⟨ti, h3, h4⟩ := getTI_to h2
 have hti := hT t ti h3
 have str : (match ti.ty with
   | some .str => match c with | .sc (.string s) => retV o.dst (.int .i64 s.size) | _ => .fail
   | _ => (.fail : RM O)).to σ wr → Good P cx σ a w o wr := by
  intro h4
  cases hty : ti.ty with
  | none => rw [hty] at h4; exact h4.elim
  | some ty =>
   rw [hty] at h4
   cases ty with
   | str =>
    cases c with
    | sc v =>
     cases v with
     | string s =>
      cases h4
      have hx : a.eval x = .string s := hc
      have hu := hti.str hty
      refine good_put hR hd (v := .int .i64 s.size) ?_ rfl
      simp [execOp, ho, resolve, invoke, builtin, Builtin.len_, hx, underlying, hu, goInt]
     | _ => exact h4.elim
    | _ => exact h4.elim
   | _ => exact h4.elim
 cases hs : ti.sub with
 | slice e =>
  simp only [hs] at h4
  obtain ⟨n, A, c', h5, h6⟩ := lenOf_to hR h4 hc
  cases h5
  have hu := hti.slice e hs
  refine good_put hR hd (v := .int .i64 n) ?_ rfl
  simp [execOp, ho, resolve, invoke, builtin, Builtin.len_, h6, underlying, hu, goInt]
 | map tk te =>
  simp only [hs] at h4
  cases c with
  | obj i =>
   simp only [RM.to] at h4
   obtain ⟨_, B, hB, hB2⟩ := hc
   rw [hB] at h4
   cases B with
   | obj kk y =>
    simp only at h4
    cases hkk : MapK.isDeep kk with
    | true => rw [hkk] at h4; exact h4.elim
    | false =>
    rw [hkk] at h4
    cases h4
    have hu := hti.map tk te hs
    obtain ⟨v, f, q1, q2⟩ := hR.mem.blocks i _ hB
    obtain ⟨f', q3⟩ := hB2 rfl
    rw [q1] at q3
    cases q3
    obtain ⟨b, es, clock, e1, e2, e3⟩ : ∃ b es clock, a.eval x = .map (some b) ∧ w.heap[b]? = some (.map es clock) ∧ es.size = mlen kk y := by
     cases kk with
     | map kt vt =>
      obtain ⟨_, b, es, clock, h1, h2, _, _, h5⟩ := q2
      exact ⟨b, es, clock, h1, h2, by rw [← Array.length_toList, ← h5.length]; rfl⟩
     | mapS kt vt =>
      obtain ⟨_, _, b, es, clock, ps, h1, h2, _, _, h5, _⟩ := q2
      exact ⟨b, es, clock, h1, h2, by rw [← Array.length_toList, EntS_length h5]; rfl⟩
     | deep a b e c => cases hkk
    refine good_put hR hd (v := .int .i64 (mlen kk y)) ?_ rfl
    simp [execOp, ho, resolve, invoke, builtin, Builtin.len_, e1, underlying, hu, goInt, getObj, Sem.run, e2, e3, Result.andThen]
   | _ => exact h4.elim
  | _ => exact h4.elim
 | other => simp only [hs] at h4; exact str h4
 | ptr e => simp only [hs] at h4; exact str h4
 | struct fs => simp only [hs] at h4; exact str h4
 | arr n e => simp only [hs] at h4; exact str h4
theorem good_cap (hT : TTok P cfg.tt) (hR : Rel cx σ a w pl) (hd : ∀ d, o.dst = some d → d < cx.N) {t : TypeId} {x : Operand}
  (ho : o.op = .call { callee := .builtin .cap, args := #[x], argTypes := #[t] }) (h : (opCap cfg o.dst t x : RM O).to σ wr) : Good P cx σ a w o wr := by
 obtain ⟨c, h1, h2⟩ := evC_to h
 have hc := opd_CR hR h1
 obtain ⟨ti, h3, h4⟩ := getTI_to h2
 cases hs : ti.sub with
 | slice e =>
  simp only [hs] at h4
  split at h4
  ·cases h4
   have hu := (hT t ti h3).slice e hs
   have hx : a.eval x = .slice none 0 0 := hc
   refine good_put hR hd (v := .int .i64 0) ?_ rfl
   simp [execOp, ho, resolve, invoke, builtin, Builtin.cap_, hx, underlying, hu, goInt]
  ·exact h4.elim
 | _ => simp only [hs] at h4; exact h4.elim
theorem good_max (hR : Rel cx σ a w pl) (hd : ∀ d, o.dst = some d → d < cx.N) {ts : Array TypeId} {x y : Operand}
  (ho : o.op = .call { callee := .builtin .max, args := #[x, y], argTypes := ts }) (h : (opMax o.dst x y : RM O).to σ wr) : Good P cx σ a w o wr := by
 obtain ⟨u, h1, h2⟩ := evV_to h
 obtain ⟨v, h3, h4⟩ := evV_to h2
 have hx := opd_sc hR h1
 have hy := opd_sc hR h3
 cases u <;> (try exact h4.elim)
 rename_i k m
 cases v <;> (try exact h4.elim)
 rename_i k' n
 cases h4
 refine good_put hR hd (v := .int k (maxI m n)) ?_ rfl
 simp [execOp, ho, resolve, invoke, builtin, Builtin.max_, Builtin.max2, hx, hy, maxI]
theorem good_min (hR : Rel cx σ a w pl) (hd : ∀ d, o.dst = some d → d < cx.N) {ts : Array TypeId} {x y : Operand}
  (ho : o.op = .call { callee := .builtin .min, args := #[x, y], argTypes := ts }) (h : (opMin o.dst x y : RM O).to σ wr) : Good P cx σ a w o wr := by
 obtain ⟨u, h1, h2⟩ := evV_to h
 obtain ⟨v, h3, h4⟩ := evV_to h2
 have hx := opd_sc hR h1
 have hy := opd_sc hR h3
 cases u <;> (try exact h4.elim)
 rename_i k m
 cases v <;> (try exact h4.elim)
 rename_i k' n
 cases h4
 refine good_put hR hd (v := .int k (minI m n)) ?_ rfl
 simp [execOp, ho, resolve, invoke, builtin, Builtin.min_, Builtin.min2, hx, hy, minI]
theorem All2_getElem {α β : Type} {r : α → β → Prop} {xs : List α} {ys : Array β} (h : All2 r xs ys.toList) {i : Nat} {x : α} (hx : xs[i]? = some x) : ∃ y, ys[i]? = some y ∧ r x y := by
 obtain ⟨y, h1, h2⟩ := h.get i x hx
 exact ⟨y, by simpa using h1, h2⟩
theorem good_extract (hR : Rel cx σ a w pl) (hd : ∀ d, o.dst = some d → d < cx.N) {n : Nat} {x : Operand}
  (ho : o.op = .extract x n) (h : (opExtract o.dst x n : RM O).to σ wr) : Good P cx σ a w o wr := by
 obtain ⟨s, h1, h2⟩ := evS_to h
 have hx := opd_SR hR h1
 cases s with
 | t c => exact h2.elim
 | tup ts =>
  simp only at h2
  obtain ⟨arr, e, h3⟩ := hx
  cases hn : ts[n]? with
  | none => rw [hn] at h2; exact h2.elim
  | some t =>
   rw [hn] at h2
   cases h2
   obtain ⟨y, h4, h5⟩ := All2_getElem h3 hn
   refine good_put hR hd (v := y) ?_ h5
   simp [execOp, ho, e, Instr.extract, h4]
theorem ptr_of {i off : Nat} {u : Value} (hc : CR w (RO cx w σ.bk pl) σ.bk pl (.ptr i off) u) (hb : ∃ cs, look σ.bk i = some (.box cs)) : ∃ b c, pl i = .at b c ∧ u = .pointer (some ⟨b, off, none⟩) := by
 obtain ⟨_, B, hB, hB2⟩ := hc
 obtain ⟨cs, hb⟩ := hb
 rw [hb] at hB
 cases hB
 exact hB2 ⟨cs, rfl⟩
theorem rptr_of {i idx off : Nat} {u : Value} {s : (t : Ty) × List t.den} (hr : rowAny (look σ.bk i) = some s) (hc : CR w (RO cx w σ.bk pl) σ.bk pl (.rptr i idx off) u) :
  idx < s.2.length ∧ ∃ b c, pl i = .at b c ∧ u = .pointer (some ⟨b, idx * s.1.sz + off, none⟩) := by
 obtain ⟨_, B, hB, hB2⟩ := hc
 have hl := rowAny_some hr
 rcases hl with hl | hl <;> rw [hl] at hB <;> cases hB
 ·exact hB2 _ _ (isRow_row s.1 s.2)
 ·exact hB2 _ _ (isRow_fro s.1 s.2)
theorem good_nil (hR : Rel cx σ a w pl) (hd : ∀ d, o.dst = some d → d < cx.N) {x : Operand}
  (ho : o.op = .nilCheck x) (h : (opNil o.dst x : RM O).to σ wr) : Good P cx σ a w o wr := by
 obtain ⟨c, h1, h2⟩ := evC_to h
 have hc := opd_CR hR h1
 have key : ∀ ad, a.eval x = .pointer (some ad) → (ret1 o.dst (.one c) : RM O).to σ wr → Good P cx σ a w o wr := by
  intro ad he h3
  cases h3
  refine good_put hR hd (v := a.eval x) ?_ hc
  simp [execOp, ho, he]
 cases c with
 | ptr i off =>
  obtain ⟨b, c, h3, h4⟩ := ptr_of hc (by
   simp only [RM.to] at h2
   cases hl : look σ.bk i with
   | none => rw [hl] at h2; exact h2.elim
   | some B => cases B <;> rw [hl] at h2 <;> first | exact h2.elim | exact ⟨_, rfl⟩)
  refine key _ h4 ?_
  simp only [RM.to] at h2
  cases hl : look σ.bk i with
  | none => rw [hl] at h2; exact h2.elim
  | some B => cases B <;> rw [hl] at h2 <;> first | exact h2.elim | exact h2
 | rptr i idx off =>
  simp only [RM.to] at h2
  cases hr : rowAny (look σ.bk i) with
  | none => rw [hr] at h2; exact h2.elim
  | some s =>
   rw [hr] at h2
   obtain ⟨_, b, c, h3, h4⟩ := rptr_of hr hc
   exact key _ h4 h2
 | rop t x off => exact key _ hc.choose_spec.choose_spec.2.2.2 h2
 | _ => exact h2.elim

theorem T_ofList {agg : Bool} {cs : List C} {t : T} (h : T.ofList agg cs = some t) : (agg = true ∧ t = .ag cs) ∨ (agg = false ∧ ∃ c, cs = [c] ∧ t = .one c) := by
 unfold T.ofList at h
 split at h
 ·cases h; exact .inl ⟨rfl, rfl⟩
 ·split at h
  ·cases h; exact .inr ⟨rfl, _, rfl, rfl⟩
  ·simp at h
theorem part_to {agg : Bool} {off size : Nat} {cs : List C} {k : T → RM O} (h : (part agg off size cs k).to σ wr) :
  off + size ≤ cs.length ∧ ∃ t, T.ofList agg ((cs.drop off).take size) = some t ∧ (k t).to σ wr := by
 unfold part at h
 cases hb : Nat.ble (Nat.add off size) (clen cs) with
 | false => rw [hb] at h; exact h.elim
 | true =>
  rw [hb] at h
  simp only [forceM_eq, ctake_eq, cdrop_eq] at h
  have := Nat.le_of_ble_eq_true hb
  rw [clen_eq] at this
  refine ⟨this, ?_⟩
  cases ht : T.ofList agg ((cs.drop off).take size) with
  | none => rw [ht] at h; exact h.elim
  | some t => rw [ht] at h; exact ⟨t, rfl, h⟩
theorem isAgg_run {t : Nat} {ti : TI} (h : TIok P t ti) : (isAgg t).run P w = .ok ti.agg w := by
 obtain ⟨d, h1, h2⟩ := h.agg
 rw [h2]
 unfold isAgg
 simp only [underlying, Sem.run_bind, run_program, Result.andThen_ok, h1, Sem.run_pure]
 cases d <;> rfl
theorem sizeOf_run {t : Nat} {ti : TI} (h : TIok P t ti) : (sizeOf t).run P w = .ok ti.size w := by
 obtain ⟨i, z, h1, h2, _⟩ := h.info
 simp [sizeOf, typeInfo, h1, h2]
theorem loadVar_run {t : Nat} {ti : TI} (h : TIok P t ti) {ad : Addr} {vs : List Value} (hl : vs.length = ti.size) (hc : ∀ j v, vs[j]? = some v → w.cell? (ad.add j) = some v) {v : Value}
  (hv : (ti.agg = true ∧ v = .agg vs.toArray) ∨ (ti.agg = false ∧ vs = [v])) : (loadVar t ad).run P w = .ok v w := by
 unfold loadVar
 simp only [Sem.run_bind, isAgg_run h, Result.andThen_ok]
 rcases hv with ⟨h1, rfl⟩ | ⟨h1, rfl⟩
 ·simp only [h1, if_true, Sem.run_bind, sizeOf_run h, Result.andThen_ok, ← hl, run_loadCells_list w ad vs hc, Sem.run_pure]
 ·have := hc 0 v (by simp)
  simp only [Addr.add, if_true] at this
  simp [h1, this]
theorem SR_ofList {R : Nat → Prop} {agg : Bool} {cs : List C} {vs : List Value} {t : T} (h : T.ofList agg cs = some t) (ha : All2 (CR w R σ.bk pl) cs vs) :
  ∃ v, ((agg = true ∧ v = .agg vs.toArray) ∨ (agg = false ∧ vs = [v])) ∧ TR w R σ.bk pl t v := by
 rcases T_ofList h with ⟨h1, rfl⟩ | ⟨h1, c, rfl, rfl⟩
 ·exact ⟨_, .inl ⟨h1, rfl⟩, _, rfl, by simpa using ha⟩
 ·match vs, ha with
  | [v], ha => exact ⟨v, .inr ⟨h1, rfl⟩, ha.1⟩
theorem cellsOf_CR {R R' : Nat → Prop} {bk : List (Nat × Blk O)} (hR : ∀ b, R b → R' b) : ∀ (t : Ty) (x : t.den) (vs : List Value), Rep w R t x vs → All2 (CR w R' bk pl) (cellsOf t x) vs
 | .int k, n, vs, h => by cases h; exact ⟨rfl, trivial⟩
 | .bool, n, vs, h => by cases h; exact ⟨rfl, trivial⟩
 | .str, n, vs, h => by cases h; exact ⟨rfl, trivial⟩
 | .unit, n, vs, h => by cases h; trivial
 | .pair t u, x, vs, ⟨v1, v2, e, h1, h2⟩ => by
  subst e
  show All2 _ (capp _ _) _
  rw [capp_eq]
  exact (cellsOf_CR hR t _ _ h1).append (cellsOf_CR hR u _ _ h2)
 | .slice t, xs, vs, h => by
  have h' := h
  obtain ⟨A, c, e, _⟩ := h
  subst e
  exact ⟨Rep_mono hR (fun _ _ => rfl) (.slice t) xs _ h', trivial⟩
theorem good_load_at {t : TypeId} {ti : TI} {x : Operand} {cs : List C} {vs : List Value} {off : Nat} {ad : Addr} (hti : TIok P t ti) (hR : Rel cx σ a w pl) (hd : ∀ d, o.dst = some d → d < cx.N)
  (ho : o.op = .load t x) (h : (part ti.agg off ti.size cs (ret1 o.dst) : RM O).to σ wr)
  (hx : a.eval x = .pointer (some (ad.add off))) (hcs : All2 (CR w (RO cx w σ.bk pl) σ.bk pl) cs vs) (hc : ∀ j v, vs[j]? = some v → w.cell? (ad.add j) = some v) : Good P cx σ a w o wr := by
 obtain ⟨h1, t', h2, h3⟩ := part_to h
 cases h3
 have h4 := (hcs.drop off).take ti.size
 obtain ⟨v, h5, h6⟩ := SR_ofList h2 h4
 have hlen : ((vs.drop off).take ti.size).length = ti.size := by
  rw [List.length_take, List.length_drop, ← hcs.length]; omega
 have hrun := loadVar_run (w := w) hti (ad := ad.add off) hlen (fun j v hj => by
  rw [add_add]
  refine hc (off + j) v ?_
  rw [List.getElem?_take] at hj
  split at hj
  ·rw [List.getElem?_drop] at hj; exact hj
  ·simp at hj) h5
 refine good_put hR hd (v := v) ?_ h6
 simp [execOp, ho, hx, Instr.loadAt, Instr.sureAddr, hrun]
theorem good_load (hT : TTok P cfg.tt) (hR : Rel cx σ a w pl) (hd : ∀ d, o.dst = some d → d < cx.N) {t : TypeId} {x : Operand}
  (ho : o.op = .load t x) (h : (opLoad cfg o.dst t x : RM O).to σ wr) : Good P cx σ a w o wr := by
 obtain ⟨ti, h1, h2⟩ := getTI_to h
 obtain ⟨c, h3, h4⟩ := evC_to h2
 have hti := hT t ti h1
 have hc := opd_CR hR h3
 cases c with
 | ptr i off =>
  simp only [RM.to] at h4
  obtain ⟨_, B, hB, hB2⟩ := hc
  rw [hB] at h4
  cases B with
  | box cs =>
   obtain ⟨b, c, arr, e, h5, h6, h7⟩ := hR.mem.blocks i _ hB
   obtain ⟨b', c', h8, h9⟩ := hB2 ⟨cs, rfl⟩
   rw [h5] at h8
   cases h8
   refine good_load_at (ad := ⟨b, 0, none⟩) (off := off) hti hR hd ho h4 (by rw [h9, add_at]; simp) h7 fun j v hj => ?_
   rw [add_at, cell_of_row w b _ arr e (0, 0) h6]
   simpa using hj
  | _ => exact h4.elim
 | rptr i idx off =>
  simp only [RM.to] at h4
  cases hr : rowAny (look σ.bk i) with
  | none => rw [hr] at h4; exact h4.elim
  | some s =>
   rw [hr] at h4
   have hl := rowAny_some hr
   obtain ⟨hz, hrow⟩ := row_of hR hl
   obtain ⟨_, B, hB, hB2⟩ := hc
   have h5 : idx < s.2.length ∧ ∃ b c, pl i = .at b c ∧ a.eval x = .pointer (some ⟨b, idx * s.1.sz + off, none⟩) := by
    rcases hl with hl | hl <;> rw [hl] at hB <;> cases hB
    ·exact hB2 _ _ (isRow_row s.1 s.2)
    ·exact hB2 _ _ (isRow_fro s.1 s.2)
   obtain ⟨h6, b, c, h7, h8⟩ := h5
   rw [h7] at hrow
   obtain ⟨arr, e, g1, g2, g3, g4, g5⟩ := hrow
   have hj : s.2[idx]? = some (s.2.getD idx s.1.zero) := by rw [List.getD_eq_getElem?_getD, List.getElem?_eq_getElem h6]; rfl
   obtain ⟨cs, g6, g7⟩ := g5 idx _ hj
   refine good_load_at (ad := ⟨b, idx * s.1.sz, none⟩) (off := off) hti hR hd ho h4 (by rw [h8, add_at]) (cellsOf_CR (fun _ h => h) _ _ _ g6) fun j v hj => ?_
   rw [add_at, cell_of_row w b _ arr e (0, 0) g1]
   exact g7 j v hj
 | rop ty y off =>
  obtain ⟨ad, cs, g1, g2, g3, g4⟩ := hc
  exact good_load_at (ad := ad) (off := off) hti hR hd ho h4 g4 (cellsOf_CR (fun _ h => h) _ _ _ g1) g3
 | _ => exact h4.elim
theorem good_field (hT : TTok P cfg.tt) (hR : Rel cx σ a w pl) (hd : ∀ d, o.dst = some d → d < cx.N) {t : TypeId} {x : Operand} {f : Nat}
  (ho : o.op = .field t x f) (h : (opField cfg o.dst t x f : RM O).to σ wr) : Good P cx σ a w o wr := by
 obtain ⟨fields, fd, fi, h1, h2, h3, h4⟩ := fieldTI_to hT h
 obtain ⟨c, h5, h6⟩ := evT_to h4
 have hc := opd_TR hR h5
 cases c with
 | one c => exact h6.elim
 | ag cs =>
  obtain ⟨arr, he, hcs⟩ := hc
  obtain ⟨h7, t', h8, h9⟩ := part_to h6
  cases h9
  have h10 := (hcs.drop fd.offset).take fi.size
  obtain ⟨v, h11, h12⟩ := SR_ofList h8 h10
  refine good_put hR hd (v := v) ?_ h12
  have hlen : arr.toList.length = cs.length := hcs.length.symm
  simp only [Array.length_toList] at hlen
  simp only [execOp, ho, Instr.field, underlying, Sem.run_bind, run_program, Result.andThen_ok, h1, Sem.run_pure, h2, he, asAgg, Go.part, isAgg_run h3]
  rcases h11 with ⟨h13, rfl⟩ | ⟨h13, h14⟩
  ·simp only [h13, if_true, Sem.run_bind, sizeOf_run h3, Result.andThen_ok, Sem.run_pure]
   congr 3
   apply Array.ext'
   simp [Array.toList_extract, List.extract_eq_take_drop, Nat.add_sub_cancel_left]
  ·have : arr[fd.offset]? = some v := by
    have h15 : ((arr.toList.drop fd.offset).take fi.size)[0]? = some v := by rw [h14]; rfl
    rw [List.getElem?_take] at h15
    split at h15
    ·simpa using h15
    ·simp at h15
   simp [h13, this]
theorem good_fieldAddr (hT : TTok P cfg.tt) (hR : Rel cx σ a w pl) (hd : ∀ d, o.dst = some d → d < cx.N) {t : TypeId} {x : Operand} {f : Nat}
  (ho : o.op = .fieldAddr t x f) (h : (opFieldAddr cfg o.dst t x f : RM O).to σ wr) : Good P cx σ a w o wr := by
 obtain ⟨fields, fd, fi, h1, h2, h3, h4⟩ := fieldTI_to hT h
 cases hz : Nat.beq fi.size 0 with
 | true => rw [hz] at h4; exact h4.elim
 | false =>
  rw [hz] at h4
  simp only at h4
  have hz' : fi.size ≠ 0 := fun e => by rw [e] at hz; simp at hz
  obtain ⟨c, h5, h6⟩ := evC_to h4
  have hc := opd_CR hR h5
  have key : ∀ ad c', a.eval x = .pointer (some ad) → CR w (RO cx w σ.bk pl) σ.bk pl c' (.pointer (some (ad.add fd.offset))) → (ret1 o.dst (.one c') : RM O).to σ wr → Good P cx σ a w o wr := by
   intro ad c' he hc' h7
   cases h7
   refine good_put hR hd (v := .pointer (some (ad.add fd.offset))) ?_ hc'
   simp [execOp, ho, he, Instr.fieldAt, underlying, h1, h2, Instr.sureAddr, fieldPlace, sizeOf_run h3, hz']
  cases c with
  | ptr i off =>
   simp only [RM.to] at h6
   obtain ⟨_, B, hB, hB2⟩ := hc
   rw [hB] at h6
   cases B with
   | box cs =>
    obtain ⟨b, c, h8, h9⟩ := hB2 ⟨cs, rfl⟩
    refine key _ (.ptr i (Nat.add off fd.offset)) h9 ⟨rfl, _, hB, fun _ => ⟨b, c, h8, ?_⟩⟩ h6
    rw [add_at]; rfl
   | _ => exact h6.elim
  | rptr i idx off =>
   simp only [RM.to] at h6
   cases hr : rowAny (look σ.bk i) with
   | none => rw [hr] at h6; exact h6.elim
   | some s =>
    rw [hr] at h6
    obtain ⟨g1, b, c, h8, h9⟩ := rptr_of hr hc
    obtain ⟨_, B, hB, hB2⟩ := hc
    refine key _ (.rptr i idx (Nat.add off fd.offset)) h9 ⟨rfl, B, hB, fun t m hm => ?_⟩ h6
    obtain ⟨g2, b', c', g3, g4⟩ := hB2 t m hm
    rw [h8] at g3
    cases g3
    rw [h9] at g4
    refine ⟨g2, b, c, h8, ?_⟩
    rw [add_at]
    simp only [Value.pointer.injEq, Option.some.injEq, Addr.mk.injEq, true_and, and_true] at g4 ⊢
    show _ = _ + (off + fd.offset)
    omega
  | rop ty y off =>
   obtain ⟨ad, cs, g1, g2, g3, g4⟩ := hc
   refine key _ (.rop ty y (Nat.add off fd.offset)) g4 ⟨ad, cs, g1, g2, g3, ?_⟩ h6
   rw [add_add]; rfl
  | _ => exact h6.elim

theorem rop_of {R : Nat → Prop} {t : Ty} {xs : List t.den} {A : Option Addr} {c : Nat} {bk : List (Nat × Blk O)} (h : Rep w R (.slice t) xs [.slice A xs.length c]) (i : Nat) (hi : i < xs.length) :
  ∃ ad, A = some ad ∧ CR w R bk pl (.rop t (xs.getD i t.zero) 0) (.pointer (some (ad.add (i * t.sz)))) := by
 obtain ⟨A', c', e, h1, h2⟩ := h
 simp only [List.cons.injEq, Value.slice.injEq, true_and, and_true] at e
 obtain ⟨rfl, rfl⟩ := e
 obtain ⟨ad, h3, h4, h5⟩ := h2 (Nat.lt_of_le_of_lt (Nat.zero_le _) hi)
 have hj : xs[i]? = some (xs.getD i t.zero) := by rw [List.getD_eq_getElem?_getD, List.getElem?_eq_getElem hi]; rfl
 obtain ⟨cs, h6, h7⟩ := h5 i _ hj
 refine ⟨ad, h3, ad.add (i * t.sz), cs, h6, by rw [add_block]; exact h4, fun q v hq => by rw [add_add]; exact h7 q v hq, ?_⟩
 simp [Addr.add]
theorem indexAt_run {t e : TypeId} {ei : TI} (hu : P.underlying t = some (.slice e)) (he : TIok P e ei) {k : IntKind} {i : Int} {ad : Addr} {n c : Nat} (h0 : 0 ≤ i) (h1 : i < n) :
  (Instr.indexAt t (.slice (some ad) n c) (.int k i)).run P w = .ok (.pointer (some (ad.add (i.toNat * ei.size)))) w := by
 simp [Instr.indexAt, asIntOf, underlying, hu, sizeOf_run he, h0, h1]
theorem offBy_some (lo l : Nat) : offBy lo (some l) = lo + l := by cases lo <;> simp [offBy]
theorem isRow_at {t t' : Ty} {xs : List t.den} {m : Nat} {b : Option (Blk O)} {B : Blk O} (h : b = some (.row t xs) ∨ b = some (.fro t xs)) (hB : b = some B) (hm : isRow B t' m) : t' = t ∧ m = xs.length := by
 obtain ⟨ys, h1, h2⟩ := hm
 rcases h with h | h <;> rw [h] at hB <;> cases hB <;> rcases h1 with h1 | h1 <;> cases h1 <;> exact ⟨rfl, h2.symm⟩
theorem good_indexAddr (hT : TTok P cfg.tt) (hR : Rel cx σ a w pl) (hd : ∀ d, o.dst = some d → d < cx.N) {t : TypeId} {x ix : Operand}
  (ho : o.op = .indexAddr t x ix) (h : (opIndexAddr cfg o.dst t x ix : RM O).to σ wr) : Good P cx σ a w o wr := by
 obtain ⟨e, ety, ei, hu, he, hty, hz, h1⟩ := elemTI_to hT h
 obtain ⟨c, h2, h3⟩ := evC_to h1
 obtain ⟨k, i, h4, h5⟩ := evI_to h3
 have hc := opd_CR hR h2
 have hi := opd_sc hR h4
 have hsz : ety.sz = ei.size := he.size ety hty
 have fin : ∀ (ad : Addr) (n c' : Nat) (cc : C), a.eval x = .slice (some ad) n c' → 0 ≤ i → i < n → CR w (RO cx w σ.bk pl) σ.bk pl cc (.pointer (some (ad.add (i.toNat * ety.sz)))) →
   (ret1 o.dst (.one cc) : RM O).to σ wr → Good P cx σ a w o wr := by
  intro ad n c' cc hx h0 hlt hcc h6
  rw [ret1_to h6]
  refine good_put hR hd (v := .pointer (some (ad.add (i.toNat * ety.sz)))) ?_ hcc
  simp [execOp, ho, hx, hi, indexAt_run hu he h0 hlt, hsz]
 cases c with
 | ro ty xs =>
  simp only at h5
  cases hdq : decEq ty ety with
  | isFalse hne => rw [hdq] at h5; exact h5.elim
  | isTrue heq =>
   rw [hdq] at h5
   subst heq
   obtain ⟨h6, h7, h8⟩ := h5
   have h0 : 0 ≤ i := of_decide_eq_true h6
   have h1' : i < (xs.length : Int) := of_decide_eq_true h7
   have hrep : Rep w (RO cx w σ.bk pl) (.slice ty) xs [a.eval x] := hc
   obtain ⟨A, c', e1, _⟩ := hc
   simp only [List.cons.injEq, and_true] at e1
   rw [e1] at hrep
   obtain ⟨ad, e2, hcr⟩ := rop_of (bk := σ.bk) (pl := pl) hrep i.toNat (by omega)
   subst e2
   exact fin ad _ _ _ e1 h0 h1' hcr h8
 | own b =>
  simp only [RM.to] at h5
  cases hr : rowAs ety (look σ.bk b) with
  | none => rw [hr] at h5; exact h5.elim
  | some xs =>
   rw [hr] at h5
   obtain ⟨h6, h7, h8⟩ := h5
   have h0 : 0 ≤ i := of_decide_eq_true h6
   have h1' : i < (xs.length : Int) := of_decide_eq_true h7
   have hl := rowAs_some hr
   have hov := own_of hR hl hc
   cases hp : pl b with
   | nil => rw [hp] at hov; have := hov.2; omega
   | obj v f => rw [hp] at hov; exact hov.elim
   | «at» bb cap =>
    rw [hp] at hov
    refine fin ⟨bb, 0, none⟩ _ _ _ hov h0 h1' ?_ h8
    obtain ⟨_, B, hB, _⟩ := hc
    refine ⟨rfl, B, hB, fun t' m hm => ?_⟩
    obtain ⟨rfl, rfl⟩ := isRow_at hl hB hm
    exact ⟨by omega, bb, cap, hp, by rw [add_at]; simp⟩
 | sub b lo n =>
  simp only [RM.to] at h5
  cases hr : rowAs ety (look σ.bk b) with
  | none => rw [hr] at h5; exact h5.elim
  | some xs =>
   rw [hr] at h5
   obtain ⟨h6, h7, h8⟩ := h5
   have h0 : 0 ≤ i := of_decide_eq_true h6
   have h1' : i < (n : Int) := of_decide_eq_true h7
   have hl := rowAs_some hr
   obtain ⟨hov, hln⟩ := sub_of hl hc
   rw [offBy_some] at h8
   cases hp : pl b with
   | nil => rw [hp] at hov; have := hov.2.2; omega
   | obj v f => rw [hp] at hov; exact hov.elim
   | «at» bb cap =>
    rw [hp] at hov
    obtain ⟨ad, g1, g2, g3, g4⟩ := hov
    have g5 := g4 (by omega)
    subst g5
    refine fin _ _ _ _ g1 h0 h1' ?_ h8
    obtain ⟨_, B, hB, _⟩ := hc
    refine ⟨rfl, B, hB, fun t' m hm => ?_⟩
    obtain ⟨rfl, rfl⟩ := isRow_at hl hB hm
    exact ⟨by omega, bb, cap, hp, by rw [add_at, Nat.add_mul]; simp⟩
 | _ => exact h5.elim

theorem bound_to {b : Option Operand} {k : Option Int → RM O} (hR : Rel cx σ a w pl) (h : (bound b k).to σ wr) :
  (b = none ∧ (k none).to σ wr) ∨ ∃ x kd i, b = some x ∧ a.eval x = .int kd i ∧ (k (some i)).to σ wr := by
 cases b with
 | none => exact .inl ⟨rfl, h⟩
 | some x =>
  obtain ⟨kd, i, h1, h2⟩ := evI_to h
  exact .inr ⟨x, kd, i, rfl, opd_sc hR h1, h2⟩
theorem cutLH_to {lo hi : Option Int} {n m : Nat} {k : Option Nat → Nat → RM O} (hnm : n ≤ m) (h : (cutLH lo hi n m k).to σ wr) :
  ∃ l len, (k l len).to σ wr ∧ (l.getD 0) + len ≤ m ∧ (lo = none → l = none) ∧ (∀ i, lo = some i → 0 ≤ i ∧ l = some i.toNat) ∧
   (∀ i, hi = some i → 0 ≤ i ∧ (i.toNat : Int) = i ∧ i.toNat = l.getD 0 + len ∧ i.toNat ≤ m) ∧ (hi = none → l.getD 0 + len = n) := by
 cases lo with
 | none =>
  cases hi with
  | none => exact ⟨none, n, h, by simpa using hnm, fun _ => rfl, fun _ h => by simp at h, fun _ h => by simp at h, fun _ => by simp⟩
  | some i =>
   obtain ⟨h1, h2, h3⟩ := h
   have h1 := of_decide_eq_true h1
   have h2 := of_decide_eq_true h2
   refine ⟨none, _, h3, by simp; omega, fun _ => rfl, fun _ h => by simp at h, fun j hj => ?_, fun h => by simp at h⟩
   cases hj
   simp; omega
 | some l =>
  cases hi with
  | none =>
   obtain ⟨h1, h2, h3⟩ := h
   have h1 := of_decide_eq_true h1
   have h2 := of_decide_eq_true h2
   refine ⟨some l.toNat, _, h3, by simp; omega, fun h => by simp at h, fun j hj => ?_, fun _ h => by simp at h, fun _ => by simp; omega⟩
   cases hj
   exact ⟨h1, rfl⟩
  | some i =>
   obtain ⟨h1, h2, h3, h4⟩ := h
   have h1 := of_decide_eq_true h1
   have h2 := of_decide_eq_true h2
   have h3 := of_decide_eq_true h3
   refine ⟨some l.toNat, _, h4, by simp; omega, fun h => by simp at h, fun j hj => ?_, fun j hj => ?_, fun h => by simp at h⟩
   ·cases hj
    exact ⟨h1, rfl⟩
   ·cases hj
    simp; omega
theorem slice_run {t e : TypeId} {ei : TI} (hu : P.underlying t = some (.slice e)) (he : TIok P e ei) {A : Option Addr} {n c : Nat} {lo hi : Option Value} {l : Option Nat} {len : Nat}
  (hlo : (lo = none ∧ l = none) ∨ ∃ k i, lo = some (.int k i) ∧ 0 ≤ i ∧ l = some i.toNat)
  (hhi : (hi = none ∧ l.getD 0 + len = n) ∨ ∃ k i, hi = some (.int k i) ∧ 0 ≤ i ∧ i.toNat = l.getD 0 + len) (hc : l.getD 0 + len ≤ c) :
  (Instr.sliceAt t (.slice A n c) lo hi none).run P w = .ok (.slice (if c = l.getD 0 then A else A.map (·.add (l.getD 0 * ei.size))) len (c - l.getD 0)) w := by
 have hb : (Instr.sliceBounds true n c lo hi none).run P w = .ok (l.getD 0, l.getD 0 + len, c) w := by
  unfold Instr.sliceBounds
  rcases hlo with ⟨rfl, rfl⟩ | ⟨k, i, rfl, hi0, rfl⟩ <;> rcases hhi with ⟨rfl, h1⟩ | ⟨k', i', rfl, h1, h2⟩
  ·simp at h1 ⊢; omega
  ·simp only [Option.getD_none, Nat.zero_add] at h2 hc ⊢
   have : i' ≤ (c : Int) := by omega
   simp [Instr.sliceBound, asIntOf, h1, this, h2]
  ·simp only [Option.getD_some] at h1 hc ⊢
   have : i ≤ (n : Int) := by omega
   simp [Instr.sliceBound, asIntOf, hi0, this, h1]
  ·simp only [Option.getD_some] at h2 hc ⊢
   have h3 : i' ≤ (c : Int) := by omega
   have h4 : i ≤ (i'.toNat : Int) := by omega
   simp only [Sem.run_bind, Sem.run_pure, Result.andThen_ok, Instr.sliceBound, asIntOf]
   simp [h1, h3, hi0, h2]
   omega
 unfold Instr.sliceAt
 simp only [underlying, Sem.run_bind, run_program, Result.andThen_ok, hu, Sem.run_pure]
 unfold Instr.slice
 simp only [underlying, Sem.run_bind, run_program, Result.andThen_ok, hu, Sem.run_pure, hb, sizeOf_run he]
 congr 2
 omega
theorem offBy_eq (lo : Nat) (l : Option Nat) : offBy lo l = lo + l.getD 0 := by
 cases l with
 | none => rfl
 | some l => rw [offBy_some]; rfl
theorem good_slice (hT : TTok P cfg.tt) (hR : Rel cx σ a w pl) (hd : ∀ d, o.dst = some d → d < cx.N) {t : TypeId} {x : Operand} {lo hi : Option Operand}
  (ho : o.op = .slice t x lo hi none) (h : (opSlice cfg o.dst t x lo hi : RM O).to σ wr) : Good P cx σ a w o wr := by
 obtain ⟨e, ety, ei, hu, he, hty, hz, h1⟩ := elemTI_to hT h
 clear h
 obtain ⟨c, h2, h3⟩ := evC_to h1
 clear h1
 have hc := opd_CR hR h2
 have hsz : ety.sz = ei.size := he.size ety hty
 obtain ⟨lo', hlo, h4⟩ : ∃ lo' : Option Int, ((lo = none ∧ lo' = none) ∨ ∃ y kd i, lo = some y ∧ a.eval y = .int kd i ∧ lo' = some i) ∧
   (bound hi fun hi => match c with
    | .ro ty xs => match decEq ty ety with
     | .isTrue _ => cutLH lo' hi xs.length xs.length fun l n => ret1 o.dst (.one (.ro ty (cutL xs l n)))
     | .isFalse _ => .fail
    | .own b => .rblk b fun bl => match rowAs ety bl with
     | some xs => cutLH lo' hi xs.length xs.length fun l n => ret1 o.dst (.one (.sub b (offBy 0 l) n))
     | none => .fail
    | .sub b lo'' n => .rblk b fun bl => match rowAs ety bl with
     | some xs => cutLH lo' hi n (xs.length - lo'') fun l n => ret1 o.dst (.one (.sub b (offBy lo'' l) n))
     | none => .fail
    | .sc (.slice none 0 0) => cutLH lo' hi 0 0 fun _ _ => ret1 o.dst (.one (.sc (.slice none 0 0)))
    | _ => (.fail : RM O)).to σ wr := by
  rcases bound_to hR h3 with ⟨h4, h5⟩ | ⟨y, kd, i, h4, h5, h6⟩
  ·exact ⟨none, .inl ⟨h4, rfl⟩, h5⟩
  ·exact ⟨some i, .inr ⟨y, kd, i, h4, h5, rfl⟩, h6⟩
 clear h3
 obtain ⟨hi', hhi, h5⟩ : ∃ hi' : Option Int, ((hi = none ∧ hi' = none) ∨ ∃ y kd i, hi = some y ∧ a.eval y = .int kd i ∧ hi' = some i) ∧
   (match c with
    | .ro ty xs => match decEq ty ety with
     | .isTrue _ => cutLH lo' hi' xs.length xs.length fun l n => ret1 o.dst (.one (.ro ty (cutL xs l n)))
     | .isFalse _ => .fail
    | .own b => .rblk b fun bl => match rowAs ety bl with
     | some xs => cutLH lo' hi' xs.length xs.length fun l n => ret1 o.dst (.one (.sub b (offBy 0 l) n))
     | none => .fail
    | .sub b lo'' n => .rblk b fun bl => match rowAs ety bl with
     | some xs => cutLH lo' hi' n (xs.length - lo'') fun l n => ret1 o.dst (.one (.sub b (offBy lo'' l) n))
     | none => .fail
    | .sc (.slice none 0 0) => cutLH lo' hi' 0 0 fun _ _ => ret1 o.dst (.one (.sc (.slice none 0 0)))
    | _ => (.fail : RM O)).to σ wr := by
  rcases bound_to hR h4 with ⟨h4, h5⟩ | ⟨y, kd, i, h4, h5, h6⟩
  ·exact ⟨none, .inl ⟨h4, rfl⟩, h5⟩
  ·exact ⟨some i, .inr ⟨y, kd, i, h4, h5, rfl⟩, h6⟩
 clear h4
 have cut : ∀ {A : Option Addr} {n c' : Nat} {m : Nat} {l : Option Nat} {len : Nat} {cc : C}, a.eval x = .slice A n c' → m ≤ c' → l.getD 0 + len ≤ m → (lo' = none → l = none) → (∀ i, lo' = some i → 0 ≤ i ∧ l = some i.toNat) →
   (∀ i, hi' = some i → 0 ≤ i ∧ (i.toNat : Int) = i ∧ i.toNat = l.getD 0 + len ∧ i.toNat ≤ m) → (hi' = none → l.getD 0 + len = n) →
   CR w (RO cx w σ.bk pl) σ.bk pl cc (.slice (if c' = l.getD 0 then A else A.map (·.add (l.getD 0 * ety.sz))) len (c' - l.getD 0)) →
   (ret1 o.dst (.one cc) : RM O).to σ wr → Good P cx σ a w o wr := by
  intro A n c' m l len cc hx hm hlm q1 q2 q3 q4 hcc h6
  rw [ret1_to h6]
  refine good_put hR hd (v := .slice (if c' = l.getD 0 then A else A.map (·.add (l.getD 0 * ety.sz))) len (c' - l.getD 0)) ?_ hcc
  have hrun := slice_run (P := P) (w := w) (A := A) (n := n) (c := c') (lo := lo.map a.eval) (hi := hi.map a.eval) (l := l) (len := len) hu he ?_ ?_ (by omega)
  ·simp only [execOp, ho, hx, Option.map_none, hrun, Sem.run_bind, Result.andThen_ok, Sem.run_pure, hsz]
  ·rcases hlo with ⟨rfl, rfl⟩ | ⟨y, kd, i, rfl, g1, rfl⟩
   ·exact .inl ⟨rfl, q1 rfl⟩
   ·exact .inr ⟨kd, i, by simp [g1], (q2 i rfl).1, (q2 i rfl).2⟩
  ·rcases hhi with ⟨rfl, rfl⟩ | ⟨y, kd, i, rfl, g1, rfl⟩
   ·exact .inl ⟨rfl, q4 rfl⟩
   ·exact .inr ⟨kd, i, by simp [g1], (q3 i rfl).1, (q3 i rfl).2.2.1⟩
 cases c with
 | ro ty xs =>
  simp only at h5
  cases hdq : decEq ty ety with
  | isFalse hne => rw [hdq] at h5; exact h5.elim
  | isTrue heq =>
   rw [hdq] at h5
   subst heq
   obtain ⟨l, len, h6, p1, p2, p3, p4, p5⟩ := cutLH_to (Nat.le_refl _) h5
   obtain ⟨A, c', e1, e2, e3⟩ := hc
   simp only [List.cons.injEq, and_true] at e1
   have hlist : cutL xs l len = (xs.drop (l.getD 0)).take len := by cases l <;> simp [cutL]
   rw [hlist] at h6
   refine cut e1 e2 p1 p2 p3 p4 p5 ?_ h6
   have hlen : ((xs.drop (l.getD 0)).take len).length = len := by simp; omega
   refine ⟨_, _, by rw [hlen], by rw [hlen]; omega, fun hpos => ?_⟩
   rw [hlen] at hpos
   obtain ⟨ad, g1, g2, g3⟩ := e3 (by omega)
   rw [if_neg (by omega), g1]
   refine ⟨ad.add (l.getD 0 * ty.sz), rfl, by rw [add_block]; exact g2, fun j y hj => ?_⟩
   have hj' : xs[l.getD 0 + j]? = some y := by
    rw [List.getElem?_take] at hj
    split at hj
    ·rw [List.getElem?_drop] at hj; exact hj
    ·simp at hj
   obtain ⟨cs, g4, g5⟩ := g3 _ y hj'
   refine ⟨cs, g4, fun q v hq => ?_⟩
   rw [add_add, ← g5 q v hq, Nat.add_mul]
   congr 2
   omega
 | own b =>
  simp only [RM.to] at h5
  cases hr : rowAs ety (look σ.bk b) with
  | none => rw [hr] at h5; exact h5.elim
  | some xs =>
   rw [hr] at h5
   obtain ⟨l, len, h6, p1, p2, p3, p4, p5⟩ := cutLH_to (Nat.le_refl _) h5
   have hl := rowAs_some hr
   have hov := own_of hR hl hc
   have hrow := (row_of hR hl).2
   rw [offBy_eq, Nat.zero_add] at h6
   obtain ⟨_, B, hB, _⟩ := hc
   cases hp : pl b with
   | nil =>
    rw [hp] at hov
    refine cut (cc := .sub b (l.getD 0) len) hov.1 (Nat.le_of_eq hov.2) p1 p2 p3 p4 (fun h => by rw [p5 h]; exact hov.2) ⟨rfl, B, hB, fun t' m hm => ?_⟩ h6
    obtain ⟨rfl, rfl⟩ := isRow_at hl hB hm
    rw [hp]
    have := hov.2
    refine ⟨⟨?_, by omega, by omega⟩, p1⟩
    have : l.getD 0 = 0 := by omega
    have : len = 0 := by omega
    subst this
    simp
   | obj v f => rw [hp] at hov; exact hov.elim
   | «at» bb cap =>
    rw [hp] at hov hrow
    obtain ⟨arr, e', g1, g2, g3, g4, g5⟩ := hrow
    refine cut (cc := .sub b (l.getD 0) len) hov g3 p1 p2 p3 p4 p5 ⟨rfl, B, hB, fun t' m hm => ?_⟩ h6
    obtain ⟨rfl, rfl⟩ := isRow_at hl hB hm
    rw [hp]
    refine ⟨⟨if cap = l.getD 0 then ⟨bb, 0, none⟩ else ⟨bb, l.getD 0 * t'.sz, none⟩, ?_, by omega, ?_, fun hlt => by rw [if_neg (by omega)]⟩, p1⟩
    ·split
     ·rfl
     ·simp [add_at]
    ·split <;> rfl
 | sub b lo0 n =>
  simp only [RM.to] at h5
  cases hr : rowAs ety (look σ.bk b) with
  | none => rw [hr] at h5; exact h5.elim
  | some xs =>
   rw [hr] at h5
   have hl := rowAs_some hr
   obtain ⟨hov, hln⟩ := sub_of hl hc
   obtain ⟨l, len, h6, p1, p2, p3, p4, p5⟩ := cutLH_to (by omega) h5
   have hrow := (row_of hR hl).2
   rw [offBy_eq] at h6
   obtain ⟨_, B, hB, _⟩ := hc
   cases hp : pl b with
   | nil =>
    rw [hp] at hov hrow
    obtain ⟨q1, q2, q3⟩ := hov
    have hxs : xs.length = 0 := by rw [show xs = [] from hrow]; rfl
    refine cut (cc := .sub b (lo0 + l.getD 0) len) q1 (by omega) p1 p2 p3 p4 (fun h => by rw [p5 h]; exact q3) ⟨rfl, B, hB, fun t' m hm => ?_⟩ h6
    obtain ⟨rfl, rfl⟩ := isRow_at hl hB hm
    rw [hp]
    refine ⟨⟨?_, by omega, by omega⟩, by omega⟩
    have : l.getD 0 = 0 := by omega
    have : len = 0 := by omega
    subst this
    simp
   | obj v f => rw [hp] at hov; exact hov.elim
   | «at» bb cap =>
    rw [hp] at hov hrow
    obtain ⟨arr, e', g1, g2, g3, g4, g5⟩ := hrow
    obtain ⟨ad, q1, q2, q3, q4⟩ := hov
    refine cut (cc := .sub b (lo0 + l.getD 0) len) q1 (by omega) p1 p2 p3 p4 p5 ⟨rfl, B, hB, fun t' m hm => ?_⟩ h6
    obtain ⟨rfl, rfl⟩ := isRow_at hl hB hm
    rw [hp]
    refine ⟨⟨if cap - lo0 = l.getD 0 then ad else ad.add (l.getD 0 * t'.sz), ?_, by omega, ?_, fun hlt => ?_⟩, by omega⟩
    ·rw [Nat.sub_sub]
     split <;> rfl
    ·split
     ·exact q3
     ·rw [add_block]; exact q3
    ·rw [if_neg (by omega), q4 (by omega), add_at, Nat.add_mul]
 | sc v =>
  cases v with
  | slice A n c' =>
   cases A with
   | some ad => exact h5.elim
   | none =>
    match n, c', hc, h5 with
    | 0, 0, hc, h5 =>
     obtain ⟨l, len, h6, p1, p2, p3, p4, p5⟩ := cutLH_to (Nat.le_refl _) h5
     have hl0 : l.getD 0 = 0 := by omega
     have hn0 : len = 0 := by omega
     refine cut (A := none) (n := 0) (c' := 0) (cc := .sc (.slice none 0 0)) hc (Nat.le_refl _) p1 p2 p3 p4 p5 ?_ h6
     rw [hl0, hn0]
     rfl
    | 0, _ + 1, _, h5 => exact h5.elim
    | _ + 1, _, _, h5 => exact h5.elim
  | _ => exact h5.elim
 | _ => exact h5.elim
theorem bytes_run {R : Nat → Prop} {xs : List Int} {u : Value} (h : Rep w R (.slice (.int .u8)) xs [u]) : (Conv.bytesToString u).run P w = .ok (.string (bytesOf xs)) w := by
 have h' : RepL w R (Rep w R (.int .u8)) 1 xs [u] := h
 obtain ⟨A, c, e1, e2, e3⟩ := h'
 simp only [List.cons.injEq, and_true] at e1
 subst e1
 by_cases hpos : 0 < xs.length
 ·obtain ⟨ad, rfl, g2, g3⟩ := e3 hpos
  have := run_loadCells_list (P := P) w ad (xs.map (Value.int .u8)) (fun j v hj => by
   rw [List.getElem?_map, Option.map_eq_some_iff] at hj
   obtain ⟨y, hy, rfl⟩ := hj
   obtain ⟨cs, g4, g5⟩ := g3 j y hy
   cases g4
   have := g5 0 _ rfl
   simpa using this)
  rw [List.length_map] at this
  exact run_bytesToString w ad _ _ _ this
 ·obtain rfl : xs = [] := List.eq_nil_of_length_eq_zero (by omega)
  cases A with
  | none => simp [Conv.bytesToString, bytesOf]
  | some ad => exact run_bytesToString w ad 0 _ [] (by simp [loadCells, loadCellsFrom])
theorem good_conv (hT : TTok P cfg.tt) (hR : Rel cx σ a w pl) (hd : ∀ d, o.dst = some d → d < cx.N) {src to : TypeId} {x : Operand}
  (ho : o.op = .convert src to x) (h : (opConv cfg o.dst src to x : RM O).to σ wr) : Good P cx σ a w o wr := by
 obtain ⟨c, h1, h2⟩ := evC_to h
 obtain ⟨si, h3, h4⟩ := getTI_to h2
 obtain ⟨di, h5, h6⟩ := getTI_to h4
 clear h h2 h4
 have hc := opd_CR hR h1
 obtain ⟨sd, hsd, _⟩ := (hT src si h3).agg
 cases hty : di.ty with
 | none => rw [hty] at h6; exact h6.elim
 | some ty =>
  rw [hty] at h6
  cases ty with
  | int k =>
   have hu := (hT to di h5).int k hty
   simp only at h6
   cases c <;> (try exact h6.elim)
   rename_i v
   cases v <;> (try exact h6.elim)
   rename_i k' n
   rw [ret1_to h6]
   have hx : a.eval x = .int k' n := hc
   refine good_put hR hd (v := .int k (k.wrap n)) ?_ rfl
   simp [execOp, ho, hx, convert, underlying, hsd, hu, Conv.intToInt]
  | str =>
   have hu := (hT to di h5).str hty
   simp only at h6
   have bytes : (elemTI cfg src fun ty _ => match ty with
     | .int .u8 => sliceOf (.int .u8) c fun xs => retV o.dst (.string (bytesOf xs))
     | _ => (.fail : RM O)).to σ wr → Good P cx σ a w o wr := by
    intro h7
    obtain ⟨e, ety, ei, hu', he, hty', hz, h8⟩ := elemTI_to hT h7
    split at h8
    ·obtain ⟨xs, fz, h9, _, h10⟩ := sliceOf_to hR h8
     rw [ret1_to h9]
     have hel := he.int _ hty'
     obtain ⟨A, c', e1, e2, e3⟩ := h10 _ hc
     simp only [List.cons.injEq, and_true] at e1
     refine good_put hR hd (v := .string (bytesOf xs)) ?_ rfl
     have hb := bytes_run (P := P) (h10 _ hc)
     rw [e1] at hb
     simp only [execOp, ho, e1, convert, underlying, Sem.run_bind, run_program, Result.andThen_ok, hu', hu, Sem.run_pure, hel, hb]
    ·exact h8.elim
   cases c with
   | sc v =>
    cases v with
    | string s =>
     rw [ret1_to h6]
     have hx : a.eval x = .string s := hc
     refine good_put hR hd (v := .string s) ?_ rfl
     simp only [execOp, ho, hx, convert, underlying, Sem.run_bind, run_program, Result.andThen_ok, hsd, hu, Sem.run_pure]
    | _ => exact bytes h6
   | _ => exact bytes h6
  | _ => exact h6.elim
end
end Go.BB
