/- A symbolic machine for the model's code, and what it shows of this seat's functions. No conditions. -/
import Derived.Test.YtnofmeckcimodaaFRel
import Derived.Laws.Cover3
import Derived.Laws.StructEq
import Derived.Laws.BytesString
import Derived.Laws.Bits
set_option linter.unusedVariables false
set_option linter.unusedSimpArgs false
namespace Go.BB
open Go
section
variable {O : ObjK}
def RM.to (σ : St O) : RM O → Wr O → Prop
 | .wr w, w' => w = w'
 | .call o f, w' => ∃ a, o = some a ∧ f a = w'
 | .fail, _ => False
 | .rslot t f, w' => (f (look σ.sl t)).to σ w'
 | .rblk i f, w' => (f (look σ.bk i)).to σ w'
 | .guard b m, w' => b = true ∧ m.to σ w'
theorem ev_to {R : Type} {σ : St O} : ∀ {m : RM O} {k : Wr O → Option R} {r : R}, m.ev σ k = some r → ∃ w, m.to σ w ∧ k w = some r
 | .wr w, k, r, h => ⟨w, rfl, h⟩
 | .call o f, k, r, h => by
  obtain ⟨a, h1, h2⟩ := bd_some h
  exact ⟨f a, ⟨a, h1, rfl⟩, h2⟩
 | .fail, k, r, h => by simp [RM.ev] at h
 | .rslot t f, k, r, h => ev_to (m := f (look σ.sl t)) h
 | .rblk i f, k, r, h => ev_to (m := f (look σ.bk i)) h
 | .guard b m, k, r, h => by
  rcases br_some h with ⟨h1, h2⟩ | ⟨_, h2⟩
  ·obtain ⟨w, h3, h4⟩ := ev_to (m := m) h2
   exact ⟨w, ⟨h1, h3⟩, h4⟩
  ·simp at h2

def opd (σ : St O) (x : Operand) (s : S) : Prop :=
 match x with
 | .tmp t => look σ.sl t = some s
 | .const v => s = .t (constT v)
 | .func f => s = .t (.one (.sc (.func (.func f) #[] #[])))
 | .global _ => False
theorem evS_to {σ : St O} {x : Operand} {k : S → RM O} {wr : Wr O} (h : (evS x k).to σ wr) : ∃ s, opd σ x s ∧ (k s).to σ wr := by
 cases x with
 | tmp t =>
  simp only [evS, RM.to] at h
  cases hl : look σ.sl t with
  | none => rw [hl] at h; exact h.elim
  | some s => rw [hl] at h; exact ⟨s, hl, h⟩
 | const v => exact ⟨_, rfl, h⟩
 | func f => exact ⟨_, rfl, h⟩
 | global g => exact h.elim
theorem evT_to {σ : St O} {x : Operand} {k : T → RM O} {wr : Wr O} (h : (evT x k).to σ wr) : ∃ s, opd σ x (.t s) ∧ (k s).to σ wr := by
 obtain ⟨s, h1, h2⟩ := evS_to h
 cases s with
 | t s => exact ⟨s, h1, h2⟩
 | tup ts => exact h2.elim
theorem evC_to {σ : St O} {x : Operand} {k : C → RM O} {wr : Wr O} (h : (evC x k).to σ wr) : ∃ c, opd σ x (.t (.one c)) ∧ (k c).to σ wr := by
 obtain ⟨s, h1, h2⟩ := evT_to h
 cases s with
 | one c => exact ⟨c, h1, h2⟩
 | ag cs => exact h2.elim
theorem evV_to {σ : St O} {x : Operand} {k : Value → RM O} {wr : Wr O} (h : (evV x k).to σ wr) : ∃ v, opd σ x (.t (.one (.sc v))) ∧ (k v).to σ wr := by
 obtain ⟨c, h1, h2⟩ := evC_to h
 cases c with
 | sc v => exact ⟨v, h1, h2⟩
 | _ => exact h2.elim
theorem evI_to {σ : St O} {x : Operand} {k : Int → RM O} {wr : Wr O} (h : (evI x k).to σ wr) : ∃ kd n, opd σ x (.t (.one (.sc (.int kd n)))) ∧ (k n).to σ wr := by
 obtain ⟨c, h1, h2⟩ := evV_to h
 cases c with
 | int kd n => exact ⟨kd, n, h1, h2⟩
 | _ => exact h2.elim
theorem fresh_to {σ : St O} {nb : Nat} {k : RM O} {wr : Wr O} (h : (fresh nb k).to σ wr) : look σ.bk nb = none ∧ 64 ≤ nb ∧ k.to σ wr := by
 unfold fresh at h
 cases hb : Nat.ble 64 nb with
 | false => rw [hb] at h; exact h.elim
 | true =>
  rw [hb] at h
  simp only [RM.to] at h
  cases hl : look σ.bk nb with
  | none => rw [hl] at h; exact ⟨rfl, Nat.le_of_ble_eq_true hb, h⟩
  | some s => rw [hl] at h; exact h.elim
theorem All2_sc {w : World} {R : Nat → Prop} {bk : List (Nat × Blk O)} {pl : Nat → Pl} : ∀ (l : List Value), All2 (CR w R bk pl) (l.map .sc) l
 | [] => trivial
 | _ :: l => ⟨rfl, All2_sc l⟩
theorem TR_const {w : World} {R : Nat → Prop} {bk : List (Nat × Blk O)} {pl : Nat → Pl} (v : Value) : TR w R bk pl (constT v) v := by
 cases v <;> first | exact rfl | exact ⟨_, rfl, All2_sc _⟩
variable {cx : Cx} {σ : St O} {a : Act} {w : World} {pl : Nat → Pl}
theorem opd_SR (hR : Rel cx σ a w pl) {x : Operand} {s : S} (h : opd σ x s) : SR w (RO cx w σ.bk pl) σ.bk pl s (a.eval x) := by
 cases x with
 | tmp t => exact (hR.slots t s h).2
 | const v => cases h; exact TR_const v
 | func f => cases h; exact rfl
 | global g => exact h.elim
theorem opd_sc (hR : Rel cx σ a w pl) {x : Operand} {v : Value} (h : opd σ x (.t (.one (.sc v)))) : a.eval x = v := opd_SR hR h
theorem opd_CR (hR : Rel cx σ a w pl) {x : Operand} {c : C} (h : opd σ x (.t (.one c))) : CR w (RO cx w σ.bk pl) σ.bk pl c (a.eval x) := opd_SR hR h
theorem opd_TR (hR : Rel cx σ a w pl) {x : Operand} {c : T} (h : opd σ x (.t c)) : TR w (RO cx w σ.bk pl) σ.bk pl c (a.eval x) := opd_SR hR h

theorem putS_look (dst : Option Tmp) (s : S) (sl : List (Nat × S)) (t : Nat) : look (capp (putS dst s) sl) t = if dst = some t then some s else look sl t := by
 cases dst with
 | none => simp [putS, capp]
 | some d => simp only [putS, capp_eq, List.cons_append, List.nil_append, look_cons, Option.some.injEq]
theorem put_getD {a : Act} {dst : Option Tmp} {v : Value} (t : Nat) (hd : ∀ d, dst = some d → d < a.tmps.size) : (a.put dst v).tmps.getD t undef = if dst = some t then v else a.tmps.getD t undef := by
 cases dst with
 | none => simp [Act.put]
 | some d =>
  have := hd d rfl
  simp only [Act.put, Array.getD_eq_getD_getElem?, Array.getElem?_setIfInBounds, Option.some.injEq]
  by_cases h : d = t
  ·subst h; simp [this]
  ·simp [h]
theorem put_size {a : Act} {dst : Option Tmp} {v : Value} : (a.put dst v).tmps.size = a.tmps.size := by cases dst <;> simp [Act.put]
theorem put_defers {a : Act} {dst : Option Tmp} {v : Value} : (a.put dst v).defers = a.defers := by cases dst <;> rfl
theorem rel_gen (hR : Rel cx σ a w pl) {w' : World} {bk' : List (Nat × Blk O)} {pl' : Nat → Pl}
  (hM : Mem cx w' bk' pl' ∧ (∀ b, RO cx w σ.bk pl b → RO cx w' bk' pl' b) ∧ (∀ b, RO cx w σ.bk pl b → w'.heap[b]? = w.heap[b]?))
  (hk : Keeps σ.bk bk' pl pl') {dst : Option Tmp} (hd : ∀ d, dst = some d → d < cx.N) {s : S} {v : Value} (hs : SR w' (RO cx w' bk' pl') bk' pl' s v) :
  Rel cx ⟨capp (putS dst s) σ.sl, bk'⟩ (a.put dst v) w' pl' := by
 have hd' : ∀ d, dst = some d → d < a.tmps.size := by rw [hR.size]; exact hd
 refine ⟨hM.1, fun t x hx => ?_, by rw [put_defers]; exact hR.defers, by rw [put_size]; exact hR.size⟩
 simp only at hx
 rw [putS_look] at hx
 rw [put_getD t hd', put_size]
 by_cases h : dst = some t
 ·rw [if_pos h] at hx ⊢
  cases hx
  exact ⟨hd' t h, hs⟩
 ·rw [if_neg h] at hx ⊢
  obtain ⟨h1, h2⟩ := hR.slots t x hx
  exact ⟨h1, SR_mono hM.2.1 hM.2.2 hk _ _ h2⟩
theorem mem_same (hR : Rel cx σ a w pl) : Mem cx w σ.bk pl ∧ (∀ b, RO cx w σ.bk pl b → RO cx w σ.bk pl b) ∧ (∀ b, RO cx w σ.bk pl b → w.heap[b]? = w.heap[b]?) := ⟨hR.mem, fun _ h => h, fun _ _ => rfl⟩
theorem rel_put (hR : Rel cx σ a w pl) {dst : Option Tmp} (hd : ∀ d, dst = some d → d < cx.N) {s : S} {v : Value} (hs : SR w (RO cx w σ.bk pl) σ.bk pl s v) :
  Rel cx (σ.app { sl := putS dst s }) (a.put dst v) w pl := rel_gen hR (mem_same hR) (Keeps.refl _ _) hd hs

def Good (P : Program) (cx : Cx) (σ : St O) (a : Act) (w : World) (o : Oper) (wr : Wr O) : Prop :=
 ∀ (next : Act → World → Prop) (Q : Exit → Act → World → Prop), (∀ a' w' pl', Rel cx (σ.app wr) a' w' pl' → next a' w') → o.wp P a w next Q
theorem good_value {P : Program} {o : Oper} {wr : Wr O} {v : Value} {w' : World} {pl' : Nat → Pl} (hrun : (execOp a.eval o).run P w = .ok (.value v) w') (h : Rel cx (σ.app wr) (a.put o.dst v) w' pl') : Good P cx σ a w o wr := by
 intro next Q hn
 unfold Oper.wp
 rw [hrun]
 exact hn _ _ _ h
theorem good_skip {P : Program} {o : Oper} {wr : Wr O} {w' : World} {pl' : Nat → Pl} (hrun : (execOp a.eval o).run P w = .ok .skip w') (h : Rel cx (σ.app wr) (a.put o.dst undef) w' pl') : Good P cx σ a w o wr := by
 intro next Q hn
 unfold Oper.wp
 rw [hrun]
 exact hn _ _ _ h
theorem good_put {P : Program} {o : Oper} {s : S} {v : Value} (hR : Rel cx σ a w pl) (hd : ∀ d, o.dst = some d → d < cx.N)
  (hrun : (execOp a.eval o).run P w = .ok (.value v) w) (hs : SR w (RO cx w σ.bk pl) σ.bk pl s v) : Good P cx σ a w o { sl := putS o.dst s } :=
 good_value hrun (rel_put hR hd hs)

theorem good_move {P : Program} {o : Oper} {wr : Wr O} (hR : Rel cx σ a w pl) (hd : ∀ d, o.dst = some d → d < cx.N) {x : Operand}
  (ho : o.op = .move x ∨ o.op = .assign x) (h : (evS x fun s => (.wr { sl := putS o.dst s } : RM O)).to σ wr) : Good P cx σ a w o wr := by
 obtain ⟨s, h1, h2⟩ := evS_to h
 cases h2
 refine good_put hR hd (v := a.eval x) ?_ (opd_SR hR h1)
 rcases ho with ho | ho <;> simp [execOp, ho]
theorem good_pick {P : Program} {o : Oper} {wr : Wr O} (hR : Rel cx σ a w pl) (hd : ∀ d, o.dst = some d → d < cx.N) {c x y : Operand}
  (ho : o.op = .pick c x y) (h : (opPick o.dst c x y : RM O).to σ wr) : Good P cx σ a w o wr := by
 obtain ⟨v, h1, h2⟩ := evV_to h
 have h3 := opd_sc hR h1
 cases v with
 | bool b =>
  cases b
  ·obtain ⟨s, h4, h5⟩ := evS_to h2
   cases h5
   exact good_put hR hd (v := a.eval y) (by simp [execOp, ho, h3, asBool]) (opd_SR hR h4)
  ·obtain ⟨s, h4, h5⟩ := evS_to h2
   cases h5
   exact good_put hR hd (v := a.eval x) (by simp [execOp, ho, h3, asBool]) (opd_SR hR h4)
 | _ => exact h2.elim
theorem good_un {P : Program} {o : Oper} {wr : Wr O} (hR : Rel cx σ a w pl) (hd : ∀ d, o.dst = some d → d < cx.N) {op : UnOp} {t : TypeId} {x : Operand}
  (ho : o.op = .unOp op t x) (h : (opUn o.dst op x : RM O).to σ wr) : Good P cx σ a w o wr := by
 obtain ⟨v, h1, h2⟩ := evV_to h
 have h3 := opd_sc hR h1
 cases hu : unV op v with
 | none => rw [hu] at h2; exact h2.elim
 | some u =>
  rw [hu] at h2
  cases h2
  refine good_put hR hd (v := u) ?_ rfl
  cases op <;> cases v <;> simp [unV] at hu <;> subst hu <;> simp [execOp, ho, h3, Op.unary, Op.intArith]
theorem binI_run {P : Program} {op : BinOp} {t : TypeId} {k k' : IntKind} {a b : Int} (hk : isShift op = true ∨ k = k') (hg : (binI op k a b).1 = true) :
  (binOp op t (.int k a) (.int k' b)).run P w = .ok (binI op k a b).2 w := by
 cases op <;> simp only [isShift, Bool.false_eq_true, false_or, true_or] at hk <;> (try subst hk) <;> simp [binI] at hg <;>
  simp [binOp, binI, Op.intArith, Op.intDiv, Op.intBits, Op.intCmp, Op.shift, hg] <;> (intro hb; omega)
theorem binV_run {P : Program} {op : BinOp} {t : TypeId} {x y : Value} {r : Bool × Value} (h : binV op x y = some r) (hg : r.1 = true)
  (ht : ∀ a b, x = .bool a → y = .bool b → P.underlying t = some .bool) :
  (binOp op t x y).run P w = .ok r.2 w := by
 cases x <;> cases y <;> simp only [binV] at h <;> (try (simp at h; done))
 case bool.bool a b =>
  have ht := ht a b rfl rfl
  have he := run_equalIn_bool' (P := P) w 9999 t a b ht
  cases op <;> simp at h <;> subst h
  ·show (Op.equalIn 10000 t (.bool a) (.bool b) >>= fun r => (pure (.bool r) : Sem Value)).run P w = _
   rw [Sem.run_bind, he]; rfl
  ·show (Op.equalIn 10000 t (.bool a) (.bool b) >>= fun r => (pure (.bool (!r)) : Sem Value)).run P w = _
   rw [Sem.run_bind, he]; rfl
 case int.int k a k' b =>
  by_cases hs : isShift op = true
  ·rw [hs] at h
   simp only [Option.some.injEq] at h
   subst h
   exact binI_run (.inl hs) hg
  ·simp only [Bool.not_eq_true] at hs
   rw [hs] at h
   simp only [Option.ite_none_right_eq_some, Option.some.injEq] at h
   obtain ⟨hk, h⟩ := h
   subst h
   exact binI_run (.inr hk) hg
 case string.string a b =>
  cases op <;> simp at h <;> subst h <;> simp [binOp, Op.stringOp] at hg ⊢
  exact hg

def EqOk (P : Program) (t : Nat) (ty : Ty) : Prop := ∀ (w : World) (xs ys : List C) (us vs : List Value) (b : Bool), eqTy ty xs ys = some b →
  All2 (fun c v => c = C.sc v) xs us → All2 (fun c v => c = C.sc v) ys vs → (Op.equalIn 10000 t (.agg us.toArray) (.agg vs.toArray)).run P w = .ok b w
structure KeyOk (P : Program) (t : Nat) (ty : Ty) : Prop where
 flat : ty.flat = true
 desc : ∃ d, P.underlying t = some d
 check : ∀ (wr w : World) (R : Nat → Prop) (em : Bool) (x : ty.den) (v : Value), TRep w R ty x v → (Instr.checkKey em 10000 t v).run P wr = .ok () wr
 equal : ∀ (wr w : World) (R : Nat → Prop) (w' : World) (R' : Nat → Prop) (x y : ty.den) (u v : Value), TRep w R ty x u → TRep w' R' ty y v → (Op.equal t u v).run P wr = .ok (eqD ty x y) wr
 now : ∀ d, P.underlying t = some d → (∀ (w : World) (R : Nat → Prop) (w' : World) (R' : Nat → Prop) (x y : ty.den) (u v : Value), TRep w R ty x u → TRep w' R' ty y v → Instr.sameNow d u v = some (eqD ty x y)) ∨ (∀ u v, Instr.sameNow d u v = none)
 same : ∀ (w : World) (R : Nat → Prop) (w' : World) (R' : Nat → Prop) (x y : ty.den) (u v : Value), TRep w R ty x u → TRep w' R' ty y v → eqD ty x y = true → Instr.sameBits 10000 u v = true
 eqd : ∀ x y : ty.den, eqD ty x y = true → x = y
 refl : ∀ x : ty.den, eqD ty x x = true
structure TIok (P : Program) (t : Nat) (ti : TI) : Prop where
 info : ∃ i z, P.info? t = some i ∧ i.size = ti.size ∧ i.bytes = ti.bytes ∧ i.zero = some z ∧ z.cells.toList = ti.zero
 agg : ∃ d, P.underlying t = some d ∧ ti.agg = (match d with | .struct _ => true | .array _ _ => true | _ => false)
 slice : ∀ e, ti.sub = .slice e → P.underlying t = some (.slice e)
 map : ∀ k e, ti.sub = .map k e → P.underlying t = some (.map k e)
 arr : ∀ n e, ti.sub = .arr n e → P.underlying t = some (.array n e)
 key : ti.key = true → ∀ ty, ti.ty = some ty → KeyOk P t ty
 ptr : ∀ e, ti.sub = .ptr e → P.underlying t = some (.pointer e)
 zslice : ∀ u, ti.ty = some (.slice u) → ∀ w, (zeroValue t).run P w = .ok (.slice none 0 0) w
 zero1 : ∀ ty, ti.ty = some ty → ∃ z, (∀ w, (zeroValue t).run P w = .ok z w) ∧ ∀ (w : World) (R : Nat → Prop), TRep w R ty ty.zero z
 struct : ∀ fs, ti.sub = .struct fs → ∃ fields : Array Field, P.underlying t = some (.struct fields) ∧ fields.toList.map (fun f => (f.type, f.offset)) = fs ∧ ∀ f ∈ fields.toList, ∃ i, P.info? f.type = some i
 bool : ti.ty = some .bool → P.underlying t = some .bool
 int : ∀ k, ti.ty = some (.int k) → P.underlying t = some (.int k)
 str : ti.ty = some .str → P.underlying t = some .string
 size : ∀ ty, ti.ty = some ty → ty.sz = ti.size
 zero : ∀ ty, ti.ty = some ty → ∀ (w : World) (R : Nat → Prop), Rep w R ty ty.zero ti.zero
 tagg : ∀ ty, ti.ty = some ty → ti.agg = (match ty with | .pair _ _ => true | .unit => true | _ => false)
 eq : ti.eq = true → ∀ ty, ti.ty = some ty → EqOk P t ty ∧ P.eqGuardType P.depth t = false
def TTok (P : Program) (tt : List (Nat × TI)) : Prop := ∀ t ti, look tt t = some ti → TIok P t ti
variable {cfg : Cfg O} {P : Program}
theorem getTI_to {t : Nat} {k : TI → RM O} {wr : Wr O} (h : (getTI cfg t k).to σ wr) : ∃ ti, look cfg.tt t = some ti ∧ (k ti).to σ wr := by
 unfold getTI at h
 cases hl : look cfg.tt t with
 | none => rw [hl] at h; exact h.elim
 | some ti => rw [hl] at h; exact ⟨ti, rfl, h⟩
theorem elemTI_to {t : Nat} {k : Ty → TI → RM O} {wr : Wr O} (hT : TTok P cfg.tt) (h : (elemTI cfg t k).to σ wr) :
  ∃ e ty ei, P.underlying t = some (.slice e) ∧ TIok P e ei ∧ ei.ty = some ty ∧ 0 < ty.sz ∧ (k ty ei).to σ wr := by
 obtain ⟨ti, h1, h2⟩ := getTI_to h
 cases hs : ti.sub with
 | slice e =>
  simp only [hs] at h2
  obtain ⟨ei, h3, h4⟩ := getTI_to h2
  cases hy : ei.ty with
  | none => rw [hy] at h4; exact h4.elim
  | some ty =>
   simp only [hy] at h4
   cases hz : Nat.blt 0 ty.sz with
   | false => rw [hz] at h4; exact h4.elim
   | true =>
    rw [hz] at h4
    exact ⟨e, ty, ei, (hT t ti h1).slice e hs, hT e ei h3, hy, by have := hz; simp [Nat.blt] at this; omega, h4⟩
 | _ => simp only [hs] at h2; exact h2.elim
theorem fieldTI_to {t f : Nat} {k : Nat → TI → RM O} {wr : Wr O} (hT : TTok P cfg.tt) (h : (fieldTI cfg t f k).to σ wr) :
  ∃ (fields : Array Field) (fd : Field) (fi : TI), P.underlying t = some (.struct fields) ∧ fields[f]? = some fd ∧ TIok P fd.type fi ∧ (k fd.offset fi).to σ wr := by
 obtain ⟨ti, h1, h2⟩ := getTI_to h
 cases hs : ti.sub with
 | struct fs =>
  simp only [hs] at h2
  obtain ⟨fields, h3, h4, _⟩ := (hT t ti h1).struct fs hs
  cases hf : fs[f]? with
  | none => rw [hf] at h2; exact h2.elim
  | some p =>
   simp only [hf] at h2
   obtain ⟨fi, h5, h6⟩ := getTI_to h2
   rw [← h4] at hf
   simp only [List.getElem?_map, Option.map_eq_some_iff] at hf
   obtain ⟨fd, h7, h8⟩ := hf
   cases h8
   exact ⟨fields, fd, fi, h3, by simpa using h7, hT _ fi h5, h6⟩
 | _ => simp only [hs] at h2; exact h2.elim
theorem All2_map_sc {R : Nat → Prop} {bk : List (Nat × Blk O)} : ∀ {xs : List C} {us : List Value}, (∀ c ∈ xs, ∃ v, c = .sc v) → All2 (CR w R bk pl) xs us → All2 (fun c v => c = C.sc v) xs us
 | [], [], _, _ => trivial
 | x :: xs, u :: us, h, h' => by
  refine ⟨?_, All2_map_sc (fun c hc => h c (List.mem_cons_of_mem _ hc)) h'.2⟩
  obtain ⟨v, rfl⟩ := h x List.mem_cons_self
  rw [show u = v from h'.1]
 | [], _ :: _, _, h => h.elim
 | _ :: _, [], _, h => h.elim
theorem eqTy_sc : ∀ (t : Ty) {xs ys : List C} {b : Bool}, eqTy t xs ys = some b → (∀ c ∈ xs, ∃ v, c = .sc v) ∧ (∀ c ∈ ys, ∃ v, c = .sc v)
 | .int k, xs, ys, r, h => by
  unfold eqTy at h
  split at h
  ·simp
  ·cases h
 | .bool, xs, ys, r, h => by
  unfold eqTy at h
  split at h
  ·simp
  ·cases h
 | .str, xs, ys, r, h => by
  unfold eqTy at h
  split at h
  ·simp
  ·cases h
 | .unit, xs, ys, r, h => by
  unfold eqTy at h
  split at h
  ·simp
  ·cases h
 | .slice _, xs, ys, r, h => by simp [eqTy] at h
 | .pair a b, xs, ys, r, h => by
  unfold eqTy at h
  rw [ctake_eq, ctake_eq, cdrop_eq, cdrop_eq] at h
  split at h
  ·rename_i r1 h1
   split at h
   ·rename_i r2 h2
    have e1 := eqTy_sc a h1
    have e2 := eqTy_sc b h2
    refine ⟨fun c hc => ?_, fun c hc => ?_⟩
    ·rw [← List.take_append_drop a.sz xs] at hc
     rcases List.mem_append.1 hc with hc | hc
     ·exact e1.1 c hc
     ·exact e2.1 c hc
    ·rw [← List.take_append_drop a.sz ys] at hc
     rcases List.mem_append.1 hc with hc | hc
     ·exact e1.2 c hc
     ·exact e2.2 c hc
   ·cases h
  ·cases h
theorem good_nilEq {o : Oper} {wr : Wr O} (hT : TTok P cfg.tt) (hR : Rel cx σ a w pl) (hd : ∀ d, o.dst = some d → d < cx.N) {op : BinOp} {t t' : TypeId} {x y : Operand} {c : C}
  (ho : o.op = .binOp op t x y t') (hx : CR w (RO cx w σ.bk pl) σ.bk pl c (a.eval x)) (hy : a.eval y = .slice none 0 0) (h : (opNilEq cfg o.dst op t c : RM O).to σ wr) : Good P cx σ a w o wr := by
 unfold opNilEq at h
 cases op <;> (try exact h.elim)
 simp only at h
 obtain ⟨ti, h5, h6⟩ := getTI_to h
 cases hs : ti.sub with
 | slice e =>
  rw [hs] at h6
  cases c with
  | ro ty xs =>
   cases h6
   have hu := (hT t ti h5).slice e hs
   obtain ⟨A, n, hv, hle, hp⟩ := hx
   simp only [List.cons.injEq, and_true] at hv
   refine good_put hR hd (v := .bool A.isNone) ?_ ⟨A.isNone, rfl, fun hA => ?_⟩
   ·have hg : (eqGuard .eql t x y (.slice A (List.length xs) n) (.slice none 0 0)).run P w = .ok () w := by
     unfold eqGuard
     simp
    simp [execOp, ho, hv, hy, hg, binOp, run_equal_slice_nil w t e A _ n hu]
   ·cases xs with
    | nil => rfl
    | cons x xs =>
     obtain ⟨ad, hA', _⟩ := hp (Nat.succ_pos _)
     rw [hA'] at hA
     cases hA
  | _ => exact h6.elim
 | _ => rw [hs] at h6; exact h6.elim
theorem good_nilP {o : Oper} {wr : Wr O} (hT : TTok P cfg.tt) (hR : Rel cx σ a w pl) (hd : ∀ d, o.dst = some d → d < cx.N) {op : BinOp} {t t' : TypeId} {x y : Operand} {c : C}
  (ho : o.op = .binOp op t x y t') (hx : CR w (RO cx w σ.bk pl) σ.bk pl c (a.eval x)) (hy : a.eval y = .pointer none) (h : (opNilP cfg o.dst op t c : RM O).to σ wr) : Good P cx σ a w o wr := by
 unfold opNilP at h
 obtain ⟨ti, h5, h6⟩ := getTI_to h
 cases hs : ti.sub with
 | ptr e =>
  rw [hs] at h6
  have hu := (hT t ti h5).ptr e hs
  have key : ∀ ad, a.eval x = .pointer (some ad) → ((match (generalizing := false) op with | .eql => retV o.dst (.bool false) | .neq => retV o.dst (.bool true) | _ => .fail) : RM O).to σ wr → Good P cx σ a w o wr := by
   intro ad hv h7
   have hg : (eqGuard op t x y (.pointer (some ad)) (.pointer none)).run P w = .ok () w := by
    unfold eqGuard
    cases op <;> simp
   have he : (Op.equal t (.pointer (some ad)) (.pointer none)).run P w = .ok false w := by
    have : ∀ n, (Op.equalIn (n + 1) t (.pointer (some ad)) (.pointer none)).run P w = .ok false w := fun n => by simp [Op.equalIn, run_underlying hu]
    exact this 9999
   cases op <;> simp only at h7 <;> (try exact h7.elim) <;> cases h7
   ·refine good_put hR hd (v := .bool false) ?_ rfl
    simp [execOp, ho, hv, hy, hg, binOp, he]
   ·refine good_put hR hd (v := .bool true) ?_ rfl
    simp [execOp, ho, hv, hy, hg, binOp, he]
  cases c with
  | ptr i off =>
   simp only [RM.to] at h6
   obtain ⟨_, B, hB, hB2⟩ := hx
   rw [hB] at h6
   cases B with
   | box cs =>
    obtain ⟨b, c, _, g⟩ := hB2 ⟨cs, rfl⟩
    simp only at h6
    exact key _ g h6
   | _ => exact h6.elim
  | rop t2 x2 off =>
   obtain ⟨ad, cs, _, _, _, g⟩ := hx
   simp only at h6
   exact key _ g h6
  | _ => exact h6.elim
 | _ => rw [hs] at h6; exact h6.elim
theorem good_bin {o : Oper} {wr : Wr O} (hT : TTok P cfg.tt) (hR : Rel cx σ a w pl) (hd : ∀ d, o.dst = some d → d < cx.N) {op : BinOp} {t t' : TypeId} {x y : Operand}
  (ho : o.op = .binOp op t x y t') (h : (opBin cfg o.dst op t x y : RM O).to σ wr) : Good P cx σ a w o wr := by
 obtain ⟨s1, h1, h2⟩ := evT_to h
 obtain ⟨s2, h3, h4⟩ := evT_to h2
 have hx := opd_TR hR h1
 have hy := opd_TR hR h3
 cases s1 with
 | one c1 =>
  cases s2 with
  | ag ys => cases c1 <;> exact h4.elim
  | one c2 =>
   cases c1 with
   | sc u =>
    cases c2 with
    | sc v =>
     simp only at h4
     cases hb : binV op u v with
     | none => rw [hb] at h4; exact h4.elim
     | some r =>
      have hx' : a.eval x = u := hx
      have hy' : a.eval y = v := hy
      have key : ∀ (ht : ∀ a b, u = .bool a → v = .bool b → P.underlying t = some .bool), (RM.guard r.1 (retV o.dst r.2) : RM O).to σ wr → Good P cx σ a w o wr := by
       intro ht h5
       obtain ⟨h6, h7⟩ := h5
       cases h7
       refine good_put hR hd (v := r.2) ?_ rfl
       have hrun := binV_run (P := P) (w := w) (t := t) hb h6 ht
       have hg : (eqGuard op t x y u v).run P w = .ok () w := by
        unfold eqGuard
        cases op <;> simp <;> cases u <;> cases v <;> simp [binV] at hb ⊢
       simp [execOp, ho, hx', hy', hg, hrun]
      rw [hb] at h4
      cases u with
      | bool ub =>
       simp only at h4
       obtain ⟨ti, h5, h6⟩ := getTI_to h4
       cases hty : ti.ty with
       | none => rw [hty] at h6; exact h6.elim
       | some ty =>
        rw [hty] at h6
        cases ty with
        | bool => exact key (fun _ _ _ _ => (hT t ti h5).bool hty) h6
        | _ => exact h6.elim
      | _ => exact key (fun _ _ h => by cases h) h4
    | _ => exact h4.elim
   | _ =>
    split at h4
    ·rename_i e1 _; cases e1
    ·rename_i e1 _; cases e1
    ·rename_i e1 e2
     cases e1
     cases e2
     exact good_nilEq hT hR hd ho (c := _) (by first | exact hx | skip) hy h4
    ·rename_i e1 e2
     cases e1
     cases e2
     exact good_nilP hT hR hd ho (c := _) (by first | exact hx | skip) hy h4
    ·exact h4.elim
 | ag xs =>
  cases s2 with
  | one c2 => exact h4.elim
  | ag ys =>
   simp only at h4
   obtain ⟨ti, h5, h6⟩ := getTI_to h4
   cases he : ti.eq with
   | false => rw [he] at h6; exact h6.elim
   | true =>
    rw [he] at h6
    simp only at h6
    cases hty : ti.ty with
    | none => rw [hty] at h6; exact h6.elim
    | some ty =>
     rw [hty] at h6
     simp only at h6
     obtain ⟨ax, ex, ax2⟩ := hx
     obtain ⟨ay, ey, ay2⟩ := hy
     cases hq : eqTy ty xs ys with
     | none => cases op <;> rw [hq] at h6 <;> exact h6.elim
     | some b =>
      obtain ⟨q1, q2⟩ := eqTy_sc ty hq
      obtain ⟨hrun, hgt⟩ := (hT t ti h5).eq he ty hty
      have hrun := hrun w xs ys ax.toList ay.toList b hq (All2_map_sc q1 ax2) (All2_map_sc q2 ay2)
      simp only [Array.toArray_toList] at hrun
      rw [hq] at h6
      cases op <;> simp only at h6 <;> (try exact h6.elim) <;> cases h6
      ·refine good_put hR hd (v := .bool b) ?_ rfl
       simp [execOp, ho, ex, ey, run_eqGuard_agg w .eql t x y ax ay hgt, run_eql_struct, hrun]
      ·refine good_put hR hd (v := .bool (!b)) ?_ rfl
       simp [execOp, ho, ex, ey, run_eqGuard_agg w .neq t x y ax ay hgt, run_neq_struct, hrun]

def R2 (cx : Cx) (w : World) (σ : St O) (pl : Nat → Pl) (fz : List (Nat × Blk O)) (b : Nat) : Prop := RO cx w σ.bk pl b ∨ ∃ p ∈ fz, (pl p.1).fp b
def Fz (σ : St O) (fz : List (Nat × Blk O)) : Prop := ∀ p ∈ fz, ∃ (t : Ty) (xs : List t.den), p.2 = .fro t xs ∧ (look σ.bk p.1 = some (.row t xs) ∨ look σ.bk p.1 = some (.fro t xs))
theorem castL_some {t : Ty} {s : (t : Ty) × List t.den} {xs : List t.den} (h : castL t s = some xs) : s = ⟨t, xs⟩ := by
 obtain ⟨t', ys⟩ := s
 simp only [castL] at h
 split at h
 ·rename_i e
  have e' : t' = t := e
  subst e'
  simp only [Option.some.injEq] at h
  rw [h]
 ·simp at h
theorem rowAs_some {t : Ty} {b : Option (Blk O)} {xs : List t.den} (h : rowAs t b = some xs) : b = some (.row t xs) ∨ b = some (.fro t xs) := by
 unfold rowAs at h
 split at h
 ·have := castL_some h
  cases this
  exact .inl rfl
 ·have := castL_some h
  cases this
  exact .inr rfl
 ·simp at h
theorem rowW_some {t : Ty} {b : Option (Blk O)} {xs : List t.den} (h : rowW t b = some xs) : b = some (.row t xs) := by
 unfold rowW at h
 split at h
 ·have := castL_some h
  cases this
  rfl
 ·simp at h
theorem rowAny_some {b : Option (Blk O)} {s : (t : Ty) × List t.den} (h : rowAny b = some s) : b = some (.row s.1 s.2) ∨ b = some (.fro s.1 s.2) := by
 unfold rowAny at h
 split at h
 ·cases h; exact .inl rfl
 ·cases h; exact .inr rfl
 ·simp at h
theorem isRow_row (t : Ty) (xs : List t.den) : isRow (O := O) (.row t xs) t xs.length := ⟨xs, .inl rfl, rfl⟩
theorem isRow_fro (t : Ty) (xs : List t.den) : isRow (O := O) (.fro t xs) t xs.length := ⟨xs, .inr rfl, rfl⟩
theorem row_of (hR : Rel cx σ a w pl) {i : Nat} {t : Ty} {xs : List t.den} (h : look σ.bk i = some (.row t xs) ∨ look σ.bk i = some (.fro t xs)) :
  0 < t.sz ∧ RowAt w (RO cx w σ.bk pl) (pl i) t xs := by
 rcases h with h | h
 ·exact hR.mem.blocks i _ h
 ·exact hR.mem.blocks i _ h
theorem own_of (hR : Rel cx σ a w pl) {i : Nat} {t : Ty} {xs : List t.den} (h : look σ.bk i = some (.row t xs) ∨ look σ.bk i = some (.fro t xs)) {u : Value}
  (hu : CR w (RO cx w σ.bk pl) σ.bk pl (.own i) u) : ownV (pl i) xs.length u := by
 obtain ⟨_, B, hB, hB2⟩ := hu
 rcases h with h | h <;> rw [h] at hB <;> cases hB
 ·exact hB2 t _ (isRow_row t xs)
 ·exact hB2 t _ (isRow_fro t xs)
theorem sub_of {i lo n : Nat} {t : Ty} {xs : List t.den} (h : look σ.bk i = some (.row t xs) ∨ look σ.bk i = some (.fro t xs)) {u : Value}
  (hu : CR w (RO cx w σ.bk pl) σ.bk pl (.sub i lo n) u) : subV (pl i) t.sz lo n u ∧ lo + n ≤ xs.length := by
 obtain ⟨_, B, hB, hB2⟩ := hu
 rcases h with h | h <;> rw [h] at hB <;> cases hB
 ·exact hB2 t _ (isRow_row t xs)
 ·exact hB2 t _ (isRow_fro t xs)
theorem rep_sub {R R' : Nat → Prop} {p : Pl} {t : Ty} {xs : List t.den} {lo n : Nat} {u : Value} (hz : 0 < t.sz) (hrow : RowAt w R p t xs) (hv : subV p t.sz lo n u) (hn : lo + n ≤ xs.length)
  (hRR : ∀ b, R b → R' b) (hp : ∀ b, p.fp b → R' b) : Rep w R' (.slice t) ((xs.drop lo).take n) [u] := by
 have hlen : ((xs.drop lo).take n).length = n := by simp; omega
 cases p with
 | nil =>
  obtain ⟨rfl, rfl, rfl⟩ := hv
  exact ⟨none, 0, by simp, by simp, fun h => by simp at h⟩
 | obj v f => exact hv.elim
 | «at» b cap =>
  obtain ⟨ad, rfl, h1, h2, h3⟩ := hv
  obtain ⟨arr, e, g1, g2, g3, g4, g5⟩ := hrow
  refine ⟨some ad, cap - lo, by rw [hlen], by rw [hlen]; omega, fun hpos => ⟨ad, rfl, by rw [h2]; exact hp b rfl, fun j x hj => ?_⟩⟩
  rw [hlen] at hpos
  have hjn : j < n := by
   have := (List.getElem?_eq_some_iff.1 hj).1
   rw [hlen] at this; exact this
  have hj' : xs[lo + j]? = some x := by
   rw [List.getElem?_take, if_pos hjn, List.getElem?_drop] at hj
   exact hj
  obtain ⟨cs, g6, g7⟩ := g5 (lo + j) x hj'
  have had : ad = ⟨b, lo * t.sz, none⟩ := h3 (by omega)
  refine ⟨cs, Rep_mono hRR (fun _ _ => rfl) _ _ _ g6, fun q v hq => ?_⟩
  rw [had, add_at, cell_of_row w b _ arr e (0, 0) g1]
  have := g7 q v hq
  rw [← this]
  congr 1
  rw [Nat.add_mul]; omega
theorem rep_own {R R' : Nat → Prop} {p : Pl} {t : Ty} {xs : List t.den} {u : Value} (hz : 0 < t.sz) (hrow : RowAt w R p t xs) (hv : ownV p xs.length u)
  (hRR : ∀ b, R b → R' b) (hp : ∀ b, p.fp b → R' b) : Rep w R' (.slice t) xs [u] := by
 have hs : subV p t.sz 0 xs.length u := by
  cases p with
  | nil => exact ⟨hv.1, rfl, hv.2⟩
  | obj v f => exact hv.elim
  | «at» b cap =>
   obtain ⟨arr, e, g1, g2, g3, g4, g5⟩ := hrow
   exact ⟨⟨b, 0, none⟩, hv, by omega, rfl, fun _ => by simp⟩
 have := rep_sub (lo := 0) (n := xs.length) hz hrow hs (by omega) hRR hp
 simpa using this
theorem ofCells_to (hR : Rel cx σ a w pl) : ∀ (t : Ty) (cs : List C) (k : t.den → List (Nat × Blk O) → RM O) (wr : Wr O), (ofCells t cs k).to σ wr →
  ∃ x fz, (k x fz).to σ wr ∧ Fz σ fz ∧ ∀ vs, All2 (CR w (RO cx w σ.bk pl) σ.bk pl) cs vs → Rep w (R2 cx w σ pl fz) t x vs
 | .int kd, cs, k, wr, h => by
  unfold ofCells at h
  split at h
  ·split at h
   ·rename_i k' n e
    subst e
    refine ⟨n, [], h, by simp [Fz], fun vs hv => ?_⟩
    match vs, hv with
    | [v], hv => rw [show v = _ from hv.1]; rfl
   ·exact h.elim
  ·exact h.elim
 | .bool, cs, k, wr, h => by
  unfold ofCells at h
  split at h
  ·rename_i b
   refine ⟨b, [], h, by simp [Fz], fun vs hv => ?_⟩
   match vs, hv with
   | [v], hv => rw [show v = _ from hv.1]; rfl
  ·exact h.elim
 | .str, cs, k, wr, h => by
  unfold ofCells at h
  split at h
  ·rename_i b
   refine ⟨b, [], h, by simp [Fz], fun vs hv => ?_⟩
   match vs, hv with
   | [v], hv => rw [show v = _ from hv.1]; rfl
  ·exact h.elim
 | .unit, cs, k, wr, h => by
  unfold ofCells at h
  split at h
  ·refine ⟨(), [], h, by simp [Fz], fun vs hv => ?_⟩
   match vs, hv with
   | [], hv => rfl
  ·exact h.elim
 | .pair t u, cs, k, wr, h => by
  unfold ofCells at h
  obtain ⟨x, f, h1, h2, h3⟩ := ofCells_to hR t _ _ _ h
  obtain ⟨y, g, h4, h5, h6⟩ := ofCells_to hR u _ _ _ h1
  refine ⟨(x, y), capp f g, h4, ?_, fun vs hv => ?_⟩
  ·rw [capp_eq]
   intro p hp
   rcases List.mem_append.1 hp with hp | hp
   ·exact h2 p hp
   ·exact h5 p hp
  ·rw [ctake_eq] at h3
   rw [cdrop_eq] at h6
   refine ⟨vs.take t.sz, vs.drop t.sz, (List.take_append_drop _ _).symm, ?_, ?_⟩
   ·refine Rep_mono (fun b hb => ?_) (fun _ _ => rfl) _ _ _ (h3 _ (hv.take _))
    rcases hb with hb | ⟨p, hp, hb⟩
    ·exact .inl hb
    ·exact .inr ⟨p, by rw [capp_eq]; exact List.mem_append_left _ hp, hb⟩
   ·refine Rep_mono (fun b hb => ?_) (fun _ _ => rfl) _ _ _ (h6 _ (hv.drop _))
    rcases hb with hb | ⟨p, hp, hb⟩
    ·exact .inl hb
    ·exact .inr ⟨p, by rw [capp_eq]; exact List.mem_append_right _ hp, hb⟩
 | .slice t, cs, k, wr, h => by
  unfold ofCells at h
  split at h
  ·rename_i t' xs
   cases hc : castL t ⟨t', xs⟩ with
   | none => rw [hc] at h; exact h.elim
   | some ys =>
    rw [hc] at h
    have := castL_some hc
    cases this
    refine ⟨_, [], h, by simp [Fz], fun vs hv => ?_⟩
    match vs, hv with
    | [v], hv => exact Rep_mono (fun b hb => .inl hb) (fun _ _ => rfl) _ _ _ hv.1
  ·rename_i i
   simp only [RM.to] at h
   cases hc : rowAs t (look σ.bk i) with
   | none => rw [hc] at h; exact h.elim
   | some xs =>
    rw [hc] at h
    have hl := rowAs_some hc
    obtain ⟨hz, hrow⟩ := row_of hR hl
    refine ⟨xs, _, h, ?_, fun vs hv => ?_⟩
    ·intro p hp
     simp only [List.mem_singleton] at hp
     subst hp
     exact ⟨t, xs, rfl, hl⟩
    ·match vs, hv with
     | [v], hv => exact rep_own hz hrow (own_of hR hl hv.1) (fun b hb => .inl hb) (fun b hb => .inr ⟨_, List.mem_singleton.2 rfl, hb⟩)
  ·rename_i i lo n
   simp only [RM.to] at h
   cases hc : rowAs t (look σ.bk i) with
   | none => rw [hc] at h; exact h.elim
   | some xs =>
    rw [hc] at h
    have hl := rowAs_some hc
    obtain ⟨hz, hrow⟩ := row_of hR hl
    refine ⟨_, _, h, ?_, fun vs hv => ?_⟩
    ·intro p hp
     simp only [List.mem_singleton] at hp
     subst hp
     exact ⟨t, xs, rfl, hl⟩
    ·match vs, hv with
     | [v], hv =>
      obtain ⟨hs, hn⟩ := sub_of hl hv.1
      exact rep_sub hz hrow hs hn (fun b hb => .inl hb) (fun b hb => .inr ⟨_, List.mem_singleton.2 rfl, hb⟩)
  ·refine ⟨[], [], h, by simp [Fz], fun vs hv => ?_⟩
   match vs, hv with
   | [v], hv => rw [show v = _ from hv.1]; exact ⟨none, 0, rfl, Nat.le_refl _, fun h => by simp at h⟩
  ·exact h.elim
theorem sliceOf_to (hR : Rel cx σ a w pl) {t : Ty} {c : C} {k : List t.den → RM O} {wr : Wr O} (h : (sliceOf t c k).to σ wr) :
  ∃ xs fz, (k xs).to σ wr ∧ Fz σ fz ∧ ∀ u, CR w (RO cx w σ.bk pl) σ.bk pl c u → Rep w (R2 cx w σ pl fz) (.slice t) xs [u] := by
 obtain ⟨x, fz, h1, h2, h3⟩ := ofCells_to hR (.slice t) [c] _ _ h
 exact ⟨x, fz, h1, h2, fun u hu => h3 [u] ⟨hu, trivial⟩⟩
theorem lenOf_to (hR : Rel cx σ a w pl) {c : C} {k : Nat → RM O} {wr : Wr O} (h : (lenOf c k).to σ wr) {u : Value} (hu : CR w (RO cx w σ.bk pl) σ.bk pl c u) :
  ∃ n A c', (k n).to σ wr ∧ u = .slice A n c' := by
 unfold lenOf at h
 split at h
 ·obtain ⟨A, c, e, _⟩ := hu
  simp only [List.cons.injEq, and_true] at e
  exact ⟨_, A, c, h, e⟩
 ·rename_i i
  simp only [RM.to] at h
  cases hc : rowAny (look σ.bk i) with
  | none => rw [hc] at h; exact h.elim
  | some s =>
   rw [hc] at h
   have hl := rowAny_some hc
   have ho := own_of hR hl hu
   cases hp : pl i with
   | nil => rw [hp] at ho; exact ⟨_, none, 0, h, by rw [ho.2]; exact ho.1⟩
   | «at» b cap => rw [hp] at ho; exact ⟨_, _, _, h, ho⟩
   | obj v f => rw [hp] at ho; exact ho.elim
 ·rename_i i lo n
  simp only [RM.to] at h
  cases hc : rowAny (look σ.bk i) with
  | none => rw [hc] at h; exact h.elim
  | some s =>
   rw [hc] at h
   have hl := rowAny_some hc
   obtain ⟨ho, _⟩ := sub_of hl hu
   cases hp : pl i with
   | nil => rw [hp] at ho; exact ⟨_, none, 0, h, by rw [ho.2.2]; exact ho.1⟩
   | «at» b cap => rw [hp] at ho; obtain ⟨ad, e, _⟩ := ho; exact ⟨_, _, _, h, e⟩
   | obj v f => rw [hp] at ho; exact ho.elim
 ·exact ⟨0, none, 0, h, hu⟩
 ·exact h.elim
end
end Go.BB
