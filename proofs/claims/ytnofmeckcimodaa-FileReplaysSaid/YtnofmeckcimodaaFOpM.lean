/- A symbolic machine for the model's code, and what it shows of this seat's functions. No conditions. -/
import Derived.Test.YtnofmeckcimodaaFCall2
import Derived.Laws.StructEq
import Derived.MapKept
set_option linter.unusedSimpArgs false
set_option linter.unusedVariables false
namespace Go.BB
open Go
section
variable {O : ObjK} {cx : Cx} {σ : St O} {a : Act} {w : World} {pl : Nat → Pl} {cfg : Cfg O} {P : Program} {o : Oper} {wr : Wr O}

theorem midx_none {K V : Type} {eq : K → K → Bool} : ∀ {m : List (K × V)} {k : K}, midx eq m k = none → mget eq m k = none ∧ (∀ v, mset eq m k v = m ++ [(k, v)]) ∧ mdel eq m k = m
 | [], k, _ => ⟨rfl, fun _ => rfl, rfl⟩
 | p :: m, k, h => by
  unfold midx at h
  unfold mget mset mdel
  cases hp : eq p.1 k with
  | true => rw [hp] at h; cases h
  | false =>
   rw [hp] at h
   simp only [Option.map_eq_none_iff] at h
   obtain ⟨h1, h2, h3⟩ := midx_none h
   exact ⟨h1, fun v => by rw [h2 v]; rfl, by rw [h3]⟩
theorem midx_some {K V : Type} {eq : K → K → Bool} : ∀ {m : List (K × V)} {k : K} {j : Nat}, midx eq m k = some j →
  ∃ p, m[j]? = some p ∧ eq p.1 k = true ∧ mget eq m k = some p.2 ∧ (∀ v, mset eq m k v = m.set j (p.1, v)) ∧ mdel eq m k = m.eraseIdx j
 | [], k, j, h => by cases h
 | p :: m, k, j, h => by
  unfold midx at h
  unfold mget mset mdel
  cases hp : eq p.1 k with
  | true =>
   rw [hp] at h
   cases h
   exact ⟨p, rfl, hp, rfl, fun _ => rfl, rfl⟩
  | false =>
   rw [hp] at h
   simp only [Option.map_eq_some_iff] at h
   obtain ⟨i, h1, rfl⟩ := h
   obtain ⟨q, g1, g2, g3, g4, g5⟩ := midx_some h1
   exact ⟨q, g1, g2, g3, fun v => by rw [g4 v]; rfl, by rw [g5]; rfl⟩

theorem castS_some {kt t : Ty} {s : (k : MapK) × k.den} {es : List (kt.den × List t.den)} (h : castS kt t s = some es) : s = ⟨.mapS kt t, es⟩ := by
 obtain ⟨k, y⟩ := s
 simp only [castS] at h
 split at h
 ·rename_i e
  have e' : k = .mapS kt t := e
  subst e'
  exact congrArg (fun z => (⟨.mapS kt t, z⟩ : (k : MapK) × k.den)) (Option.some.inj h)
 ·cases h
theorem castM_some {kt vt : Ty} {s : (k : MapK) × k.den} {es : List (kt.den × vt.den)} (h : castM kt vt s = some es) : s = ⟨.map kt vt, es⟩ := by
 obtain ⟨k, y⟩ := s
 simp only [castM] at h
 split at h
 ·rename_i e
  have e' : k = .map kt vt := e
  subst e'
  exact congrArg (fun z => (⟨.map kt vt, z⟩ : (k : MapK) × k.den)) (Option.some.inj h)
 ·cases h
theorem mapTI_to {t : Nat} {k : Ty → Ty → RM O} (hT : TTok P cfg.tt) (h : (mapTI cfg t k).to σ wr) :
  ∃ tk te kt vt ki ei, P.underlying t = some (.map tk te) ∧ TIok P tk ki ∧ ki.key = true ∧ ki.ty = some kt ∧ TIok P te ei ∧ ei.ty = some vt ∧ (k kt vt).to σ wr := by
 obtain ⟨ti, h1, h2⟩ := getTI_to h
 cases hs : ti.sub with
 | map tk te =>
  simp only [hs] at h2
  obtain ⟨ki, h3, h4⟩ := getTI_to h2
  cases hk : ki.key with
  | false => rw [hk] at h4; exact h4.elim
  | true =>
   rw [hk] at h4
   simp only at h4
   cases hy : ki.ty with
   | none => rw [hy] at h4; exact h4.elim
   | some kt =>
    rw [hy] at h4
    simp only at h4
    obtain ⟨ei, h5, h6⟩ := getTI_to h4
    cases hv : ei.ty with
    | none => rw [hv] at h6; exact h6.elim
    | some vt =>
     rw [hv] at h6
     exact ⟨tk, te, kt, vt, ki, ei, (hT t ti h1).map tk te hs, hT tk ki h3, hk, hy, hT te ei h5, hv, h6⟩
 | _ => simp only [hs] at h2; exact h2.elim
structure AtMap (P : Program) (cx : Cx) (σ : St O) (a : Act) (w : World) (pl : Nat → Pl) (t : TypeId) (m x : Operand) (i : Nat) (kt vt : Ty) (es : List (kt.den × vt.den)) (key : kt.den) (tk te b : Nat) (f : Nat → Prop) (me : Array MapEntry) (clock : Nat) : Prop where
 und : P.underlying t = some (.map tk te)
 keyOk : KeyOk P tk kt
 val : ∃ ei, TIok P te ei ∧ ei.ty = some vt
 look : look σ.bk i = some (.obj (.map kt vt) es)
 eval : a.eval m = .map (some b)
 place : pl i = .obj (.map (some b)) f
 fp : ∀ x, f x ↔ x = b
 heap : w.heap[b]? = some (.map me clock)
 stamps : Stamps me.toList clock
 rel : All2 (fun (p : kt.den × vt.den) e => TRep w (RO cx w σ.bk pl) kt p.1 e.key ∧ TRep w (RO cx w σ.bk pl) vt p.2 e.val) es me.toList
 arg : TRep w (fun _ => True) kt key (a.eval x)
structure AtMapS (P : Program) (cx : Cx) (σ : St O) (a : Act) (w : World) (pl : Nat → Pl) (t : TypeId) (m x : Operand) (i : Nat) (kt u : Ty) (es : List (kt.den × List u.den)) (key : kt.den) (tk te b : Nat) (f : Nat → Prop) (me : Array MapEntry) (clock : Nat) (ps : List Pl) : Prop where
 und : P.underlying t = some (.map tk te)
 keyOk : KeyOk P tk kt
 zero : ∀ w, (zeroValue te).run P w = .ok (.slice none 0 0) w
 look : look σ.bk i = some (.obj (.mapS kt u) es)
 eval : a.eval m = .map (some b)
 place : pl i = .obj (.map (some b)) f
 fp : ∀ x, f x ↔ x = b ∨ ∃ p ∈ ps, p.fp x
 heap : w.heap[b]? = some (.map me clock)
 stamps : Stamps me.toList clock
 pos : 0 < u.sz
 ents : EntS w (RO cx w σ.bk pl) kt u es me.toList ps
 disj : Disj ps
 apart : ∀ p ∈ ps, ¬ p.fp b
 arg : TRep w (fun _ => True) kt key (a.eval x)
theorem mapAt_to (hT : TTok P cfg.tt) (hR : Rel cx σ a w pl) {t : TypeId} {m x : Operand} {k : Nat → (kt vt : Ty) → List (kt.den × vt.den) → kt.den → RM O} {k2 : Nat → (kt u : Ty) → List (kt.den × List u.den) → kt.den → RM O} (h : (mapAt cfg t m x k k2).to σ wr) :
  (∃ i kt vt es key tk te b f me clock, (k i kt vt es key).to σ wr ∧ AtMap P cx σ a w pl t m x i kt vt es key tk te b f me clock) ∨
  (∃ i kt u es key tk te b f me clock ps, (k2 i kt u es key).to σ wr ∧ AtMapS P cx σ a w pl t m x i kt u es key tk te b f me clock ps) := by
 obtain ⟨c, h1, h2⟩ := evC_to h
 have hc := opd_CR hR h1
 cases c with
 | obj i =>
  simp only at h2
  obtain ⟨tk, te, kt, vt, ki, ei, g1, g2, g3, g4, g5, g6, h3⟩ := mapTI_to hT h2
  obtain ⟨xv, h4, h5⟩ := evT_to h3
  cases hag : beqB (T.isAg xv) kt.isAgg with
  | false => rw [hag] at h5; exact h5.elim
  | true =>
   rw [hag] at h5
   simp only at h5
   obtain ⟨key, fz, h6, h7, h8⟩ := ofCells_to hR _ _ _ _ h5
   have hkv : TRep w (fun _ => True) kt key (a.eval x) := TRep_mono (fun _ _ => trivial) (fun _ _ => rfl) (TRep_of (opd_TR hR h4) h8 hag)
   simp only [RM.to] at h6
   obtain ⟨_, B, hB, hB2⟩ := hc
   rw [hB] at h6
   cases B with
   | obj kk y =>
    simp only at h6
    obtain ⟨v, f, q1, q2⟩ := hR.mem.blocks i _ hB
    obtain ⟨f', q3⟩ := hB2 rfl
    rw [q1] at q3
    cases q3
    cases hcm : castM kt vt ⟨kk, y⟩ with
    | some es =>
     rw [hcm] at h6
     have := castM_some hcm
     cases this
     obtain ⟨_, b, me, clock, q4, q5, q6, q7, q8⟩ := q2
     exact .inl ⟨i, kt, vt, es, key, tk, te, b, f, me, clock, h6, ⟨g1, g2.key g3 kt g4, ⟨ei, g5, g6⟩, hB, q4, by rw [q1, q4], q6, q5, q7, q8, hkv⟩⟩
    | none =>
     rw [hcm] at h6
     simp only at h6
     split at h6
     ·rename_i u
      cases hcs : castS kt u ⟨kk, y⟩ with
      | none => rw [hcs] at h6; exact h6.elim
      | some es =>
       rw [hcs] at h6
       have := castS_some hcs
       cases this
       obtain ⟨_, hz, b, me, clock, ps, q4, q5, q6, q7, q8, q9, q10⟩ := q2
       exact .inr ⟨i, kt, u, es, key, tk, te, b, f, me, clock, ps, h6, ⟨g1, g2.key g3 kt g4, g5.zslice u g6, hB, q4, by rw [q1, q4], q6, q5, q7, hz, q8, q9, q10, hkv⟩⟩
     ·exact h6.elim
   | _ => exact h6.elim
 | _ => exact h2.elim

theorem TRep_ex {R : Nat → Prop} {t : Ty} {x : t.den} {v : Value} (h : TRep w R t x v) : ∃ us, Rep w R t x us ∧ v = (match t.isAgg with | true => .agg us.toArray | false => us.headD undef) := by
 unfold TRep at h
 cases ht : t.isAgg with
 | true =>
  rw [ht] at h
  obtain ⟨arr, e, h⟩ := h
  exact ⟨arr.toList, h, by simp [e]⟩
 | false => rw [ht] at h; exact ⟨[v], h, rfl⟩
theorem eqI_comm (a b : Int) : eqI a b = eqI b a := by unfold eqI; exact Bool.eq_iff_iff.2 (by rw [beq_iff_eq, beq_iff_eq]; exact eq_comm)
theorem eqO_comm (a b : Bool) : eqO a b = eqO b a := by unfold eqO; exact Bool.eq_iff_iff.2 (by rw [beq_iff_eq, beq_iff_eq]; exact eq_comm)
theorem eqS_comm (a b : ByteArray) : eqS a b = eqS b a := by unfold eqS; exact Bool.eq_iff_iff.2 (by rw [beq_iff_eq, beq_iff_eq]; exact eq_comm)
theorem eqD_comm : ∀ (t : Ty) (x y : t.den), eqD t x y = eqD t y x
 | .int _, x, y => eqI_comm x y
 | .bool, x, y => eqO_comm x y
 | .str, x, y => eqS_comm x y
 | .unit, _, _ => rfl
 | .pair a b, x, y => by unfold eqD; rw [eqD_comm a, eqD_comm b]
 | .slice _, _, _ => rfl
theorem findAsking_run {tk : Nat} {kt : Ty} (K : KeyOk P tk kt) {w0 w1 : World} {R1 R2 : Nat → Prop} {x : kt.den} {kv : Value} (hx : TRep w1 R1 kt x kv) (wr : World) {V : Type} : ∀ {m : List (kt.den × V)} {es : List MapEntry} (i : Nat),
  All2 (fun p e => TRep w0 R2 kt p.1 e.key) m es → (Instr.findAsking tk kv es i).run P wr = .ok ((midx (eqD kt) m x).bind fun j => es[j]?.map fun e => (i + j, e.val)) wr
 | [], [], i, _ => rfl
 | p :: m, e :: es, i, h => by
  have h1 := K.equal wr w1 R1 w0 R2 x p.1 kv e.key hx h.1
  have ih := findAsking_run K hx wr (i + 1) h.2
  unfold Instr.findAsking midx
  simp only [Sem.run_bind, h1, Result.andThen_ok]
  rw [eqD_comm kt x p.1]
  cases hp : eqD kt p.1 x with
  | true => simp
  | false =>
   simp only [Bool.false_eq_true, if_false, ih]
   cases midx (eqD kt) m x with
   | none => rfl
   | some j => simp [Nat.add_assoc, Nat.add_comm 1 j]
 | [], _ :: _, _, h => h.elim
 | _ :: _, [], _, h => h.elim
theorem findNow_run {tk : Nat} {kt : Ty} {w0 w1 : World} {R1 R2 : Nat → Prop} {x : kt.den} {kv : Value} (hx : TRep w1 R1 kt x kv) {d : TypeDesc} (hd : ∀ (y : kt.den) (v : Value), TRep w0 R2 kt y v → Instr.sameNow d kv v = some (eqD kt x y)) {V : Type} :
  ∀ {m : List (kt.den × V)} {es : List MapEntry} (i : Nat), All2 (fun p e => TRep w0 R2 kt p.1 e.key) m es → Instr.findNow d kv es i = some ((midx (eqD kt) m x).bind fun j => es[j]?.map fun e => (i + j, e.val))
 | [], [], i, _ => rfl
 | p :: m, e :: es, i, h => by
  have h1 := hd p.1 e.key h.1
  have ih := findNow_run (tk := tk) hx hd (i + 1) h.2
  unfold Instr.findNow midx
  rw [h1, eqD_comm kt x p.1]
  cases hp : eqD kt p.1 x with
  | true => simp
  | false =>
   simp only [ih]
   cases midx (eqD kt) m x with
   | none => rfl
   | some j => simp [Nat.add_assoc, Nat.add_comm 1 j]
 | [], _ :: _, _, h => h.elim
 | _ :: _, [], _, h => h.elim
theorem findKey_run {tk : Nat} {kt : Ty} (K : KeyOk P tk kt) {w0 w1 : World} {R1 R2 : Nat → Prop} {x : kt.den} {kv : Value} (hx : TRep w1 R1 kt x kv) (wr : World) {V : Type} {m : List (kt.den × V)} {es : List MapEntry}
  (h : All2 (fun p e => TRep w0 R2 kt p.1 e.key) m es) : (Instr.findKey tk kv es).run P wr = .ok ((midx (eqD kt) m x).bind fun j => es[j]?.map fun e => (j, e.val)) wr := by
 obtain ⟨d, hd⟩ := K.desc
 unfold Instr.findKey
 simp only [Sem.run_bind, run_underlying hd, Result.andThen_ok]
 have ha := findAsking_run K hx wr 0 h
 rcases K.now d hd with hn | hn
 ·have := findNow_run (tk := tk) hx (d := d) (fun y v hy => hn w1 R1 w0 R2 x y kv v hx hy) 0 h
  rw [this]
  simp
 ·match m, es, h, ha with
  | [], [], h, ha => rfl
  | p :: m, e :: es, h, ha =>
   have : Instr.findNow d kv (e :: es) 0 = none := by unfold Instr.findNow; rw [hn]
   rw [this]
   simpa using ha
theorem All2.get' {α β : Type} {r : α → β → Prop} {xs : List α} {ys : List β} (h : All2 r xs ys) {i : Nat} {x : α} {y : β} (hx : xs[i]? = some x) (hy : ys[i]? = some y) : r x y := by
 obtain ⟨y', h1, h2⟩ := h.get i x hx
 rw [hy] at h1
 cases h1
 exact h2

def setO (w : World) (b : Nat) (o : Obj) : World := { w with heap := w.heap.setIfInBounds b o }
theorem setO_same {b : Nat} {o o' : Obj} (h : w.heap[b]? = some o) : (setO w b o').heap[b]? = some o' := by
 have := (Array.getElem?_eq_some_iff.1 h).1
 simp [setO, Array.getElem?_setIfInBounds, this]
theorem setO_other {b x : Nat} (o : Obj) (h : x ≠ b) : (setO w b o).heap[x]? = w.heap[x]? := by
 simp [setO, Array.getElem?_setIfInBounds, Ne.symm h]
theorem setO_Ext (w : World) (b : Nat) (o : Obj) : Ext (fun x => x ≠ b) w (setO w b o) := ⟨rfl, rfl, rfl, by simp [setO], fun x _ h => setO_other o h⟩
theorem mem_obj (hR : Rel cx σ a w pl) {i : Nat} {B B' : Blk O} (hi : look σ.bk i = some B) (hlive : B.live) (hlive' : B'.live) {w' : World} (hx : Ext (fun x => ¬ (pl i).fp x) w w')
  (h1 : ∀ t n, isRow B' t n → isRow B t n) (h2 : isBox B' → isBox B) (h3 : isObj B' → isObj B)
  (hB : (∀ b, RO cx w σ.bk pl b → RO cx w' ((i, B') :: σ.bk) pl b) → (∀ b, RO cx w σ.bk pl b → w'.heap[b]? = w.heap[b]?) → Keeps σ.bk ((i, B') :: σ.bk) pl pl →
   BR w' (RO cx w' ((i, B') :: σ.bk) pl) ((i, B') :: σ.bk) pl i B') :
  (Mem cx w' ((i, B') :: σ.bk) pl ∧ (∀ b, RO cx w σ.bk pl b → RO cx w' ((i, B') :: σ.bk) pl b) ∧ (∀ b, RO cx w σ.bk pl b → w'.heap[b]? = w.heap[b]?)) ∧ Keeps σ.bk ((i, B') :: σ.bk) pl pl := by
 have hk : Keeps σ.bk ((i, B') :: σ.bk) pl pl := by
  intro j Bj hj
  refine ⟨Pl.same_refl _, ?_⟩
  by_cases e : i = j
  ·subst e
   rw [hi] at hj
   cases hj
   exact ⟨B', by rw [look_cons]; simp, h1, h2, h3⟩
  ·exact ⟨Bj, by rw [look_cons, if_neg e]; exact hj, fun _ _ h => h, id, id⟩
 refine ⟨mem_gen hR.mem (fun j => j = i) (hx.mono fun _ _ h => h.elim) ?_ hk ?_ ?_ ?_ ?_ ?_ ?_, hk⟩
 ·intro x hxl hx'
  exact hx.keep x hxl fun e => hx' i rfl ⟨B, hi, hlive⟩ e
 ·intro j Bj hj hne
  rw [look_cons, if_neg (fun e => hne e.symm)] at hj
  exact ⟨hj, rfl⟩
 ·rintro j rfl _ x hxf
  exact ⟨Nat.lt_of_lt_of_le (hR.mem.bound j ⟨B, hi, hlive⟩ x hxf).1 hx.size, .inr ⟨j, rfl, ⟨B, hi, hlive⟩, hxf⟩⟩
 ·rintro j k rfl rfl _ _ hjk
  exact absurd rfl hjk
 ·rintro hRO hRw j Bj rfl hj
  rw [look_cons, if_pos rfl] at hj
  cases hj
  exact hB hRO hRw hk
 ·rintro hRO j t xs rfl hj
  rw [look_cons, if_pos rfl] at hj
  cases hj
  exact hlive'.elim
 ·rintro j rfl hn
  rw [hi] at hn; cases hn

theorem good_makeMap (hT : TTok P cfg.tt) (hR : Rel cx σ a w pl) (hd : ∀ d, o.dst = some d → d < cx.N) {nb : Nat} {t : TypeId} {r : Option Operand}
  (ho : o.op = .makeMap t r) (h : (opMakeMap cfg nb o.dst t r : RM O).to σ wr) : Good P cx σ a w o wr := by
 have key : ∀ {tk te : Nat} {kt vt : Ty} {ki : TI}, P.underlying t = some (.map tk te) → KeyOk P tk kt → (match vt with
   | .slice u => match Nat.blt 0 u.sz with
    | true => fresh nb (.wr { sl := putS o.dst (.t (.one (.obj nb))), bk := [(nb, .obj (.mapS kt u) [])] })
    | false => .fail
   | vt => fresh nb (.wr { sl := putS o.dst (.t (.one (.obj nb))), bk := [(nb, .obj (.map kt vt) [])] }) : RM O).to σ wr →
   (execOp a.eval o).run P w = .ok (.value (.map (some w.heap.size))) (w.alloc (.map #[] 0)) → Good P cx σ a w o wr := by
  intro tk te kt vt ki hu hK h2 hrun
  have fin : ∀ (k : MapK) (y : k.den), (∀ w' R, w'.heap[w.heap.size]? = some (.map #[] 0) → MapRel w' R k y (.map (some w.heap.size)) (fun x => x = w.heap.size)) →
    (fresh nb (.wr { sl := putS o.dst (.t (.one (.obj nb))), bk := [(nb, .obj k y)] }) : RM O).to σ wr → Good P cx σ a w o wr := by
   intro k y hrel h3
   obtain ⟨h6, h4, h5⟩ := fresh_to h3
   cases h5
   have hM := mem_alloc hR h6 h4 (w' := w.alloc (.map #[] 0)) (Ext.alloc _ _) (B := .obj k y) (p := .obj (.map (some w.heap.size)) (fun x => x = w.heap.size)) (fun b hb => by
     have hb : b = w.heap.size := hb
     subst hb; simp) trivial
    (fun hRO hRw hk => ⟨_, _, plus_same _ _ _, hrel _ _ (heap_alloc_new w _)⟩)
   refine good_value (pl' := plus pl nb (.obj (.map (some w.heap.size)) (fun x => x = w.heap.size))) hrun ?_
   exact rel_gen hR hM.1 hM.2 hd ⟨rfl, .obj k y, by rw [look_cons]; simp, fun _ => ⟨_, plus_same _ _ _⟩⟩
  have pure : (fresh nb (.wr { sl := putS o.dst (.t (.one (.obj nb))), bk := [(nb, .obj (.map kt vt) [])] }) : RM O).to σ wr → Good P cx σ a w o wr :=
   fin (.map kt vt) [] fun w' R hw => ⟨hK.flat, _, #[], 0, rfl, hw, fun _ => Iff.rfl, ⟨.nil, by simp⟩, trivial⟩
  cases vt with
  | slice u =>
   simp only at h2
   cases hz : Nat.blt 0 u.sz with
   | false => rw [hz] at h2; exact h2.elim
   | true =>
    rw [hz] at h2
    exact fin (.mapS kt u) [] (fun w' R hw => ⟨hK.flat, Nat.le_of_ble_eq_true hz, _, #[], 0, [], rfl, hw, fun _ => by simp, ⟨.nil, by simp⟩, trivial, trivial, by simp⟩) h2
  | int k => exact pure h2
  | bool => exact pure h2
  | str => exact pure h2
  | unit => exact pure h2
  | pair x y => exact pure h2
 unfold opMakeMap at h
 rcases bound_to hR h with ⟨rfl, h1⟩ | ⟨x, kd, n, rfl, hx, h1⟩
 ·obtain ⟨tk, te, kt, vt, ki, ei, g1, g2, g3, g4, g5, g6, h2⟩ := mapTI_to hT h1
  exact key (ki := ki) g1 (g2.key g3 kt g4) h2 (by simp [execOp, ho, Instr.makeMap])
 ·obtain ⟨tk, te, kt, vt, ki, ei, g1, g2, g3, g4, g5, g6, h2⟩ := mapTI_to hT h1
  exact key (ki := ki) g1 (g2.key g3 kt g4) h2 (by simp [execOp, ho, Instr.makeMap, hx, run_underlying g1, asInt, asIntOf])
theorem rel_keys {R : Nat → Prop} {kt vt : Ty} : ∀ {m : List (kt.den × vt.den)} {es : List MapEntry}, All2 (fun (p : kt.den × vt.den) e => TRep w R kt p.1 e.key ∧ TRep w R vt p.2 e.val) m es → All2 (fun p e => TRep w R kt p.1 e.key) m es := fun h => h.mono fun _ _ h => h.1
theorem keyStays_run {tk : Nat} {kt : Ty} (K : KeyOk P tk kt) {w0 w1 : World} {R1 R2 : Nat → Prop} {x y : kt.den} {u v : Value} (hx : TRep w0 R1 kt x u) (hy : TRep w1 R2 kt y v) (he : eqD kt x y = true) (wr : World) : (Instr.keyThatStays u v).run P wr = .ok v wr := by
 unfold Instr.keyThatStays
 rw [K.same w0 R1 w1 R2 x y u v hx hy he]
 rfl
theorem Stamps_push {es : List MapEntry} {clock : Nat} (h : Stamps es clock) (k v : Value) : Stamps (es ++ [{ key := k, val := v, born := clock }]) (clock + 1) := by
 refine ⟨List.pairwise_append.2 ⟨h.1, List.pairwise_singleton _ _, fun x hx y hy => ?_⟩, fun e he => ?_⟩
 ·rw [List.mem_singleton.1 hy]; exact h.2 x hx
 ·rcases List.mem_append.1 he with he | he
  ·exact Nat.lt_succ_of_lt (h.2 e he)
  ·rw [List.mem_singleton.1 he]; exact Nat.lt_succ_self _
theorem Stamps_map {es es' : List MapEntry} {clock : Nat} (h : Stamps es clock) (hb : es'.map (·.born) = es.map (·.born)) : Stamps es' clock := by
 have h1 : (es.map (·.born)).Pairwise (· < ·) := by rw [List.pairwise_map]; exact h.1
 have h2 : ∀ b ∈ es.map (·.born), b < clock := by
  intro b hb'
  obtain ⟨e, he, rfl⟩ := List.mem_map.1 hb'
  exact h.2 e he
 rw [← hb] at h1 h2
 rw [List.pairwise_map] at h1
 exact ⟨h1, fun e he => h2 _ (List.mem_map.2 ⟨e, he, rfl⟩)⟩
theorem Stamps_erase {es : List MapEntry} {clock : Nat} (h : Stamps es clock) (j : Nat) : Stamps (es.eraseIdx j) clock :=
 ⟨h.1.sublist (List.eraseIdx_sublist es j), fun e he => h.2 e ((List.eraseIdx_sublist es j).subset he)⟩
theorem All2.set {α β : Type} {r : α → β → Prop} : ∀ {xs : List α} {ys : List β}, All2 r xs ys → ∀ (j : Nat) {x : α} {y : β}, r x y → All2 r (xs.set j x) (ys.set j y)
 | [], [], _, _, _, _, _ => trivial
 | _ :: _, _ :: _, h, 0, _, _, hr => ⟨hr, h.2⟩
 | _ :: _, _ :: _, h, j + 1, _, _, hr => ⟨h.1, All2.set h.2 j hr⟩
 | [], _ :: _, h, _, _, _, _ => h.elim
 | _ :: _, [], h, _, _, _, _ => h.elim
theorem All2.erase {α β : Type} {r : α → β → Prop} : ∀ {xs : List α} {ys : List β}, All2 r xs ys → ∀ (j : Nat), All2 r (xs.eraseIdx j) (ys.eraseIdx j)
 | [], [], _, _ => trivial
 | _ :: _, _ :: _, h, 0 => h.2
 | _ :: _, _ :: _, h, j + 1 => ⟨h.1, All2.erase h.2 j⟩
 | [], _ :: _, h, _ => h.elim
 | _ :: _, [], h, _ => h.elim
theorem toList_modify {α : Type} (es : Array α) (j : Nat) (g : α → α) {e : α} (h : es.toList[j]? = some e) : (es.modify j g).toList = es.toList.set j (g e) := by
 apply List.ext_getElem?
 intro i
 have hlt := (List.getElem?_eq_some_iff.1 h).1
 simp only [Array.getElem?_toList, Array.getElem?_modify, List.getElem?_set] at h ⊢
 by_cases hij : j = i
 ·subst hij
  simp only [if_true, hlt, h, Option.map_some]
 ·simp [hij]
theorem map_born_set {es : List MapEntry} {j : Nat} {e e' : MapEntry} (h : es[j]? = some e) (hb : e'.born = e.born) : (es.set j e').map (·.born) = es.map (·.born) := by
 apply List.ext_getElem?
 intro i
 rw [List.getElem?_map, List.getElem?_map, List.getElem?_set]
 by_cases hij : j = i
 ·subst hij
  obtain ⟨hlt, he⟩ := List.getElem?_eq_some_iff.1 h
  simp [hlt, hb, he]
 ·simp [hij]
theorem EntS_keys {R : Nat → Prop} {kt t : Ty} : ∀ {m : List (kt.den × List t.den)} {es : List MapEntry} {ps : List Pl}, EntS w R kt t m es ps → All2 (fun p e => TRep w R kt p.1 e.key) m es
 | [], [], [], _ => trivial
 | _ :: _, _ :: _, _ :: _, h => ⟨h.1.1, EntS_keys h.2⟩
 | [], [], _ :: _, h => h.elim
 | [], _ :: _, _, h => h.elim
 | _ :: _, [], _, h => h.elim
 | _ :: _, _ :: _, [], h => h.elim
theorem EntS_none {R : Nat → Prop} {kt t : Ty} {V : Value → Prop} : ∀ {m : List (kt.den × List t.den)} {es : List MapEntry} {ps : List Pl}, EntS w R kt t m es ps → EntH w R kt t V none m es ps
 | [], [], [], _ => trivial
 | _ :: _, _ :: _, _ :: _, h => by unfold EntH; exact ⟨h.1, EntS_none h.2⟩
 | [], [], _ :: _, h => h.elim
 | [], _ :: _, _, h => h.elim
 | _ :: _, [], _, h => h.elim
 | _ :: _, _ :: _, [], h => h.elim
theorem EntH_none {R : Nat → Prop} {kt t : Ty} {V : Value → Prop} : ∀ {m : List (kt.den × List t.den)} {es : List MapEntry} {ps : List Pl}, EntH w R kt t V none m es ps → EntS w R kt t m es ps
 | [], [], [], _ => trivial
 | _ :: _, _ :: _, _ :: _, h => by unfold EntH at h; exact ⟨h.1, EntH_none h.2⟩
 | [], [], _ :: _, h => by simp [EntH] at h
 | [], _ :: _, _, h => by simp [EntH] at h
 | _ :: _, [], _, h => by simp [EntH] at h
 | _ :: _, _ :: _, [], h => by simp [EntH] at h
theorem EntS_take {R : Nat → Prop} {kt t : Ty} {V : Value → Prop} : ∀ {m : List (kt.den × List t.den)} {es : List MapEntry} {ps : List Pl} (k : Nat) {x : kt.den × List t.den}, EntS w R kt t m es ps → m[k]? = some x →
  ∃ e p, es[k]? = some e ∧ ps[k]? = some p ∧ RowAt w R p t x.2 ∧ ownV p x.2.length e.val ∧ (V e.val → EntH w R kt t V (some k) m es (ps.set k .nil))
 | y :: m, e :: es, p :: ps, 0, x, h, hx => by
  simp only [List.getElem?_cons_zero, Option.some.injEq] at hx
  subst hx
  refine ⟨e, p, rfl, rfl, h.1.2.1, h.1.2.2, fun hv => ?_⟩
  rw [List.set_cons_zero]
  unfold EntH
  exact ⟨⟨h.1.1, hv, rfl⟩, EntS_none h.2⟩
 | y :: m, e :: es, p :: ps, k + 1, x, h, hx => by
  simp only [List.getElem?_cons_succ] at hx
  obtain ⟨e', p', h1, h2, h3, h4, h5⟩ := EntS_take (V := V) k h.2 hx
  refine ⟨e', p', by simpa using h1, by simpa using h2, h3, h4, fun hv => ?_⟩
  rw [List.set_cons_succ]
  unfold EntH
  exact ⟨h.1, h5 hv⟩
 | [], _, _, _, _, _, hx => by simp at hx
 | _ :: _, [], _, _, _, h, _ => h.elim
 | _ :: _, _ :: _, [], _, _, h, _ => h.elim
theorem EntH_put {R : Nat → Prop} {kt t : Ty} {V : Value → Prop} : ∀ {m : List (kt.den × List t.den)} {es : List MapEntry} {ps : List Pl} (k : Nat), EntH w R kt t V (some k) m es ps →
  (m[k]? = none ∧ EntS w R kt t m es ps) ∨ ∃ x e, m[k]? = some x ∧ es[k]? = some e ∧ ps[k]? = some .nil ∧ V e.val ∧
   ∀ xs' p' u, RowAt w R p' t xs' → ownV p' xs'.length u → EntS w R kt t (m.set k (x.1, xs')) (es.set k { e with val := u }) (ps.set k p')
 | [], [], [], k, _ => .inl ⟨by simp, trivial⟩
 | y :: m, e :: es, p :: ps, 0, h => by
  unfold EntH at h
  refine .inr ⟨y, e, rfl, rfl, by rw [h.1.2.2]; rfl, h.1.2.1, fun xs' p' u h1 h2 => ?_⟩
  rw [List.set_cons_zero, List.set_cons_zero, List.set_cons_zero]
  exact ⟨⟨h.1.1, h1, h2⟩, EntH_none h.2⟩
 | y :: m, e :: es, p :: ps, k + 1, h => by
  unfold EntH at h
  rcases EntH_put k h.2 with ⟨h1, h2⟩ | ⟨x, e', h1, h2, h3, h4, h5⟩
  ·exact .inl ⟨by simpa using h1, h.1, h2⟩
  ·refine .inr ⟨x, e', by simpa using h1, by simpa using h2, by simpa using h3, h4, fun xs' p' u g1 g2 => ?_⟩
   rw [List.set_cons_succ, List.set_cons_succ, List.set_cons_succ]
   exact ⟨h.1, h5 xs' p' u g1 g2⟩
 | [], [], _ :: _, k, h => by simp [EntH] at h
 | [], _ :: _, _, k, h => by simp [EntH] at h
 | _ :: _, [], _, 0, h => by simp [EntH] at h
 | _ :: _, [], _, k + 1, h => by simp [EntH] at h
 | _ :: _, _ :: _, [], 0, h => by simp [EntH] at h
 | _ :: _, _ :: _, [], k + 1, h => by simp [EntH] at h
theorem Disj_drop {p : Pl} : ∀ {ps : List Pl} {k : Nat}, Disj ps → ps[k]? = some p → Disj (ps.set k .nil) ∧ (∀ q ∈ ps.set k .nil, ∀ b, p.fp b → ¬ q.fp b)
 | q :: ps, 0, h, hk => by
  simp only [List.getElem?_cons_zero, Option.some.injEq] at hk
  subst hk
  rw [List.set_cons_zero]
  refine ⟨⟨fun r _ b hb => hb.elim, h.2⟩, fun r hr b hb hrb => ?_⟩
  rcases List.mem_cons.1 hr with rfl | hr
  ·exact hrb
  ·exact h.1 r hr b hb hrb
 | q :: ps, k + 1, h, hk => by
  simp only [List.getElem?_cons_succ] at hk
  obtain ⟨h1, h2⟩ := Disj_drop h.2 hk
  rw [List.set_cons_succ]
  refine ⟨⟨fun r hr b hb hrb => ?_, h1⟩, fun r hr b hb hrb => ?_⟩
  ·rcases List.mem_or_eq_of_mem_set hr with hr | rfl
   ·exact h.1 r hr b hb hrb
   ·exact hrb
  ·rcases List.mem_cons.1 hr with rfl | hr
   ·exact h.1 p (List.mem_of_getElem? hk) b hrb hb
   ·exact h2 r hr b hb hrb
 | [], _, _, hk => by simp at hk
theorem Disj_lay {p : Pl} : ∀ {ps : List Pl} {k : Nat}, Disj ps → (∀ q ∈ ps, ∀ b, p.fp b → ¬ q.fp b) → Disj (ps.set k p)
 | [], _, _, _ => trivial
 | q :: ps, 0, h, hp => by
  rw [List.set_cons_zero]
  exact ⟨fun r hr b hb hrb => hp r (List.mem_cons_of_mem _ hr) b hb hrb, h.2⟩
 | q :: ps, k + 1, h, hp => by
  rw [List.set_cons_succ]
  refine ⟨fun r hr b hb hrb => ?_, Disj_lay h.2 fun r hr => hp r (List.mem_cons_of_mem _ hr)⟩
  rcases List.mem_or_eq_of_mem_set hr with hr | rfl
  ·exact h.1 r hr b hb hrb
  ·exact hp q List.mem_cons_self b hrb hb
theorem ownV_one {p : Pl} {n : Nat} {u : Value} (h : ownV p n u) : u.oneCell' = true := by
 cases p with
 | nil => rw [h.1]; rfl
 | «at» b c => rw [show u = _ from h]; rfl
 | obj v f => exact h.elim
theorem take_rel (hR : Rel cx σ a w pl) {i nb b : Nat} {B : Blk O} {kt u : Ty} {es : List (kt.den × List u.den)} {n : Option Nat} {me : Array MapEntry} {clock : Nat} {f : Nat → Prop} {ps : List Pl} (hkf : kt.flat = true) (hz : 0 < u.sz)
  (hi : look σ.bk i = some B) (hlive : B.live) (hO : isObj B) (hp : pl i = .obj (.map (some b)) f) (hf : ∀ x, f x ↔ x = b ∨ ∃ p ∈ ps, p.fp x) (hn1 : look σ.bk nb = none) (hn2 : look σ.bk (nb + 1) = none) (h64 : 64 ≤ nb)
  {w' : World} (hx : Ext (fun x => x ≠ b) w w') (hh : w'.heap[b]? = some (.map me clock)) (hst : Stamps me.toList clock) (hE : EntS w (RO cx w σ.bk pl) kt u es me.toList ps) (hdj : Disj ps) (hap : ∀ p ∈ ps, ¬ p.fp b)
  (hn : ∀ k, n = some k → ∃ x, es[k]? = some x) :
  ∃ pl', ((Mem cx w' ((nb, .row u (mval es n)) :: (nb + 1, .dead) :: (i, .hol kt u es n nb (nb + 1)) :: σ.bk) pl' ∧
    (∀ b, RO cx w σ.bk pl b → RO cx w' ((nb, .row u (mval es n)) :: (nb + 1, .dead) :: (i, .hol kt u es n nb (nb + 1)) :: σ.bk) pl' b) ∧ (∀ b, RO cx w σ.bk pl b → w'.heap[b]? = w.heap[b]?)) ∧
   Keeps σ.bk ((nb, .row u (mval es n)) :: (nb + 1, .dead) :: (i, .hol kt u es n nb (nb + 1)) :: σ.bk) pl pl') ∧
   (n = none → CR w' (RO cx w' ((nb, .row u (mval es n)) :: (nb + 1, .dead) :: (i, .hol kt u es n nb (nb + 1)) :: σ.bk) pl') ((nb, .row u (mval es n)) :: (nb + 1, .dead) :: (i, .hol kt u es n nb (nb + 1)) :: σ.bk) pl' (.own nb) (.slice none 0 0)) ∧
   (∀ k e, n = some k → me.toList[k]? = some e → CR w' (RO cx w' ((nb, .row u (mval es n)) :: (nb + 1, .dead) :: (i, .hol kt u es n nb (nb + 1)) :: σ.bk) pl') ((nb, .row u (mval es n)) :: (nb + 1, .dead) :: (i, .hol kt u es n nb (nb + 1)) :: σ.bk) pl' (.own nb) e.val ∧
    CR w' (RO cx w' ((nb, .row u (mval es n)) :: (nb + 1, .dead) :: (i, .hol kt u es n nb (nb + 1)) :: σ.bk) pl') ((nb, .row u (mval es n)) :: (nb + 1, .dead) :: (i, .hol kt u es n nb (nb + 1)) :: σ.bk) pl' (.gi (nb + 1)) (.int .i64 e.born)) := by
 obtain ⟨p, q, ps', hpf, hps', hdis, hdj', hrow, hval, hstamp⟩ : ∃ (p q : Pl) (ps' : List Pl), (∀ x, p.fp x → ∃ r ∈ ps, r.fp x) ∧ (∀ r ∈ ps', ∀ x, r.fp x → ∃ r' ∈ ps, r'.fp x) ∧ (∀ r ∈ ps', ∀ x, p.fp x → ¬ r.fp x) ∧ Disj ps' ∧
   RowAt w (RO cx w σ.bk pl) p u (mval es n) ∧ (∀ v, ((n = none ∧ v = .slice none 0 0) ∨ ∃ k e, n = some k ∧ me.toList[k]? = some e ∧ v = e.val) → ownV p (mval es n).length v) ∧
   ((∀ k e, n = some k → me.toList[k]? = some e → q = .at e.born 0) ∧ ∀ V : Value → Prop, (∀ k e, n = some k → me.toList[k]? = some e → V e.val) → EntH w (RO cx w σ.bk pl) kt u V n es me.toList ps') := by
  cases n with
  | none =>
   refine ⟨.nil, .nil, ps, fun x h => h.elim, fun r hr x h => ⟨r, hr, h⟩, fun r _ x h => h.elim, hdj, rfl, ?_, fun k e h => by (cases h), fun V _ => EntS_none hE⟩
   rintro v (⟨_, rfl⟩ | ⟨k, e, h, _⟩)
   ·exact ⟨rfl, rfl⟩
   ·cases h
  | some k =>
   obtain ⟨x, hxk⟩ := hn k rfl
   obtain ⟨e, p, h1, h2, h3, h4, h5⟩ := EntS_take (V := fun v => v = v) k hE hxk
   have hmv : mval es (some k) = x.2 := by simp [mval, hxk]
   obtain ⟨d1, d2⟩ := Disj_drop hdj h2
   refine ⟨p, .at e.born 0, ps.set k .nil, fun y hy => ⟨p, List.mem_of_getElem? h2, hy⟩, fun r hr y hy => ?_, fun r hr y hy => d2 r hr y hy, d1, by rw [hmv]; exact h3, ?_, ?_, fun V hV => ?_⟩
   ·rcases List.mem_or_eq_of_mem_set hr with hr | rfl
    ·exact ⟨r, hr, hy⟩
    ·exact hy.elim
   ·rintro v (⟨h, _⟩ | ⟨k', e', h, h', rfl⟩)
    ·cases h
    ·cases h
     rw [h1] at h'
     cases h'
     rw [hmv]; exact h4
   ·intro k' e' h h'
    cases h
    rw [h1] at h'
    cases h'
    rfl
   ·obtain ⟨e2, p2, g1, g2, _, _, g5⟩ := EntS_take (V := V) k hE hxk
    rw [h1] at g1
    cases g1
    exact g5 (hV k e rfl h1)
 let f' : Nat → Prop := fun x => x = b ∨ ∃ r ∈ ps', r.fp x
 have hf' : ∀ x, f' x → f x := by
  rintro x (rfl | ⟨r, hr, h⟩)
  ·exact (hf x).2 (.inl rfl)
  ·exact (hf x).2 (.inr (hps' r hr x h))
 let pl' := plus (plus (plus pl i (.obj (.map (some b)) f')) nb p) (nb + 1) q
 let bk' : List (Nat × Blk O) := (nb, .row u (mval es n)) :: (nb + 1, .dead) :: (i, .hol kt u es n nb (nb + 1)) :: σ.bk
 have e1 : i ≠ nb := fun e => by rw [e, hn1] at hi; cases hi
 have e2 : i ≠ nb + 1 := fun e => by rw [e, hn2] at hi; cases hi
 have p1 : pl' nb = p := by simp only [pl']; rw [plus_other _ _ (by omega), plus_same]
 have p2 : pl' (nb + 1) = q := by simp only [pl']; rw [plus_same]
 have p3 : pl' i = .obj (.map (some b)) f' := by simp only [pl']; rw [plus_other _ _ e2, plus_other _ _ e1, plus_same]
 have p4 : ∀ j, j ≠ i → j ≠ nb → j ≠ nb + 1 → pl' j = pl j := fun j h1 h2 h3 => by simp only [pl']; rw [plus_other _ _ h3, plus_other _ _ h2, plus_other _ _ h1]
 have l1 : look bk' nb = some (.row u (mval es n)) := by simp only [bk', look_cons, if_pos]
 have l2 : look bk' (nb + 1) = some .dead := by simp only [bk', look_cons, if_pos]; rw [if_neg (by omega)]
 have l3 : look bk' i = some (.hol kt u es n nb (nb + 1)) := by simp only [bk', look_cons]; rw [if_neg (fun e => e1 e.symm), if_neg (fun e => e2 e.symm), if_pos trivial]
 have l4 : ∀ j, j ≠ i → j ≠ nb → j ≠ nb + 1 → look bk' j = look σ.bk j := fun j h1 h2 h3 => by simp only [bk', look_cons]; rw [if_neg (fun e => h2 e.symm), if_neg (fun e => h3 e.symm), if_neg (fun e => h1 e.symm)]
 have hli : liveAt σ.bk i := ⟨B, hi, hlive⟩
 have hbf : ∀ x, (∃ r ∈ ps, r.fp x) → x ≠ b := fun x ⟨r, hr, h⟩ e => hap r hr (e ▸ h)
 have hk : Keeps σ.bk bk' pl pl' := by
  intro j Bj hj
  by_cases h1 : j = i
  ·subst h1
   rw [hi] at hj
   cases hj
   exact ⟨by rw [hp, p3]; exact ⟨f', rfl⟩, _, l3, (by rintro t n ⟨ys, h | h, _⟩ <;> cases h), (fun ⟨_, h⟩ => by cases h), fun _ => hO⟩
  ·have h2 : j ≠ nb := fun e => by rw [e, hn1] at hj; cases hj
   have h3 : j ≠ nb + 1 := fun e => by rw [e, hn2] at hj; cases hj
   exact ⟨by rw [p4 j h1 h2 h3]; exact Pl.same_refl _, Bj, by rw [l4 j h1 h2 h3]; exact hj, fun _ _ h => h, id, id⟩
 have hM := mem_gen hR.mem (w' := w') (bk' := bk') (pl' := pl') (fun j => j = i ∨ j = nb ∨ j = nb + 1) (hx.mono fun _ _ h => h.elim) ?_ hk ?_ ?_ ?_ ?_ ?_ ?_
 ·have own : ∀ v, ((n = none ∧ v = .slice none 0 0) ∨ ∃ k e, n = some k ∧ me.toList[k]? = some e ∧ v = e.val) → CR w' (RO cx w' bk' pl') bk' pl' (.own nb) v := fun v hv => by
   have ho := hval v hv
   refine ⟨ownV_one ho, _, l1, fun t' m hm => ?_⟩
   obtain ⟨zs, h1 | h1, h2⟩ := hm <;> cases h1
   rw [p1, ← h2]; exact ho
  refine ⟨pl', ⟨hM, hk⟩, fun h => own _ (.inl ⟨h, rfl⟩), fun k e h h' => ⟨own _ (.inr ⟨k, e, h, h', rfl⟩), rfl, _, l2, e.born, 0, ?_, rfl⟩⟩
  rw [p2]; exact hstamp.1 k e h h'
 ·intro x hxl hx'
  exact hx.keep x hxl fun e => hx' i (.inl rfl) hli (by rw [hp]; exact (hf x).2 (.inl e))
 ·intro j Bj hj hu
  simp only [not_or] at hu
  exact ⟨by rw [l4 j hu.1 hu.2.1 hu.2.2] at hj; exact hj, p4 j hu.1 hu.2.1 hu.2.2⟩
 ·intro j hu hl x hxf
  have inf : ∀ x, f x → x < w'.heap.size ∧ (w.heap.size ≤ x ∨ ∃ k, (k = i ∨ k = nb ∨ k = nb + 1) ∧ liveAt σ.bk k ∧ (pl k).fp x) := fun x hx0 => by
   have h0 : (pl i).fp x := by rw [hp]; exact hx0
   exact ⟨Nat.lt_of_lt_of_le (hR.mem.bound i hli x h0).1 hx.size, .inr ⟨i, .inl rfl, hli, h0⟩⟩
  rcases hu with rfl | rfl | rfl
  ·rw [p3] at hxf
   exact inf x (hf' x hxf)
  ·rw [p1] at hxf
   exact inf x ((hf x).2 (.inr (hpf x hxf)))
  ·obtain ⟨Bj, h1, h2⟩ := hl
   rw [l2] at h1
   cases h1
   exact h2.elim
 ·intro j j' hu hu' hl hl' hjj x hxf hxf'
  have nd : ∀ j, liveAt bk' j → j ≠ nb + 1 := fun j ⟨Bj, h1, h2⟩ e => by rw [e, l2] at h1; cases h1; exact h2
  have key : ∀ x, p.fp x → f' x → False := by
   rintro x h1 (rfl | ⟨r, hr, h2⟩)
   ·exact hbf x (hpf x h1) rfl
   ·exact hdis r hr x h1 h2
  rcases hu with rfl | rfl | rfl
  ·rcases hu' with rfl | rfl | rfl
   ·exact hjj rfl
   ·rw [p3] at hxf; rw [p1] at hxf'
    exact key x hxf' hxf
   ·exact nd _ hl' rfl
  ·rcases hu' with rfl | rfl | rfl
   ·rw [p1] at hxf; rw [p3] at hxf'
    exact key x hxf hxf'
   ·exact hjj rfl
   ·exact nd _ hl' rfl
  ·exact nd _ hl rfl
 ·intro hRO hRw j Bj hu hj
  rcases hu with rfl | rfl | rfl
  ·rw [l3] at hj
   cases hj
   refine ⟨hkf, hz, ⟨_, l2⟩, b, me, clock, ps', f', p3, hh, fun x => Iff.rfl, hst, ?_, hdj', fun r hr h => ?_, fun k hk' => ?_⟩
   ·refine EntH_mono hRO hRw (V := CR w' (RO cx w' bk' pl') bk' pl' (.own nb)) (fun _ h => h) (fun r hr x hx0 => hx.keep x ?_ ?_) (hstamp.2 _ fun k e h h' => ?_)
    ·have h0 : (pl j).fp x := by rw [hp]; exact (hf x).2 (.inr (hps' r hr x hx0))
     exact (hR.mem.bound j hli x h0).1
    ·exact hbf x (hps' r hr x hx0)
    ·have ho := hval e.val (.inr ⟨k, e, h, h', rfl⟩)
     refine ⟨ownV_one ho, _, l1, fun t' m hm => ?_⟩
     obtain ⟨zs, h1 | h1, h2⟩ := hm <;> cases h1
     rw [p1, ← h2]; exact ho
   ·obtain ⟨r', hr', h'⟩ := hps' r hr b h
    exact hap r' hr' h'
   ·obtain ⟨x, hxk⟩ := hn k hk'
    obtain ⟨e, p0, h1, _⟩ := EntS_take (V := fun v => v = v) k hE hxk
    exact ⟨e, 0, h1, by rw [p2]; exact hstamp.1 k e hk' h1⟩
  ·rw [l1] at hj
   cases hj
   refine ⟨hz, ?_⟩
   rw [p1]
   refine RowAt_mono hRO hRw (Pl.same_refl _) (fun x hx0 => hx.keep x ?_ ?_) hrow
   ·have h0 : (pl i).fp x := by rw [hp]; exact (hf x).2 (.inr (hpf x hx0))
    exact (hR.mem.bound i hli x h0).1
   ·exact hbf x (hpf x hx0)
  ·rw [l2] at hj
   cases hj
   trivial
 ·intro hRO j t xs hu hj
  rcases hu with rfl | rfl | rfl
  ·rw [l3] at hj; cases hj
  ·rw [l1] at hj; cases hj
  ·rw [l2] at hj; cases hj
 ·intro j hu hj
  rcases hu with rfl | rfl | rfl
  ·rw [hi] at hj; cases hj
  ·exact h64
  ·omega
theorem give_rel (hR : Rel cx σ a w pl) {i j j0 h : Nat} {kt u : Ty} {es : List (kt.den × List u.den)} {n : Option Nat} {xs : List u.den} (hi : look σ.bk i = some (.hol kt u es n j0 h)) (hj : look σ.bk j = some (.row u xs)) :
  ∃ b me clock f ps, pl i = .obj (.map (some b)) f ∧ w.heap[b]? = some (.map me clock) ∧ Stamps me.toList clock ∧ EntH w (RO cx w σ.bk pl) kt u (CR w (RO cx w σ.bk pl) σ.bk pl (.own j0)) n es me.toList ps ∧ (∀ k, n = some k → ∃ e c, me.toList[k]? = some e ∧ pl h = .at e.born c) ∧
  ∀ (w' : World) (me' : Array MapEntry), Ext (fun x => x ≠ b) w w' → w'.heap[b]? = some (.map me' clock) → (∀ v : Value, ∀ k e, n = some k → me.toList[k]? = some e → (k < es.length → ownV (pl j) xs.length v ∧ me'.toList = me.toList.set k { e with val := v }) ∨ True) →
  (∃ v, (∀ k e, n = some k → me.toList[k]? = some e → ownV (pl j) xs.length v ∧ me'.toList = me.toList.set k { e with val := v }) ∧ ((n = none ∨ ∃ k, n = some k ∧ me.toList[k]? = none) → me'.toList = me.toList)) →
  ∃ pl', (Mem cx w' ((i, .obj (.mapS kt u) (mput es n xs)) :: (j, .dead) :: σ.bk) pl' ∧ (∀ b, RO cx w σ.bk pl b → RO cx w' ((i, .obj (.mapS kt u) (mput es n xs)) :: (j, .dead) :: σ.bk) pl' b) ∧ (∀ b, RO cx w σ.bk pl b → w'.heap[b]? = w.heap[b]?)) ∧
   Keeps σ.bk ((i, .obj (.mapS kt u) (mput es n xs)) :: (j, .dead) :: σ.bk) pl pl' := by
 obtain ⟨h0, hz, ⟨Bh, hBh⟩, b, me, clock, ps, f, h1, h2, h3, h4, h5, h6, h7, h8⟩ := hR.mem.blocks i _ hi
 refine ⟨b, me, clock, f, ps, h1, h2, h4, h5, h8, fun w' me' hx hh _ hv => ?_⟩
 have hrow := (hR.mem.blocks j _ hj).2
 have hij : i ≠ j := fun e => by rw [e, hj] at hi; cases hi
 have hli : liveAt σ.bk i := ⟨_, hi, trivial⟩
 have hlj : liveAt σ.bk j := ⟨_, hj, trivial⟩
 have hdj : ∀ x, f x → ¬ (pl j).fp x := fun x hx0 => hR.mem.disj i j hli hlj hij x (by rw [h1]; exact hx0)
 obtain ⟨ps', hE, hps', hD, hap⟩ : ∃ ps', EntS w (RO cx w σ.bk pl) kt u (mput es n xs) me'.toList ps' ∧ (∀ p ∈ ps', ∀ x, p.fp x → f x ∨ (pl j).fp x) ∧ Disj ps' ∧ ∀ p ∈ ps', ¬ p.fp b := by
  obtain ⟨v, hv1, hv2⟩ := hv
  have old : ∀ p ∈ ps, ∀ x, p.fp x → f x ∨ (pl j).fp x := fun p hp x hx0 => .inl ((h3 x).2 (.inr ⟨p, hp, hx0⟩))
  cases n with
  | none =>
   rw [hv2 (.inl rfl)]
   exact ⟨ps, EntH_none h5, old, h6, h7⟩
  | some k =>
   rcases EntH_put k h5 with ⟨g1, g2⟩ | ⟨x, e, g1, g2, g3, g4, g5⟩
   ·have hme : me.toList[k]? = none := by
     rw [List.getElem?_eq_none_iff] at g1 ⊢
     rw [EntS_length g2]; exact g1
    rw [hv2 (.inr ⟨k, rfl, hme⟩), show mput es (some k) xs = es by simp [mput, g1]]
    exact ⟨ps, g2, old, h6, h7⟩
   ·obtain ⟨k1, k2⟩ := hv1 k e rfl g2
    rw [k2, show mput es (some k) xs = es.set k (x.1, xs) by simp [mput, g1]]
    refine ⟨ps.set k (pl j), g5 xs (pl j) v hrow k1, fun p hp x' hx' => ?_, Disj_lay h6 fun q hq x' hx' hq' => hdj x' ((h3 x').2 (.inr ⟨q, hq, hq'⟩)) hx', fun p hp hb => ?_⟩
    ·rcases List.mem_or_eq_of_mem_set hp with hp | rfl
     ·exact old p hp x' hx'
     ·exact .inr hx'
    ·rcases List.mem_or_eq_of_mem_set hp with hp | rfl
     ·exact h7 p hp hb
     ·exact hdj b ((h3 b).2 (.inl rfl)) hb
 let f' : Nat → Prop := fun x => x = b ∨ ∃ r ∈ ps', r.fp x
 have hf' : ∀ x, f' x → f x ∨ (pl j).fp x := by
  rintro x (rfl | ⟨r, hr, h⟩)
  ·exact .inl ((h3 x).2 (.inl rfl))
  ·exact hps' r hr x h
 let pl' := plus pl i (.obj (.map (some b)) f')
 let bk' : List (Nat × Blk O) := (i, .obj (.mapS kt u) (mput es n xs)) :: (j, .dead) :: σ.bk
 have p1 : pl' i = .obj (.map (some b)) f' := plus_same _ _ _
 have p2 : ∀ k, k ≠ i → pl' k = pl k := fun k hk => plus_other _ _ hk
 have l1 : look bk' i = some (.obj (.mapS kt u) (mput es n xs)) := by simp only [bk', look_cons, if_pos]
 have l2 : look bk' j = some .dead := by simp only [bk', look_cons]; rw [if_neg hij, if_pos trivial]
 have l3 : ∀ k, k ≠ i → k ≠ j → look bk' k = look σ.bk k := fun k g1 g2 => by simp only [bk', look_cons]; rw [if_neg (fun e => g1 e.symm), if_neg (fun e => g2 e.symm)]
 have hk : Keeps σ.bk bk' pl pl' := by
  intro k Bk hkk
  by_cases g1 : k = i
  ·subst g1
   exact ⟨by rw [h1, p1]; exact ⟨f', rfl⟩, _, l1, (by rintro t n ⟨ys, h | h, _⟩ <;> cases h), (fun ⟨_, h⟩ => by cases h), fun _ => by rw [hi] at hkk; cases hkk; rfl⟩
  ·by_cases g2 : k = j
   ·subst g2
    exact ⟨by rw [p2 k g1]; exact Pl.same_refl _, _, l2, (by rintro t n ⟨ys, h | h, _⟩ <;> cases h), (fun ⟨_, h⟩ => by cases h), (fun h => by cases h)⟩
   ·exact ⟨by rw [p2 k g1]; exact Pl.same_refl _, Bk, by rw [l3 k g1 g2]; exact hkk, fun _ _ h => h, id, id⟩
 have hM := mem_gen hR.mem (w' := w') (bk' := bk') (pl' := pl') (fun k => k = i ∨ k = j) (hx.mono fun _ _ h => h.elim) ?_ hk ?_ ?_ ?_ ?_ ?_ ?_
 ·exact ⟨pl', hM, hk⟩
 ·intro x hxl hx'
  exact hx.keep x hxl fun e => hx' i (.inl rfl) hli (by rw [h1]; exact (h3 x).2 (.inl e))
 ·intro k Bk hkk hu
  simp only [not_or] at hu
  exact ⟨by rw [l3 k hu.1 hu.2] at hkk; exact hkk, p2 k hu.1⟩
 ·intro k hu hl x hxf
  rcases hu with rfl | rfl
  ·rw [p1] at hxf
   rcases hf' x hxf with h | h
   ·have g : (pl k).fp x := by rw [h1]; exact h
    exact ⟨Nat.lt_of_lt_of_le (hR.mem.bound k hli x g).1 hx.size, .inr ⟨k, .inl rfl, hli, g⟩⟩
   ·exact ⟨Nat.lt_of_lt_of_le (hR.mem.bound j hlj x h).1 hx.size, .inr ⟨j, .inr rfl, hlj, h⟩⟩
  ·obtain ⟨Bk, g1, g2⟩ := hl
   rw [l2] at g1
   cases g1
   exact g2.elim
 ·intro k k' hu hu' hl hl' hne x hxf hxf'
  have nd : ∀ k, liveAt bk' k → k ≠ j := fun k ⟨Bk, g1, g2⟩ e => by rw [e, l2] at g1; cases g1; exact g2
  rcases hu with rfl | rfl
  ·rcases hu' with rfl | rfl
   ·exact hne rfl
   ·exact nd _ hl' rfl
  ·exact nd _ hl rfl
 ·intro hRO hRw k Bk hu hkk
  rcases hu with rfl | rfl
  ·rw [l1] at hkk
   cases hkk
   refine ⟨_, f', p1, h0, hz, b, me', clock, ps', rfl, hh, fun x => Iff.rfl, ?_, EntS_mono hRO hRw (fun r hr x hx0 => hx.keep x ?_ fun e => hap r hr (e ▸ hx0)) hE, hD, hap⟩
   ·obtain ⟨v, hv1, hv2⟩ := hv
    cases n with
    | none => rw [hv2 (.inl rfl)]; exact h4
    | some q =>
     cases hq : me.toList[q]? with
     | none => rw [hv2 (.inr ⟨q, rfl, hq⟩)]; exact h4
     | some e => rw [(hv1 q e rfl hq).2]; exact Stamps_map h4 (map_born_set hq rfl)
   ·rcases hps' r hr x hx0 with h | h
    ·exact (hR.mem.bound k hli x (by rw [h1]; exact h)).1
    ·exact (hR.mem.bound j hlj x h).1
  ·rw [l2] at hkk
   cases hkk
   trivial
 ·intro hRO k t ys hu hkk
  rcases hu with rfl | rfl
  ·rw [l1] at hkk; cases hkk
  ·rw [l2] at hkk; cases hkk
 ·intro k hu hkk
  rcases hu with rfl | rfl
  ·rw [hi] at hkk; cases hkk
  ·rw [hj] at hkk; cases hkk
theorem good_lookupS (hR : Rel cx σ a w pl) (hd : ∀ d, o.dst = some d → d < cx.N) {nb : Nat} {t : TypeId} {m x : Operand} {ok : Bool} (ho : o.op = .lookup t m x ok)
  {i : Nat} {kt u : Ty} {es : List (kt.den × List u.den)} {key : kt.den} {tk te b : Nat} {f : Nat → Prop} {me : Array MapEntry} {clock : Nat} {ps : List Pl}
  (h : ((match (generalizing := false) ok with
  | true => .fail
  | false => fresh nb (fresh (Nat.add nb 1) (.wr { sl := putS o.dst (.t (.one (.own nb))), bk := [(nb, .row u (mval es (midx (eqD kt) es key))), (Nat.add nb 1, .dead), (i, .hol kt u es (midx (eqD kt) es key) nb (Nat.add nb 1))] })) : RM O)).to σ wr)
  (hA : AtMapS P cx σ a w pl t m x i kt u es key tk te b f me clock ps) : Good P cx σ a w o wr := by
 cases ok with
 | true => exact h.elim
 | false =>
 obtain ⟨h1, h64, h2⟩ := fresh_to h
 obtain ⟨h3, _, h4⟩ := fresh_to h2
 cases h4
 have hfind := findKey_run hA.keyOk hA.arg w (EntS_keys hA.ents)
 have hchk := hA.keyOk.check w w (fun _ => True) me.isEmpty key _ hA.arg
 obtain ⟨pl', hM, hc1, hc2⟩ := take_rel hR hA.keyOk.flat hA.pos hA.look trivial rfl hA.place hA.fp h1 h3 h64 (Ext.refl _ _) hA.heap hA.stamps hA.ents hA.disj hA.apart (n := midx (eqD kt) es key) (fun k hk => by
  obtain ⟨p, g, _⟩ := midx_some hk
  exact ⟨p, g⟩)
 cases hm : midx (eqD kt) es key with
 | none =>
  rw [hm] at hfind hM hc1 hc2
  refine good_value (v := .slice none 0 0) (w' := w) (pl' := pl') ?_ (rel_gen hR hM.1 hM.2 hd (hc1 rfl))
  simp [execOp, ho, Instr.lookup, hA.eval, run_underlying hA.und, MapKept.run_getObj_map hA.heap, hchk, hfind, hA.zero w, Result.andThen]
 | some j =>
  obtain ⟨p, g1, _⟩ := midx_some hm
  obtain ⟨e, p', g2, _⟩ := EntS_take (V := fun v => v = v) j hA.ents g1
  rw [hm] at hfind hM hc1 hc2
  simp only [Option.bind_some, g2, Option.map_some] at hfind
  refine good_value (v := e.val) (w' := w) (pl' := pl') ?_ (rel_gen hR hM.1 hM.2 hd (hc2 j e rfl g2).1)
  simp [execOp, ho, Instr.lookup, hA.eval, run_underlying hA.und, MapKept.run_getObj_map hA.heap, hchk, hfind, Result.andThen]
theorem midx_append {K V : Type} {eq : K → K → Bool} {k : K} {v : V} (hr : eq k k = true) : ∀ {m : List (K × V)}, midx eq m k = none → midx eq (m ++ [(k, v)]) k = some m.length
 | [], _ => by simp [midx, hr]
 | p :: m, h => by
  unfold midx at h
  cases hp : eq p.1 k with
  | true => rw [hp] at h; cases h
  | false =>
   rw [hp] at h
   simp only [Option.map_eq_none_iff] at h
   rw [List.cons_append]
   unfold midx
   rw [hp, midx_append hr h]
   rfl
theorem EntS_set {R : Nat → Prop} {kt t : Ty} : ∀ {m : List (kt.den × List t.den)} {es : List MapEntry} {ps : List Pl} (k : Nat) {x : kt.den × List t.den} {e : MapEntry} {v : Value}, EntS w R kt t m es ps → m[k]? = some x → es[k]? = some e → TRep w R kt x.1 v →
  EntS w R kt t m (es.set k { e with key := v }) ps
 | y :: m, e0 :: es, p :: ps, 0, x, e, v, h, hx, he, hv => by
  simp only [List.getElem?_cons_zero, Option.some.injEq] at hx he
  subst hx; subst he
  rw [List.set_cons_zero]
  exact ⟨⟨hv, h.1.2⟩, h.2⟩
 | y :: m, e0 :: es, p :: ps, k + 1, x, e, v, h, hx, he, hv => by
  rw [List.set_cons_succ]
  exact ⟨h.1, EntS_set k h.2 (by simpa using hx) (by simpa using he) hv⟩
 | [], _, _, _, _, _, _, _, hx, _, _ => by simp at hx
 | _ :: _, [], _, _, _, _, _, h, _, _, _ => h.elim
 | _ :: _, _ :: _, [], _, _, _, _, h, _, _, _ => h.elim
theorem EntS_append {R : Nat → Prop} {kt t : Ty} : ∀ {m m' : List (kt.den × List t.den)} {es es' : List MapEntry} {ps ps' : List Pl}, EntS w R kt t m es ps → EntS w R kt t m' es' ps' → EntS w R kt t (m ++ m') (es ++ es') (ps ++ ps')
 | [], _, [], _, [], _, _, h => h
 | _ :: _, _, _ :: _, _, _ :: _, _, h, h' => ⟨h.1, EntS_append h.2 h'⟩
 | [], _, [], _, _ :: _, _, h, _ => h.elim
 | [], _, _ :: _, _, _, _, h, _ => h.elim
 | _ :: _, _, [], _, _, _, h, _ => h.elim
 | _ :: _, _, _ :: _, _, [], _, h, _ => h.elim
theorem Disj_append_nil : ∀ {ps : List Pl}, Disj ps → Disj (ps ++ [.nil])
 | [], _ => ⟨by simp, trivial⟩
 | p :: ps, h => ⟨fun q hq b hb hqb => by
   rcases List.mem_append.1 hq with hq | hq
   ·exact h.1 q hq b hb hqb
   ·rw [List.mem_singleton.1 hq] at hqb; exact hqb, Disj_append_nil h.2⟩
theorem good_mapEntry (hT : TTok P cfg.tt) (hR : Rel cx σ a w pl) (hd : ∀ d, o.dst = some d → d < cx.N) {nb : Nat} {t : TypeId} {m x : Operand}
  (ho : o.op = .mapEntry t m x) (h : (opMapEntry cfg nb o.dst t m x : RM O).to σ wr) : Good P cx σ a w o wr := by
 unfold opMapEntry at h
 obtain ⟨i, kt, vt, es, key, tk, te, b, f, me, clock, h1, hA⟩ | ⟨i, kt, u, es, key, tk, te, b, f, me, clock, ps, h1, hA⟩ := mapAt_to hT hR h
 ·exact h1.elim
 obtain ⟨hf1, h64, h2⟩ := fresh_to h1
 obtain ⟨h3, _, h4⟩ := fresh_to h2
 cases h4
 have hfind := findKey_run hA.keyOk hA.arg w (EntS_keys hA.ents)
 have hchk := hA.keyOk.check w w (fun _ => True) false key _ hA.arg
 cases hm : midx (eqD kt) es key with
 | none =>
  have he : ment (eqD kt) es key = es ++ [(key, [])] := by unfold ment; rw [hm]
  have hm' : midx (eqD kt) (es ++ [(key, [])]) key = some es.length := midx_append (hA.keyOk.refl key) hm
  rw [hm] at hfind
  let me' := me.push { key := a.eval x, val := .slice none 0 0, born := clock }
  have hl : me.size = es.length := by rw [← Array.length_toList, EntS_length hA.ents]
  have hent : EntS w (RO cx w σ.bk pl) kt u (es ++ [(key, [])]) me'.toList (ps ++ [.nil]) := by
   simp only [me', Array.toList_push]
   exact EntS_append hA.ents ⟨⟨TRep_flat hA.keyOk.flat hA.arg, rfl, rfl, rfl⟩, trivial⟩
  have hlast : me'.toList[es.length]? = some { key := a.eval x, val := .slice none 0 0, born := clock } := by
   simp only [me', Array.toList_push]
   rw [List.getElem?_append_right (by simp [hl])]
   simp [hl]
  obtain ⟨pl', hM, _, hc2⟩ := take_rel hR hA.keyOk.flat hA.pos hA.look trivial rfl hA.place (ps := ps ++ [.nil]) (fun y => by
    rw [hA.fp y]
    constructor
    ·rintro (h | ⟨p, hp, h⟩)
     ·exact .inl h
     ·exact .inr ⟨p, List.mem_append_left _ hp, h⟩
    ·rintro (h | ⟨p, hp, h⟩)
     ·exact .inl h
     ·rcases List.mem_append.1 hp with hp | hp
      ·exact .inr ⟨p, hp, h⟩
      ·rw [List.mem_singleton.1 hp] at h; exact h.elim) hf1 h3 h64 (w' := setO w b (.map me' (clock + 1))) (setO_Ext w b _) (setO_same hA.heap)
   (by simp only [me', Array.toList_push]; exact Stamps_push hA.stamps _ _) hent (Disj_append_nil hA.disj) (fun p hp hb => by
    rcases List.mem_append.1 hp with hp | hp
    ·exact hA.apart p hp hb
    ·rw [List.mem_singleton.1 hp] at hb; exact hb) (n := some es.length) (fun k hk => by
    cases hk
    exact ⟨(key, []), by simp⟩)
  obtain ⟨c1, c2⟩ := hc2 es.length _ rfl hlast
  have hrun : (Instr.mapEntry t (a.eval m) (a.eval x)).run P w = .ok (.tuple #[.slice none 0 0, .int .i64 clock]) (setO w b (.map me' (clock + 1))) := by
   unfold Instr.mapEntry
   simp only [hA.eval, Sem.run_bind, run_underlying hA.und, Result.andThen_ok, MapKept.run_getObj_map hA.heap, hchk, hfind, Option.bind_none, hA.zero w, MapKept.run_setObj_map _ hA.heap, Sem.run_pure]
   rfl
  rw [he, hm']
  refine good_value (v := .tuple #[.slice none 0 0, .int .i64 clock]) (w' := setO w b (.map me' (clock + 1))) (pl' := pl') (by simp [execOp, ho, hrun]) ?_
  exact rel_gen hR hM.1 hM.2 hd ⟨_, rfl, c1, c2, trivial⟩
 | some j =>
  have he : ment (eqD kt) es key = es := by unfold ment; rw [hm]
  obtain ⟨p, g1, g2, _⟩ := midx_some hm
  obtain ⟨e, p', g3, _⟩ := EntS_take (V := fun v => v = v) j hA.ents g1
  rw [hm] at hfind
  simp only [Option.bind_some, g3, Option.map_some] at hfind
  have g3' : me[j]? = some e := by simpa using g3
  have hkey := (EntS_keys hA.ents).get' g1 g3
  have hks := keyStays_run hA.keyOk hkey hA.arg g2 w
  have hml := toList_modify me j (fun e => { e with key := a.eval x }) g3
  have hpk : p.1 = key := hA.keyOk.eqd p.1 key g2
  let me' := me.modify j fun e => { e with key := a.eval x }
  have hent : EntS w (RO cx w σ.bk pl) kt u es me'.toList ps := by
   simp only [me', hml]
   exact EntS_set j hA.ents g1 g3 (by rw [hpk]; exact TRep_flat hA.keyOk.flat hA.arg)
  have hlast : me'.toList[j]? = some { e with key := a.eval x } := by
   simp only [me', hml]
   rw [List.getElem?_set_self (List.getElem?_eq_some_iff.1 g3).1]
  obtain ⟨pl', hM, _, hc2⟩ := take_rel hR hA.keyOk.flat hA.pos hA.look trivial rfl hA.place hA.fp hf1 h3 h64 (w' := setO w b (.map me' clock)) (setO_Ext w b _) (setO_same hA.heap)
   (by simp only [me', hml]; exact Stamps_map hA.stamps (map_born_set g3 rfl)) hent hA.disj hA.apart (n := some j) (fun k hk => by
    cases hk
    exact ⟨p, g1⟩)
  obtain ⟨c1, c2⟩ := hc2 j _ rfl hlast
  have hrun : (Instr.mapEntry t (a.eval m) (a.eval x)).run P w = .ok (.tuple #[e.val, .int .i64 e.born]) (setO w b (.map me' clock)) := by
   unfold Instr.mapEntry
   simp only [hA.eval, Sem.run_bind, run_underlying hA.und, Result.andThen_ok, MapKept.run_getObj_map hA.heap, hchk, hfind, g3', Option.map_some, Option.getD_some, hks, MapKept.run_setObj_map _ hA.heap, Sem.run_pure]
   rfl
  rw [he, hm]
  refine good_value (v := .tuple #[e.val, .int .i64 e.born]) (w' := setO w b (.map me' clock)) (pl' := pl') (by simp [execOp, ho, hrun]) ?_
  exact rel_gen hR hM.1 hM.2 hd ⟨_, rfl, c1, c2, trivial⟩
theorem findIdx_born {es : Array MapEntry} {clock k : Nat} {e : MapEntry} (hs : Stamps es.toList clock) (hk : es.toList[k]? = some e) : es.findIdx? (fun x => (x.born : Int) == (e.born : Int)) = some k := by
 have hk' : es[k]? = some e := by simpa using hk
 obtain ⟨hlt, hget⟩ := Array.getElem?_eq_some_iff.1 hk'
 rw [Array.findIdx?_eq_some_iff_getElem]
 refine ⟨hlt, by simp [hget], fun j hj => ?_⟩
 have h1 := List.pairwise_iff_getElem.1 hs.1 j k (by simp; omega) (by simpa using hlt) hj
 simp only [Array.getElem_toList, hget] at h1
 simp
 omega
theorem good_entryStore (hR : Rel cx σ a w pl) (hd : ∀ d, o.dst = some d → d < cx.N) {t : TypeId} {m s x : Operand}
  (ho : o.op = .entryStore t m s x) (h : (opEntryStore o.dst m s x : RM O).to σ wr) : Good P cx σ a w o wr := by
 unfold opEntryStore at h
 obtain ⟨c, h1, h2⟩ := evC_to h
 have hc := opd_CR hR h1
 cases c with
 | obj i =>
  simp only at h2
  obtain ⟨c', h3, h4⟩ := evC_to h2
  have hc' := opd_CR hR h3
  cases c' with
  | gi g =>
   simp only at h4
   obtain ⟨c2, h5, h6⟩ := evC_to h4
   have hc2 := opd_CR hR h5
   cases c2 with
   | own j' =>
    simp only [RM.to] at h6
    obtain ⟨_, B, hB, hB2⟩ := hc
    rw [hB] at h6
    cases B with
    | hol kt u es n j0 hs =>
     simp only at h6
     cases hg : Nat.beq g hs with
     | false => rw [hg] at h6; exact h6.elim
     | true =>
     have := Nat.eq_of_beq_eq_true hg
     subst this
     rw [hg] at h6
     simp only [RM.to] at h6
     cases hr : rowW u (look σ.bk j') with
     | none => rw [hr] at h6; exact h6.elim
     | some xs =>
     rw [hr] at h6
     simp only at h6
     have hl := rowW_some hr
     cases h64 : Nat.ble 64 j' with
     | false => rw [h64] at h6; exact h6.elim
     | true =>
     rw [h64] at h6
     simp only [RM.to] at h6
     obtain ⟨hsm, h7⟩ := h6
     cases h7
     obtain ⟨b, me, clock, f, ps, g1, g2, g3, g4, g5, g6⟩ := give_rel hR hB hl
     obtain ⟨f', q3⟩ := hB2 rfl
     rw [g1] at q3
     have hm : a.eval m = .map (some b) := by
      cases hq : a.eval m <;> rw [hq] at q3 <;> cases q3
      rfl
     cases n with
     | none => cases hsm
     | some k =>
      obtain ⟨e, c, k1, k2⟩ := g5 k rfl
      obtain ⟨_, _, _, b', c'', k3, k4⟩ := hc'
      rw [k2] at k3
      cases k3
      have hown := own_of hR (.inl hl) hc2
      have k1' : me[k]? = some e := by simpa using k1
      have hml := toList_modify me k (fun e => { e with val := a.eval x }) k1
      obtain ⟨pl', hM, hk⟩ := g6 (setO w b (.map (me.modify k fun e => { e with val := a.eval x }) clock)) _ (setO_Ext w b _) (setO_same g2) (fun _ _ _ _ _ => .inr trivial)
       ⟨a.eval x, fun k' e' hk' he' => by
        cases hk'
        rw [k1] at he'
        cases he'
        exact ⟨hown, hml⟩, fun hh => by
        rcases hh with hh | ⟨k', hk', hh⟩
        ·cases hh
        ·cases hk'
         rw [k1] at hh; cases hh⟩
      refine good_skip (w' := setO w b (.map (me.modify k fun e => { e with val := a.eval x }) clock)) (pl' := pl') ?_ (rel_gen hR hM hk hd rfl)
      have hfi := findIdx_born g3 k1
      simp only [execOp, ho]
      unfold Instr.entryStore
      simp [hm, k4, MapKept.run_getObj_map g2, asInt, asIntOf, hfi, MapKept.run_setObj_map _ g2, setO]
    | _ => exact h6.elim
   | _ => exact h6.elim
  | _ => exact h4.elim
 | _ => exact h2.elim
theorem close_one (hR : Rel cx σ a w pl) (i : Nat) : ∃ pl', Rel cx (match look σ.bk i with
  | some (.hol kt u es n j _) => match Nat.ble 64 j with
   | true => match rowW u (look σ.bk j) with
    | some xs => (⟨σ.sl, (i, .obj (.mapS kt u) (mput es n xs)) :: (j, .dead) :: σ.bk⟩ : St O)
    | none => σ
   | false => σ
  | _ => σ) a w pl' := by
 split
 ·rename_i kt u es n j hs hi
  split
  ·split
   ·rename_i xs hr
    have hl := rowW_some hr
    obtain ⟨b, me, clock, f, ps, g1, g2, g3, g4, g5, g6⟩ := give_rel hR hi hl
    obtain ⟨pl', hM, hk⟩ := g6 w me (Ext.refl _ _) g2 (fun _ _ _ _ _ => .inr trivial) (by
     cases n with
     | none => exact ⟨undef, fun k e hk => by (cases hk), fun _ => rfl⟩
     | some k =>
      cases hk : me.toList[k]? with
      | none => exact ⟨undef, fun k' e' hk' he' => (by cases hk'; rw [hk] at he'; cases he'), fun _ => rfl⟩
      | some e =>
       refine ⟨e.val, fun k' e' hk' he' => ?_, fun _ => rfl⟩
       cases hk'
       rw [hk] at he'
       cases he'
       have hown : CR w (RO cx w σ.bk pl) σ.bk pl (.own j) e.val := by
        rcases EntH_put k g4 with ⟨q1, q2⟩ | ⟨x, e', q1, q2, _, q4, _⟩
        ·exfalso
         rw [List.getElem?_eq_none_iff] at q1
         have := (List.getElem?_eq_some_iff.1 hk).1
         rw [EntS_length q2] at this
         omega
        ·rw [hk] at q2
         cases q2
         exact q4
       refine ⟨own_of hR (.inl hl) hown, ?_⟩
       apply List.ext_getElem?
       intro q
       rw [List.getElem?_set]
       split
       ·rename_i hkq
        subst hkq
        rw [if_pos (List.getElem?_eq_some_iff.1 hk).1, hk]
       ·rfl)
    refine ⟨pl', hM.1, fun t s hs' => ?_, hR.defers, hR.size⟩
    obtain ⟨q1, q2⟩ := hR.slots t s hs'
    exact ⟨q1, SR_mono hM.2.1 hM.2.2 hk _ _ q2⟩
   ·exact ⟨pl, hR⟩
  ·exact ⟨pl, hR⟩
 ·exact ⟨pl, hR⟩
theorem closeL_rel : ∀ (bs : List (Nat × Blk O)) {σ : St O} {pl : Nat → Pl}, Rel cx σ a w pl → ∃ pl', Rel cx (closeL bs σ) a w pl'
 | [], _, pl, hR => ⟨pl, hR⟩
 | (i, .hol _ _ _ _ _ _) :: bs, σ, pl, hR => by
  obtain ⟨pl1, h1⟩ := close_one hR i
  exact closeL_rel bs h1
 | (_, .row _ _) :: bs, _, pl, hR => closeL_rel bs hR
 | (_, .fro _ _) :: bs, _, pl, hR => closeL_rel bs hR
 | (_, .box _) :: bs, _, pl, hR => closeL_rel bs hR
 | (_, .obj _ _) :: bs, _, pl, hR => closeL_rel bs hR
 | (_, .dead) :: bs, _, pl, hR => closeL_rel bs hR
 | (_, .rng _ _ _) :: bs, _, pl, hR => closeL_rel bs hR
 | (_, .rngH _ _ _ _ _) :: bs, _, pl, hR => closeL_rel bs hR
 | (_, .itr _ _) :: bs, _, pl, hR => closeL_rel bs hR
 | (_, .hoD _ _ _ _ _ _ _) :: bs, _, pl, hR => closeL_rel bs hR
theorem close_rel (hR : Rel cx σ a w pl) : ∃ pl', Rel cx σ.close a w pl' := closeL_rel σ.bk hR
theorem good_lookup (hT : TTok P cfg.tt) (hR : Rel cx σ a w pl) (hd : ∀ d, o.dst = some d → d < cx.N) {nb : Nat} {t : TypeId} {m x : Operand} {ok : Bool}
  (ho : o.op = .lookup t m x ok) (h : (opLookup cfg nb o.dst t m x ok : RM O).to σ wr) : Good P cx σ a w o wr := by
 unfold opLookup at h
 obtain ⟨i, kt, vt, es, key, tk, te, b, f, me, clock, h1, hA⟩ | ⟨i, kt, u, es, key, tk, te, b, f, me, clock, ps, h1, hA⟩ := mapAt_to hT hR h
 rotate_left
 ·exact good_lookupS hR hd ho h1 hA
 obtain ⟨ei, he1, he2⟩ := hA.val
 obtain ⟨z, hz1, hz2⟩ := he1.zero1 vt he2
 have hfind := findKey_run hA.keyOk hA.arg w (rel_keys hA.rel)
 have hchk := hA.keyOk.check w w (fun _ => True) me.isEmpty key _ hA.arg
 obtain ⟨v, bb, hv, hrun⟩ : ∃ v bb, (TRep w (RO cx w σ.bk pl) vt (mgetD (eqD kt) es key vt.zero) v ∧ bb = mhas (eqD kt) es key) ∧
   (Instr.lookup t (a.eval m) (a.eval x) ok).run P w = .ok (if ok then .tuple #[v, .bool bb] else v) w := by
  cases hm : midx (eqD kt) es key with
  | none =>
   obtain ⟨g1, _, _⟩ := midx_none hm
   rw [hm] at hfind
   refine ⟨z, false, ⟨by unfold mgetD; rw [g1]; exact hz2 w _, by unfold mhas; rw [g1]⟩, ?_⟩
   unfold Instr.lookup
   simp only [hA.eval, Sem.run_bind, run_underlying hA.und, Result.andThen_ok, MapKept.run_getObj_map hA.heap, Sem.run_pure, hchk, hfind, Option.bind_none, hz1 w]
  | some j =>
   obtain ⟨p, g1, g2, g3, _, _⟩ := midx_some hm
   obtain ⟨e, g4, g5⟩ := hA.rel.get j p g1
   rw [hm] at hfind
   simp only [Option.bind_some, g4, Option.map_some] at hfind
   refine ⟨e.val, true, ⟨by unfold mgetD; rw [g3]; exact g5.2, by unfold mhas; rw [g3]⟩, ?_⟩
   unfold Instr.lookup
   simp only [hA.eval, Sem.run_bind, run_underlying hA.und, Result.andThen_ok, MapKept.run_getObj_map hA.heap, Sem.run_pure, hchk, hfind]
 obtain ⟨hv, rfl⟩ := hv
 cases ok with
 | true =>
  cases h1
  refine good_value (v := .tuple #[v, .bool (mhas (eqD kt) es key)]) (w' := w) (pl' := pl) (by simp [execOp, ho, hrun]) (rel_put hR hd ?_)
  exact ⟨_, rfl, tOf_TR hv, rfl, trivial⟩
 | false =>
  cases h1
  exact good_value (v := v) (w' := w) (pl' := pl) (by simp [execOp, ho, hrun]) (rel_put hR hd (tOf_TR hv))
theorem good_mapUpdate (hT : TTok P cfg.tt) (hR : Rel cx σ a w pl) (hd : ∀ d, o.dst = some d → d < cx.N) {t : TypeId} {m x y : Operand}
  (ho : o.op = .mapUpdate t m x y) (h : (opMapUpdate cfg o.dst t m x y : RM O).to σ wr) : Good P cx σ a w o wr := by
 unfold opMapUpdate at h
 obtain ⟨i, kt, vt, es, key, tk, te, b, f, me, clock, h1, hA⟩ | ⟨i, kt, u, es, key, tk, te, b, f, me, clock, ps, h1, hA⟩ := mapAt_to hT hR h
 rotate_left
 ·exact h1.elim
 obtain ⟨yv, h2, h3⟩ := evT_to h1
 cases hag : beqB (T.isAg yv) vt.isAgg with
 | false => rw [hag] at h3; exact h3.elim
 | true =>
 rw [hag] at h3
 simp only at h3
 obtain ⟨val, fz, h4, h5, h6⟩ := ofCells_to hR _ _ _ _ h3
 have hval := TRep_of (opd_TR hR h2) h6 hag
 cases hmem : memN i (fz.map (·.1)) with
 | true => rw [hmem] at h4; exact h4.elim
 | false =>
 rw [hmem] at h4
 simp only at h4
 cases hfz : fzOk fz with
 | false => rw [hfz] at h4; exact h4.elim
 | true =>
 rw [hfz] at h4
 cases h4
 obtain ⟨hRf, hkf, hROf⟩ := rel_freeze hR h5 (fzOk_mem hfz)
 have hnot : look fz i = none := by
  rw [look_none]
  intro x hx
  have : memN i (fz.map (·.1)) = true := (memN_iff _ _).2 (List.mem_map.2 ⟨(i, x), hx, rfl⟩)
  rw [hmem] at this; cases this
 have hBf : look (fz ++ σ.bk) i = some (.obj (.map kt vt) es) := by rw [look_append, hnot]; simpa using hA.look
 have hval1 : TRep w (RO cx w (fz ++ σ.bk) pl) vt val (a.eval y) := TRep_mono hROf (fun _ _ => rfl) hval
 have hrel1 : All2 (fun (p : kt.den × vt.den) e => TRep w (RO cx w (fz ++ σ.bk) pl) kt p.1 e.key ∧ TRep w (RO cx w (fz ++ σ.bk) pl) vt p.2 e.val) es me.toList := by
  obtain ⟨v', f', q1, q2⟩ := hRf.mem.blocks i _ hBf
  have hq : pl i = _ := hA.place
  rw [q1] at hq
  cases hq
  obtain ⟨_, b', me', clock', q4, q5, q6, q7, q8⟩ := q2
  cases q4
  rw [hA.heap] at q5
  cases q5
  exact q8
 have hkey1 : TRep w (RO cx w (fz ++ σ.bk) pl) kt key (a.eval x) := TRep_flat hA.keyOk.flat hA.arg
 have hfind := findKey_run hA.keyOk hA.arg w (rel_keys hA.rel)
 have hchk := hA.keyOk.check w w (fun _ => True) false key _ hA.arg
 obtain ⟨me', clock', hrun, hst, hall⟩ : ∃ me' clock', (Instr.mapUpdate t (a.eval m) (a.eval x) (a.eval y)).run P w = .ok () (setO w b (.map me' clock')) ∧ Stamps me'.toList clock' ∧
   All2 (fun (p : kt.den × vt.den) e => TRep w (RO cx w (fz ++ σ.bk) pl) kt p.1 e.key ∧ TRep w (RO cx w (fz ++ σ.bk) pl) vt p.2 e.val) (mset (eqD kt) es key val) me'.toList := by
  cases hm : midx (eqD kt) es key with
  | none =>
   obtain ⟨_, g2, _⟩ := midx_none hm
   rw [hm] at hfind
   refine ⟨me.push { key := a.eval x, val := a.eval y, born := clock }, clock + 1, ?_, by rw [Array.toList_push]; exact Stamps_push hA.stamps _ _, ?_⟩
   ·unfold Instr.mapUpdate
    simp only [hA.eval, Sem.run_bind, run_underlying hA.und, Result.andThen_ok, MapKept.run_getObj_map hA.heap, hchk, hfind, Option.bind_none, MapKept.run_setObj_map _ hA.heap]
    rfl
   ·rw [g2, Array.toList_push]
    exact hrel1.append ⟨⟨hkey1, hval1⟩, trivial⟩
  | some j =>
   obtain ⟨p, g1, g2, _, g4, _⟩ := midx_some hm
   obtain ⟨e, g5, g6⟩ := hrel1.get j p g1
   rw [hm] at hfind
   simp only [Option.bind_some, g5, Option.map_some] at hfind
   have g5' : me[j]? = some e := by simpa using g5
   have hks := keyStays_run hA.keyOk g6.1 hA.arg g2 w
   have hml := toList_modify me j (fun e => { e with key := a.eval x, val := a.eval y }) g5
   refine ⟨me.modify j fun e => { e with key := a.eval x, val := a.eval y }, clock, ?_, ?_, ?_⟩
   ·unfold Instr.mapUpdate
    simp only [hA.eval, Sem.run_bind, run_underlying hA.und, Result.andThen_ok, MapKept.run_getObj_map hA.heap, hchk, hfind, g5', Option.map_some, Option.getD_some, hks, MapKept.run_setObj_map _ hA.heap]
    rfl
   ·rw [hml]
    exact Stamps_map hA.stamps (map_born_set g5 rfl)
   ·rw [g4, hml]
    have he := hA.keyOk.eqd p.1 key g2
    exact hrel1.set j ⟨by rw [he]; exact hkey1, hval1⟩
 have hM := mem_obj hRf (σ := ⟨σ.sl, fz ++ σ.bk⟩) hBf trivial (B' := .obj (.map kt vt) (mset (eqD kt) es key val)) trivial (w' := setO w b (.map me' clock'))
  ((setO_Ext w b _).mono fun x _ hx e => hx (by rw [hA.place]; exact (hA.fp x).2 e))
  (by rintro t n ⟨ys, h | h, hn⟩ <;> cases h) (fun ⟨_, h⟩ => by cases h) (fun _ => rfl)
  (fun hRO hRw hk => ⟨_, f, hA.place, hA.keyOk.flat, b, me', clock', rfl, setO_same hA.heap, hA.fp, hst, hall.mono fun p e h => ⟨TRep_mono hRO hRw h.1, TRep_mono hRO hRw h.2⟩⟩)
 have hfin := rel_gen hRf hM.1 hM.2 (dst := o.dst) hd (s := undefS) (v := undef) rfl
 refine good_skip (w' := setO w b (.map me' clock')) (pl' := pl) (by simp [execOp, ho, hrun]) ?_
 simp only [St.app, capp, capp_eq] at hfin ⊢
 exact hfin
theorem good_delete (hT : TTok P cfg.tt) (hR : Rel cx σ a w pl) (hd : ∀ d, o.dst = some d → d < cx.N) {t t' : TypeId} {m x : Operand}
  (ho : o.op = .call { callee := .builtin .delete, args := #[m, x], argTypes := #[t, t'] }) (h : (opDelete cfg o.dst t m x : RM O).to σ wr) : Good P cx σ a w o wr := by
 unfold opDelete at h
 obtain ⟨i, kt, vt, es, key, tk, te, b, f, me, clock, h1, hA⟩ | ⟨i, kt, u, es, key, tk, te, b, f, me, clock, ps, h1, hA⟩ := mapAt_to hT hR h
 rotate_left
 ·exact h1.elim
 cases h1
 have hfind := findKey_run hA.keyOk hA.arg w (rel_keys hA.rel)
 have hchk := hA.keyOk.check w w (fun _ => True) me.isEmpty key _ hA.arg
 obtain ⟨me', hrun, hst, hall⟩ : ∃ me', (Builtin.delete_ #[t, t'] o.type #[a.eval m, a.eval x]).run P w = .ok (.tuple #[]) (setO w b (.map me' clock)) ∧ Stamps me'.toList clock ∧
   All2 (fun (p : kt.den × vt.den) e => TRep w (RO cx w σ.bk pl) kt p.1 e.key ∧ TRep w (RO cx w σ.bk pl) vt p.2 e.val) (mdel (eqD kt) es key) me'.toList := by
  cases hm : midx (eqD kt) es key with
  | none =>
   obtain ⟨_, _, g3⟩ := midx_none hm
   rw [hm] at hfind
   refine ⟨me, ?_, hA.stamps, by rw [g3]; exact hA.rel⟩
   unfold Builtin.delete_
   simp [hA.eval, run_underlying hA.und, MapKept.run_getObj_map hA.heap, hchk, hfind, MapKept.run_setObj_map _ hA.heap, setO]
  | some j =>
   obtain ⟨p, g1, _, _, _, g4⟩ := midx_some hm
   obtain ⟨e, g5, _⟩ := hA.rel.get j p g1
   rw [hm] at hfind
   simp only [Option.bind_some, g5, Option.map_some] at hfind
   have hml : (me.eraseIdxIfInBounds j).toList = me.toList.eraseIdx j := by
    have := (List.getElem?_eq_some_iff.1 g5).1
    simp [Array.toList_eraseIdxIfInBounds]
   refine ⟨me.eraseIdxIfInBounds j, ?_, by rw [hml]; exact Stamps_erase hA.stamps j, by rw [hml, g4]; exact hA.rel.erase j⟩
   unfold Builtin.delete_
   simp [hA.eval, run_underlying hA.und, MapKept.run_getObj_map hA.heap, hchk, hfind, MapKept.run_setObj_map _ hA.heap, setO]
 have hM := mem_obj hR hA.look trivial (B' := .obj (.map kt vt) (mdel (eqD kt) es key)) trivial (w' := setO w b (.map me' clock))
  ((setO_Ext w b _).mono fun x _ hx e => hx (by rw [hA.place]; exact (hA.fp x).2 e))
  (by rintro t n ⟨ys, h | h, hn⟩ <;> cases h) (fun ⟨_, h⟩ => by cases h) (fun _ => rfl)
  (fun hRO hRw hk => ⟨_, f, hA.place, hA.keyOk.flat, b, me', clock, rfl, setO_same hA.heap, hA.fp, hst, hall.mono fun p e h => ⟨TRep_mono hRO hRw h.1, TRep_mono hRO hRw h.2⟩⟩)
 refine good_value (v := .tuple #[]) (w' := setO w b (.map me' clock)) (pl' := pl) (by simp [execOp, ho, resolve, invoke, builtin, hrun]) ?_
 exact rel_gen hR hM.1 hM.2 hd ⟨#[], rfl, trivial⟩
end
end Go.BB
