/- A symbolic machine for the model's code, and what it shows of this seat's functions. No conditions. -/
import Derived.Test.YtnofmeckcimodaaFOps2
set_option linter.unusedSimpArgs false
set_option linter.unusedVariables false
namespace Go.BB
open Go
section
variable {O : ObjK} {cx : Cx} {σ : St O} {a : Act} {w : World} {pl : Nat → Pl} {cfg : Cfg O} {P : Program} {o : Oper} {wr : Wr O}

def plus (pl : Nat → Pl) (i : Nat) (p : Pl) : Nat → Pl := fun j => if j = i then p else pl j
theorem plus_same (pl : Nat → Pl) (i : Nat) (p : Pl) : plus pl i p i = p := by simp [plus]
theorem plus_other (pl : Nat → Pl) {i j : Nat} (p : Pl) (h : j ≠ i) : plus pl i p j = pl j := by simp [plus, h]
theorem mem_alloc (hR : Rel cx σ a w pl) {nb : Nat} (hn : look σ.bk nb = none) (h64 : 64 ≤ nb) {w' : World} (hx : Ext (fun _ => True) w w') {B : Blk O} {p : Pl}
  (hp : ∀ b, p.fp b → w.heap.size ≤ b ∧ b < w'.heap.size) (hlive : B.live)
  (hB : (∀ b, RO cx w σ.bk pl b → RO cx w' ((nb, B) :: σ.bk) (plus pl nb p) b) → (∀ b, RO cx w σ.bk pl b → w'.heap[b]? = w.heap[b]?) → Keeps σ.bk ((nb, B) :: σ.bk) pl (plus pl nb p) →
   BR w' (RO cx w' ((nb, B) :: σ.bk) (plus pl nb p)) ((nb, B) :: σ.bk) (plus pl nb p) nb B) :
  (Mem cx w' ((nb, B) :: σ.bk) (plus pl nb p) ∧ (∀ b, RO cx w σ.bk pl b → RO cx w' ((nb, B) :: σ.bk) (plus pl nb p) b) ∧ (∀ b, RO cx w σ.bk pl b → w'.heap[b]? = w.heap[b]?)) ∧ Keeps σ.bk ((nb, B) :: σ.bk) pl (plus pl nb p) := by
 have hk : Keeps σ.bk ((nb, B) :: σ.bk) pl (plus pl nb p) := by
  intro i B' hi
  have hne : i ≠ nb := fun e => by rw [e, hn] at hi; cases hi
  refine ⟨by rw [plus_other _ _ hne]; exact Pl.same_refl _, B', by rw [look_cons, if_neg (fun e => hne e.symm)]; exact hi, fun _ _ h => h, id, id⟩
 refine ⟨mem_gen hR.mem (fun i => i = nb) (hx.mono fun _ _ h => h.elim) (fun b hb _ => hx.keep b hb trivial) hk ?_ ?_ ?_ ?_ ?_ ?_, hk⟩
 ·intro i B' hi hne
  rw [look_cons, if_neg (fun e => hne e.symm)] at hi
  exact ⟨hi, plus_other _ _ hne⟩
 ·rintro i rfl _ b hb
  rw [plus_same] at hb
  exact ⟨(hp b hb).2, .inl (hp b hb).1⟩
 ·rintro i j rfl rfl _ _ hij
  exact absurd rfl hij
 ·rintro hRO hRw i B' rfl hi
  rw [look_cons, if_pos rfl] at hi
  cases hi
  exact hB hRO hRw hk
 ·rintro hRO i t xs rfl hi
  rw [look_cons, if_pos rfl] at hi
  cases hi
  exact hlive.elim
 ·rintro i rfl _
  exact h64

theorem fzOk_mem : ∀ {fz : List (Nat × Blk O)}, fzOk fz = true → ∀ p ∈ fz, 64 ≤ p.1
 | [], _, p, hp => by simp at hp
 | (i, .row _ _) :: fz, h, p, hp => by cases h
 | (i, .box _) :: fz, h, p, hp => by cases h
 | (i, .obj _ _) :: fz, h, p, hp => by cases h
 | (i, .hol _ _ _ _ _ _) :: fz, h, p, hp => by cases h
 | (i, .dead) :: fz, h, p, hp => by cases h
 | (i, .rng _ _ _) :: fz, h, p, hp => by cases h
 | (i, .rngH _ _ _ _ _) :: fz, h, p, hp => by cases h
 | (i, .itr _ _) :: fz, h, p, hp => by cases h
 | (i, .fro _ _) :: fz, h, p, hp => by
  unfold fzOk at h
  cases hb : Nat.ble 64 i with
  | false => rw [hb] at h; simp at h
  | true =>
   rw [hb] at h
   rcases List.mem_cons.1 hp with rfl | hp
   ·exact Nat.le_of_ble_eq_true hb
   ·exact fzOk_mem h p hp
theorem look_mem {α : Type} : ∀ {l : List (Nat × α)} {i : Nat} {x : α}, look l i = some x → (i, x) ∈ l
 | [], i, x, h => by simp [look] at h
 | (j, y) :: l, i, x, h => by
  rw [look_cons] at h
  split at h
  ·rename_i e; simp only at e; subst e; cases h; exact List.mem_cons_self
  ·exact List.mem_cons_of_mem _ (look_mem h)
theorem look_none {α : Type} : ∀ {l : List (Nat × α)} {i : Nat}, look l i = none ↔ ∀ x, (i, x) ∉ l
 | [], i => by simp [look]
 | (j, y) :: l, i => by
  rw [look_cons]
  by_cases e : j = i
  ·subst e
   simp only [if_true]
   exact ⟨(fun h => by cases h), (fun h => absurd List.mem_cons_self (h y))⟩
  ·rw [if_neg e, look_none]
   constructor
   ·intro h x hx
    rcases List.mem_cons.1 hx with h1 | h1
    ·cases h1; exact e rfl
    ·exact h x h1
   ·intro h x hx
    exact h x (List.mem_cons_of_mem _ hx)
theorem rel_freeze (hR : Rel cx σ a w pl) {fz : List (Nat × Blk O)} (hz : Fz σ fz) (h64 : ∀ p ∈ fz, 64 ≤ p.1) :
  Rel cx ⟨σ.sl, fz ++ σ.bk⟩ a w pl ∧ Keeps σ.bk (fz ++ σ.bk) pl pl ∧ (∀ b, R2 cx w σ pl fz b → RO cx w (fz ++ σ.bk) pl b) := by
 have old : ∀ i B, look fz i = some B → ∃ (t : Ty) (xs : List t.den), B = .fro t xs ∧ (look σ.bk i = some (.row t xs) ∨ look σ.bk i = some (.fro t xs)) := fun i B h => hz (i, B) (look_mem h)
 have hk : Keeps σ.bk (fz ++ σ.bk) pl pl := by
  intro i B hi
  refine ⟨Pl.same_refl _, ?_⟩
  cases hl : look fz i with
  | none => exact ⟨B, by rw [look_append, hl]; simpa using hi, fun _ _ h => h, id, id⟩
  | some B' =>
   obtain ⟨t, xs, rfl, h1⟩ := old i B' hl
   refine ⟨.fro t xs, by rw [look_append, hl]; rfl, fun t' n hr => ?_, (fun ⟨cs, h⟩ => by cases h), (fun h => by cases h)⟩
   obtain ⟨ys, h2 | h2, h3⟩ := hr
   ·cases h2
   ·cases h2
    rcases h1 with h1 | h1 <;> rw [h1] at hi <;> cases hi
    ·exact ⟨xs, .inl rfl, h3⟩
    ·exact ⟨xs, .inr rfl, h3⟩
 have dead : ∀ i, (∃ B, look fz i = some B) → ¬ liveAt (fz ++ σ.bk) i := by
  rintro i ⟨B, hB⟩ ⟨B', h1, h2⟩
  obtain ⟨t, xs, rfl, _⟩ := old i B hB
  rw [look_append, hB] at h1
  cases h1
  exact h2
 have hM := mem_gen hR.mem (w' := w) (bk' := fz ++ σ.bk) (pl' := pl) (fun i => ∃ B, look fz i = some B) (Ext.refl _ _) (fun _ _ _ => rfl) hk ?_ ?_ ?_ ?_ ?_ ?_
 ·refine ⟨⟨hM.1, fun t s hs => ?_, hR.defers, hR.size⟩, hk, ?_⟩
  ·obtain ⟨h1, h2⟩ := hR.slots t s hs
   exact ⟨h1, SR_mono hM.2.1 hM.2.2 hk _ _ h2⟩
  ·rintro b (hb | ⟨p, hp, hb⟩)
   ·exact hM.2.1 b hb
   ·cases hl : look fz p.1 with
    | none => exact absurd hp (look_none.1 hl p.2)
    | some B =>
     obtain ⟨t, xs, rfl, h1⟩ := old _ _ hl
     exact hM.1.frozen p.1 t xs (by rw [look_append, hl]; rfl) b hb
 ·intro i B hi hu
  rw [look_append] at hi
  cases hl : look fz i with
  | none => rw [hl] at hi; exact ⟨by simpa using hi, rfl⟩
  | some B' => exact absurd ⟨B', hl⟩ hu
 ·intro i hu hl
  exact absurd hl (dead i hu)
 ·intro i j hu _ hl
  exact absurd hl (dead i hu)
 ·intro hRO hRw i B hu hi
  obtain ⟨B', hB'⟩ := hu
  obtain ⟨t, xs, rfl, h1⟩ := old i B' hB'
  rw [look_append, hB'] at hi
  cases hi
  obtain ⟨h2, h3⟩ := row_of hR h1
  exact ⟨h2, RowAt_mono hRO hRw (Pl.same_refl _) (fun _ _ => rfl) h3⟩
 ·intro hRO i t xs hu hi b hb
  obtain ⟨B', hB'⟩ := hu
  obtain ⟨t', xs', rfl, h1⟩ := old i B' hB'
  rcases h1 with h1 | h1
  ·have hlv : liveAt σ.bk i := ⟨_, h1, trivial⟩
   obtain ⟨h2, h3⟩ := hR.mem.bound i hlv b hb
   refine ⟨?_, h2, fun j hj hjb => ?_, hR.mem.apart i hlv b hb⟩
   ·exact .inr h3
   ·by_cases e : i = j
    ·subst e; exact dead i ⟨_, hB'⟩ hj
    ·obtain ⟨B2, h4, h5⟩ := hj
     rw [look_append] at h4
     cases hl : look fz j with
     | some B3 => exact dead j ⟨B3, hl⟩ ⟨B2, by rw [look_append, hl]; rw [hl] at h4; exact h4, h5⟩
     | none =>
      rw [hl] at h4
      exact hR.mem.disj i j hlv ⟨B2, by simpa using h4, h5⟩ e b hb hjb
  ·exact hRO b (hR.mem.frozen i _ _ h1 b hb)
 ·intro i hu hn
  obtain ⟨B', hB'⟩ := hu
  exact h64 (i, B') (look_mem hB')

theorem mem_write (hR : Rel cx σ a w pl) {i b c : Nat} {B B' : Blk O} (hi : look σ.bk i = some B) (hlive : B.live) (hlive' : B'.live) (hp : pl i = .at b c) {w' : World} (hx : Ext (fun x => x ≠ b) w w')
  (h1 : ∀ t n, isRow B' t n → isRow B t n) (h2 : isBox B' → isBox B) (h3 : isObj B' → isObj B)
  (hB : (∀ b, RO cx w σ.bk pl b → RO cx w' ((i, B') :: σ.bk) pl b) → (∀ b, RO cx w σ.bk pl b → w'.heap[b]? = w.heap[b]?) → Keeps σ.bk ((i, B') :: σ.bk) pl pl →
   BR w' (RO cx w' ((i, B') :: σ.bk) pl) ((i, B') :: σ.bk) pl i B') :
  (Mem cx w' ((i, B') :: σ.bk) pl ∧ (∀ b, RO cx w σ.bk pl b → RO cx w' ((i, B') :: σ.bk) pl b) ∧ (∀ b, RO cx w σ.bk pl b → w'.heap[b]? = w.heap[b]?)) ∧ Keeps σ.bk ((i, B') :: σ.bk) pl pl := by
 have hk : Keeps σ.bk ((i, B') :: σ.bk) pl pl := by
  intro j Bj hj
  refine ⟨Pl.same_refl _, ?_⟩
  by_cases e : i = j
  ·subst e
   rw [hi] at hj
   cases hj
   exact ⟨B', by rw [look_cons]; simp, h1, h2, h3⟩
  ·exact ⟨Bj, by rw [look_cons, if_neg e]; exact hj, fun _ _ h => h, id, id⟩
 refine ⟨mem_gen hR.mem (fun j => j = i) (hx.mono fun _ _ h => h.elim) ?_ hk ?_ ?_ ?_ ?_ ?_ ?_, hk⟩
 ·intro x hxl hx'
  refine hx.keep x hxl fun e => hx' i rfl ⟨B, hi, hlive⟩ ?_
  rw [hp, e]; rfl
 ·intro j Bj hj hne
  rw [look_cons, if_neg (fun e => hne e.symm)] at hj
  exact ⟨hj, rfl⟩
 ·rintro j rfl _ x hxf
  exact ⟨Nat.lt_of_lt_of_le (hR.mem.bound j ⟨B, hi, hlive⟩ x hxf).1 hx.size, .inr ⟨j, rfl, ⟨B, hi, hlive⟩, hxf⟩⟩
 ·rintro j k rfl rfl _ _ hjk
  exact absurd rfl hjk
 ·rintro hRO hRw j Bj rfl hj
  rw [look_cons, if_pos rfl] at hj
  cases hj
  exact hB hRO hRw hk
 ·rintro hRO j t xs rfl hj
  rw [look_cons, if_pos rfl] at hj
  cases hj
  exact hlive'.elim
 ·rintro j rfl hn
  rw [hi] at hn; cases hn

theorem cells_one {v : Value} (h : v.oneCell' = true) : v.cells = #[v] := by cases v <;> first | rfl | simp [Value.oneCell'] at h
theorem CR_one {R : Nat → Prop} {bk : List (Nat × Blk O)} : ∀ {c : C} {v : Value}, CR w R bk pl c v → okC c = true → v.oneCell' = true
 | .sc u, v, h, hc => by
  rw [show v = u from h]
  cases u <;> first | rfl | simp [okC] at hc
 | .ro t xs, v, h, _ => by
  obtain ⟨A, c, e, _⟩ := h
  simp only [List.cons.injEq, and_true] at e
  subst e; rfl
 | .own i, v, h, _ => h.1
 | .sub i lo n, v, h, _ => h.1
 | .ptr i off, v, h, _ => h.1
 | .rptr i idx off, v, h, _ => h.1
 | .rop t x off, v, ⟨_, _, _, _, _, e⟩, _ => by subst e; rfl
 | .obj i, v, h, _ => h.1
 | .gi i, v, h, _ => h.1
 | .arr i n, v, h, _ => h.1
 | .it i, v, h, _ => h.1
 | .mayb e, v, h, _ => by obtain ⟨b, rfl, _⟩ := h; rfl
 | .dptr i sz idx off, v, h, _ => h.1
theorem okCs_cons {c : C} {cs : List C} (h : okCs (c :: cs) = true) : okC c = true ∧ okCs cs = true := by
 unfold okCs at h
 cases hc : okC c with
 | false => rw [hc] at h; simp at h
 | true => rw [hc] at h; exact ⟨rfl, h⟩
theorem All2_one {R : Nat → Prop} {bk : List (Nat × Blk O)} : ∀ {cs : List C} {vs : List Value}, All2 (CR w R bk pl) cs vs → okCs cs = true → ∀ v ∈ vs, v.oneCell' = true
 | [], [], _, _ => by simp
 | c :: cs, v :: vs, h, hc => by
  obtain ⟨h1, h2⟩ := okCs_cons hc
  intro u hu
  rcases List.mem_cons.1 hu with rfl | hu
  ·exact CR_one h.1 h1
  ·exact All2_one h.2 h2 u hu
 | [], _ :: _, h, _ => h.elim
 | _ :: _, [], h, _ => h.elim
theorem TR_cells {R : Nat → Prop} {bk : List (Nat × Blk O)} {t : T} {v : Value} (h : TR w R bk pl t v) (hc : okCs t.cells = true) : All2 (CR w R bk pl) t.cells v.cells.toList := by
 cases t with
 | ag cs => obtain ⟨arr, rfl, h⟩ := h; exact h
 | one c =>
  have h1 := CR_one h (okCs_cons hc).1
  rw [cells_one h1]
  exact ⟨h, trivial⟩
theorem good_box (hR : Rel cx σ a w pl) (hd : ∀ d, o.dst = some d → d < cx.N) {nb : Nat} {e : TypeId} {x : Operand}
  (ho : o.op = .box e x) (h : (opBox nb o.dst x : RM O).to σ wr) : Good P cx σ a w o wr := by
 obtain ⟨t, h1, h2⟩ := evT_to h
 have ht := opd_TR hR h1
 cases hok : okCs t.cells with
 | false => rw [hok] at h2; exact h2.elim
 | true =>
  rw [hok] at h2
  simp only [forceM_eq] at h2
  obtain ⟨h3, h4, h5⟩ := fresh_to h2
  cases h5
  have hcs := TR_cells ht hok
  have hM := mem_alloc hR h3 h4 (w' := w.alloc (.cells (a.eval x).cells e)) (Ext.alloc _ _) (B := .box t.cells) (p := .at w.heap.size 0) (fun b hb => by cases hb; simp) trivial
   (fun hRO hRw hk => ⟨w.heap.size, 0, _, e, plus_same _ _ _, heap_alloc_new w _, hcs.mono (CR_mono hRO hRw hk)⟩)
  refine good_value (v := .pointer (some ⟨w.heap.size, 0, none⟩)) (w' := w.alloc (.cells (a.eval x).cells e)) (pl' := plus pl nb (.at w.heap.size 0)) (by simp [execOp, ho, Instr.box, newVar, newRow]) ?_
  exact rel_gen hR hM.1 hM.2 hd ⟨rfl, .box t.cells, by rw [look_cons]; simp, fun _ => ⟨_, _, plus_same _ _ _, rfl⟩⟩
theorem good_alloc (hT : TTok P cfg.tt) (hR : Rel cx σ a w pl) (hd : ∀ d, o.dst = some d → d < cx.N) {nb : Nat} {e : TypeId}
  (ho : o.op = .alloc e) (h : (opAlloc cfg nb o.dst e : RM O).to σ wr) : Good P cx σ a w o wr := by
 obtain ⟨ti, h1, h2⟩ := getTI_to h
 simp only [forceM_eq] at h2
 obtain ⟨h3, h4, h5⟩ := fresh_to h2
 cases h5
 obtain ⟨i, z, g1, g2, g3, g4, g5⟩ := (hT e ti h1).info
 have hcs : ∀ (R : Nat → Prop) (bk : List (Nat × Blk O)) (pl : Nat → Pl), All2 (CR (w.alloc (.cells z.cells e)) R bk pl) (ti.zero.map .sc) z.cells.toList := by
  intro R bk pl
  rw [g5]; exact All2_sc _
 have hM := mem_alloc hR h3 h4 (w' := w.alloc (.cells z.cells e)) (Ext.alloc _ _) (B := .box (ti.zero.map .sc)) (p := .at w.heap.size 0) (fun b hb => by cases hb; simp) trivial
  (fun hRO hRw hk => ⟨w.heap.size, 0, _, e, plus_same _ _ _, heap_alloc_new w _, hcs _ _ _⟩)
 refine good_value (v := .pointer (some ⟨w.heap.size, 0, none⟩)) (w' := w.alloc (.cells z.cells e)) (pl' := plus pl nb (.at w.heap.size 0)) (by simp [execOp, ho, Instr.alloc, zeroValue, typeInfo, g1, g4, newVar, newRow]) ?_
 exact rel_gen hR hM.1 hM.2 hd ⟨rfl, .box (ti.zero.map .sc), by rw [look_cons]; simp, fun _ => ⟨_, _, plus_same _ _ _, rfl⟩⟩
theorem setRow_Ext (w : World) (g : Nat) (cs : Array Value) : Ext (fun x => x ≠ g) w (w.setRow g cs) :=
 ⟨rfl, rfl, rfl, by simp, fun b _ hb => setRow_other w g b cs hb⟩
theorem storeVar_run {t : Nat} {ti : TI} (hti : TIok P t ti) {g off : Nat} {arr : Array Value} {e : TypeId} (hg : w.heap[g]? = some (.cells arr e (0, 0))) {v : Value} (hl : v.cells.size = ti.size)
  (hfit : off + v.cells.size ≤ arr.size) (h1 : ∀ u ∈ v.cells.toList, u.oneCell' = true) :
  (storeVar t ⟨g, off, none⟩ v).run P w = .ok () (w.setRow g (arr.toList.take off ++ v.cells.toList ++ arr.toList.drop (off + v.cells.size)).toArray) := by
 have := run_storeCells_at (P := P) g off e v.cells.toList 0 arr w hg (by simpa using hfit) h1
 simp only [Nat.add_zero, Array.length_toList] at this
 rw [hl] at this
 simp only [List.append_assoc] at this
 simp [storeVar, sizeOf_run hti, hl]
 exact this
end
end Go.BB
set_option linter.unusedSimpArgs false
set_option linter.unusedVariables false
namespace Go.BB
open Go
section
variable {O : ObjK} {cx : Cx} {σ : St O} {a : Act} {w : World} {pl : Nat → Pl} {cfg : Cfg O} {P : Program} {o : Oper} {wr : Wr O}

theorem putAt_eq (off : Nat) (new cs : List C) : putAt off new cs = cs.take off ++ (new ++ cs.drop (off + new.length)) := by
 unfold putAt
 rw [capp_eq, capp_eq, ctake_eq, cdrop_eq, clen_eq]; rfl
theorem canSet_some : ∀ (t : Ty) (x : t.den) (off : Nat) (t' : Ty) (y : t'.den), canSet t off t' = true → ∃ z, setCells t x off t' y = some z := by
 intro t
 induction t with
 | pair a b iha ihb =>
  intro x off t' y h
  unfold canSet at h
  unfold setCells
  by_cases h1 : off = 0 ∧ t' = .pair a b
  ·rw [dif_pos h1]; exact ⟨_, rfl⟩
  ·rw [if_neg h1] at h
   rw [dif_neg h1]
   simp only at h ⊢
   by_cases h2 : off < a.sz
   ·rw [if_pos h2] at h ⊢
    obtain ⟨z, hz⟩ := iha x.1 off t' y h
    exact ⟨_, by rw [hz]; rfl⟩
   ·rw [if_neg h2] at h ⊢
    obtain ⟨z, hz⟩ := ihb x.2 (Nat.sub off a.sz) t' y h
    exact ⟨_, by rw [hz]; rfl⟩
 | _ =>
  intro x off t' y h
  unfold canSet at h
  unfold setCells
  split at h
  ·rename_i h1
   rw [dif_pos h1]; exact ⟨_, rfl⟩
  ·simp at h
theorem setC_some {t : Ty} {x : t.den} {off : Nat} {t' : Ty} {y : t'.den} {z : t.den} (h : setC t x off t' y = some z) : setCells t x off t' y = some z := by
 unfold setC at h
 split at h
 ·split at h
  ·rename_i h2
   obtain ⟨z', hz⟩ := canSet_some t x off t' y h2
   unfold putD at h
   rw [hz] at h
   cases h
   exact hz
  ·cases h
 ·exact h
theorem setCells_rel {R : Nat → Prop} : ∀ (t : Ty) (x : t.den) (off : Nat) (t' : Ty) (y : t'.den) (z : t.den), setCells t x off t' y = some z → ∀ (cs vs : List Value), Rep w R t x cs → Rep w R t' y vs →
  off + t'.sz ≤ t.sz ∧ Rep w R t z (cs.take off ++ (vs ++ cs.drop (off + vs.length))) := by
 intro t
 have base : ∀ (t : Ty) (x : t.den) (off : Nat) (t' : Ty) (y : t'.den) (z : t.den) (h : off = 0 ∧ t' = t), some (h.2 ▸ y) = some z → ∀ (cs vs : List Value), Rep w R t x cs → Rep w R t' y vs →
   off + t'.sz ≤ t.sz ∧ Rep w R t z (cs.take off ++ (vs ++ cs.drop (off + vs.length))) := by
  rintro t x off t' y z ⟨rfl, rfl⟩ h cs vs h1 h2
  cases h
  have l1 := Rep_len _ _ _ h1
  have l2 := Rep_len _ _ _ h2
  refine ⟨by omega, ?_⟩
  rw [List.take_zero, List.nil_append, List.drop_eq_nil_of_le (by omega), List.append_nil]
  exact h2
 induction t with
 | pair ta tb iha ihb =>
  intro x off t' y z h cs vs h1 h2
  unfold setCells at h
  split at h
  ·rename_i hh; exact base _ x off t' y z hh h cs vs h1 h2
  ·obtain ⟨v1, v2, rfl, h3, h4⟩ := h1
   have l1 := Rep_len _ _ _ h3
   have l2 := Rep_len _ _ _ h4
   have l3 := Rep_len _ _ _ h2
   simp only at h
   split at h
   ·rename_i hlt
    obtain ⟨z', hz, rfl⟩ := Option.map_eq_some_iff.1 h
    obtain ⟨h5, h6⟩ := iha _ _ _ _ _ hz v1 vs h3 h2
    refine ⟨by simp only [Ty.sz, Nat.add_eq]; omega, v1.take off ++ (vs ++ v1.drop (off + vs.length)), v2, ?_, h6, h4⟩
    rw [List.take_append_of_le_length (by omega), List.drop_append_of_le_length (by omega)]
    simp only [List.append_assoc]
   ·rename_i hlt
    obtain ⟨z', hz, rfl⟩ := Option.map_eq_some_iff.1 h
    have e : Nat.sub off ta.sz = off - ta.sz := rfl
    rw [e] at hz
    obtain ⟨h5, h6⟩ := ihb _ _ _ _ _ hz v2 vs h4 h2
    refine ⟨by simp only [Ty.sz, Nat.add_eq]; omega, v1, v2.take (off - ta.sz) ++ (vs ++ v2.drop (off - ta.sz + vs.length)), ?_, h3, h6⟩
    rw [List.take_append, List.drop_append, List.take_of_length_le (by omega), List.drop_eq_nil_of_le (as := v1) (by omega), l1]
    simp only [List.append_assoc, List.nil_append]
    rw [show off + vs.length - ta.sz = off - ta.sz + vs.length by omega]
 | int k =>
  intro x off t' y z h cs vs h1 h2
  unfold setCells at h
  split at h
  ·rename_i hh; exact base _ x off t' y z hh h cs vs h1 h2
  ·simp at h
 | bool =>
  intro x off t' y z h cs vs h1 h2
  unfold setCells at h
  split at h
  ·rename_i hh; exact base _ x off t' y z hh h cs vs h1 h2
  ·simp at h
 | str =>
  intro x off t' y z h cs vs h1 h2
  unfold setCells at h
  split at h
  ·rename_i hh; exact base _ x off t' y z hh h cs vs h1 h2
  ·simp at h
 | unit =>
  intro x off t' y z h cs vs h1 h2
  unfold setCells at h
  split at h
  ·rename_i hh; exact base _ x off t' y z hh h cs vs h1 h2
  ·simp at h
 | slice t ih =>
  intro x off t' y z h cs vs h1 h2
  unfold setCells at h
  split at h
  ·rename_i hh; exact base _ x off t' y z hh h cs vs h1 h2
  ·simp at h
theorem splice_get {l vs : List Value} {off : Nat} (hfit : off + vs.length ≤ l.length) (q : Nat) :
  (l.take off ++ (vs ++ l.drop (off + vs.length)))[q]? = if q < off then l[q]? else if q < off + vs.length then vs[q - off]? else l[q]? := by
 have h1 : (l.take off).length = off := by simp; omega
 by_cases hq : q < off
 ·rw [if_pos hq, List.getElem?_append_left (by omega), List.getElem?_take, if_pos hq]
 ·rw [if_neg hq, List.getElem?_append_right (by omega), h1]
  by_cases hq2 : q < off + vs.length
  ·rw [if_pos hq2, List.getElem?_append_left (by omega)]
  ·rw [if_neg hq2, List.getElem?_append_right (by omega), List.getElem?_drop]
   congr 1; omega
theorem good_store (hT : TTok P cfg.tt) (hR : Rel cx σ a w pl) (hd : ∀ d, o.dst = some d → d < cx.N) {t : TypeId} {x y : Operand}
  (ho : o.op = .store t x y) (h : (opStore cfg o.dst t x y : RM O).to σ wr) : Good P cx σ a w o wr := by
 obtain ⟨ti, h1, h2⟩ := getTI_to h
 obtain ⟨c, h3, h4⟩ := evC_to h2
 obtain ⟨v, h5, h6⟩ := evT_to h4
 clear h h2 h4
 have hti := hT t ti h1
 have hc := opd_CR hR h3
 have hv := opd_TR hR h5
 cases c with
 | ptr i off =>
  simp only [RM.to] at h6
  obtain ⟨_, B, hB, hB2⟩ := hc
  rw [hB] at h6
  cases B with
  | box cs =>
   obtain ⟨b, c, g1, g2⟩ := hB2 ⟨cs, rfl⟩
   obtain ⟨b', c', arr, e, g3, g4, g5⟩ := hR.mem.blocks i _ hB
   rw [g1] at g3
   cases g3
   simp only at h6
   cases q1 : Nat.beq (clen v.cells) ti.size with
   | false => rw [q1] at h6; exact h6.elim
   | true =>
    cases q2 : Nat.ble (Nat.add off ti.size) (clen cs) with
    | false => rw [q1, q2] at h6; exact h6.elim
    | true =>
     cases q3 : okCs v.cells with
     | false => rw [q1, q2, q3] at h6; exact h6.elim
     | true =>
      rw [q1, q2, q3] at h6
      simp only [forceM_eq] at h6
      cases h6
      have k1 : v.cells.length = ti.size := by rw [← clen_eq]; exact Nat.eq_of_beq_eq_true q1
      have k2 : off + ti.size ≤ cs.length := by have := Nat.le_of_ble_eq_true q2; rw [clen_eq] at this; exact this
      have hcs := TR_cells hv q3
      have hone := All2_one hcs q3
      have l1 : (a.eval y).cells.size = ti.size := by rw [← k1, hcs.length]; simp
      have l2 : cs.length = arr.size := by rw [g5.length]; simp
      have hrun := storeVar_run (P := P) (w := w) hti g4 (v := a.eval y) (off := off) l1 (by omega) hone
      obtain ⟨L, hL⟩ : ∃ L : List Value, L = arr.toList.take off ++ (a.eval y).cells.toList ++ arr.toList.drop (off + (a.eval y).cells.size) := ⟨_, rfl⟩
      obtain ⟨D, hD⟩ : ∃ D : List C, D = putAt off v.cells cs := ⟨_, rfl⟩
      rw [← hL] at hrun
      rw [← hD]
      have hM := mem_write hR hB trivial (B' := .box D) trivial g1 (w' := w.setRow b L.toArray) (setRow_Ext w b _)
       (by rintro t n ⟨xs, h | h, _⟩ <;> cases h) (fun _ => ⟨cs, rfl⟩) (fun h => by cases h)
       (fun hRO hRw hk => ⟨b, c, _, e, g1, setRow_heap w b arr _ e (0, 0) g4, by
        have hm := CR_mono hRO hRw hk
        have h1 := ((g5.mono hm).take off).append ((hcs.mono hm).append ((g5.mono hm).drop (off + v.cells.length)))
        rw [show cs.take off ++ (v.cells ++ cs.drop (off + v.cells.length)) = D by rw [hD, putAt_eq],
         show arr.toList.take off ++ ((a.eval y).cells.toList ++ arr.toList.drop (off + v.cells.length)) = L by rw [hL, List.append_assoc, show (a.eval y).cells.size = v.cells.length by omega]] at h1
        exact h1⟩)
      exact good_skip (w' := w.setRow b L.toArray) (pl' := pl) (by
       simp only [execOp, ho, g2, Instr.storeAt, Instr.sureAddr, Sem.run_bind, Sem.run_pure, Result.andThen_ok, hrun]) (rel_gen hR hM.1 hM.2 hd rfl)
  | _ => exact h6.elim
 | rptr i idx off =>
  cases hty : ti.ty with
  | none => simp only [hty] at h6; exact h6.elim
  | some ty =>
   simp only [hty] at h6
   obtain ⟨yv, fz, h7, h8, h9⟩ := ofCells_to hR ty v.cells _ _ h6
   simp only [RM.to] at h7
   obtain ⟨_, B, hB, hB2⟩ := hc
   rw [hB] at h7
   cases B with
   | row t' xs =>
    simp only at h7
    cases hs : setC t' (xs.getD idx t'.zero) off ty yv with
    | none => rw [hs] at h7; exact h7.elim
    | some z =>
     rw [hs] at h7
     replace hs := setC_some hs
     simp only at h7
     cases hmem : memN i (fz.map (·.1)) with
     | true => rw [hmem] at h7; exact h7.elim
     | false =>
      cases hfz : fzOk fz with
      | false => rw [hmem, hfz] at h7; exact h7.elim
      | true =>
       rw [hmem, hfz] at h7
       cases h7
       obtain ⟨hRf, hkf, hROf⟩ := rel_freeze hR h8 (fzOk_mem hfz)
       have hnot : look fz i = none := by
        rw [look_none]
        intro x hx
        have : memN i (fz.map (·.1)) = true := (memN_iff _ _).2 (List.mem_map.2 ⟨(i, x), hx, rfl⟩)
        rw [hmem] at this; cases this
       have hBf : look (fz ++ σ.bk) i = some (.row t' xs) := by rw [look_append, hnot]; simpa using hB
       obtain ⟨hidx, b, c, g1, g2⟩ := hB2 t' _ (isRow_row t' xs)
       obtain ⟨hz, hrow⟩ := hRf.mem.blocks i _ hBf
       rw [g1] at hrow
       obtain ⟨arr, e, g3, g4, g5, g6, g7⟩ := hrow
       have hj : xs[idx]? = some (xs.getD idx t'.zero) := by rw [List.getD_eq_getElem?_getD, List.getElem?_eq_getElem hidx]; rfl
       obtain ⟨cs, p1, p2⟩ := g7 idx _ hj
       have hvs : Rep w (RO cx w (fz ++ σ.bk) pl) ty yv (a.eval y).cells.toList := by
        refine Rep_mono hROf (fun _ _ => rfl) _ _ _ ?_
        cases v with
        | ag cs' =>
         obtain ⟨va, e1, e2⟩ := hv
         rw [e1]
         exact h9 _ e2
        | one c' =>
         have h10 := h9 [a.eval y] ⟨hv, trivial⟩
         rw [cells_one (Rep_one _ _ _ h10 _ List.mem_cons_self)]
         exact h10
       have l1 := Rep_len _ _ _ hvs
       have l0 : (a.eval y).cells.toList.length = (a.eval y).cells.size := by simp
       have hsz := hti.size ty hty
       obtain ⟨k1, k2⟩ := setCells_rel t' _ off ty yv z hs cs _ p1 hvs
       have lcs := Rep_len _ _ _ p1
       have hmul : (idx + 1) * t'.sz ≤ arr.size := by rw [g4]; exact Nat.mul_le_mul_right _ (by omega)
       rw [Nat.add_mul, Nat.one_mul] at hmul
       have hrun := storeVar_run (P := P) (w := w) hti g3 (v := a.eval y) (off := idx * t'.sz + off) (by omega) (by omega) (Rep_one _ _ _ hvs)
       have hfit : idx * t'.sz + off + (a.eval y).cells.toList.length ≤ arr.toList.length := by simp only [Array.length_toList] at *; omega
       obtain ⟨L, hL⟩ : ∃ L : List Value, L = arr.toList.take (idx * t'.sz + off) ++ (a.eval y).cells.toList ++ arr.toList.drop (idx * t'.sz + off + (a.eval y).cells.size) := ⟨_, rfl⟩
       rw [← hL] at hrun
       have hLs : L.length = arr.size := by
        rw [hL]
        simp only [List.length_append, List.length_take, List.length_drop, Array.length_toList] at hfit ⊢
        omega
       have hget : ∀ q, L[q]? =
         if q < idx * t'.sz + off then arr[q]? else if q < idx * t'.sz + off + (a.eval y).cells.toList.length then (a.eval y).cells.toList[q - (idx * t'.sz + off)]? else arr[q]? := by
        intro q
        rw [hL, List.append_assoc, ← l0, splice_get hfit q]
        simp
       have hM := mem_write hRf (σ := ⟨σ.sl, fz ++ σ.bk⟩) hBf trivial (B' := .row t' (xs.set idx z)) trivial g1
        (w' := w.setRow b L.toArray) (setRow_Ext w b _)
        (by
         rintro t n ⟨ys, h | h, hn⟩
         ·cases h
          rw [List.length_set] at hn
          exact ⟨xs, .inl rfl, hn⟩
         ·cases h)
        (fun ⟨_, h⟩ => by cases h) (fun h => by cases h)
        (fun hRO hRw hk => ⟨hz, by
         show RowAt _ _ _ _ _
         rw [g1]
         refine ⟨_, e, setRow_heap w b arr _ e (0, 0) g3, ?_, by rw [List.length_set]; exact g5, g6, fun j x hj => ?_⟩
         ·rw [List.size_toArray, hLs, g4]
         ·rw [List.getElem?_set] at hj
          by_cases hij : idx = j
          ·subst hij
           rw [if_pos rfl, if_pos hidx] at hj
           cases hj
           refine ⟨_, Rep_mono hRO hRw _ _ _ k2, fun q v hq => ?_⟩
           rw [List.getElem?_toArray, hget]
           rw [splice_get (by omega)] at hq
           by_cases a1 : q < off
           ·rw [if_pos a1] at hq
            rw [if_pos (by omega)]
            exact p2 q v hq
           ·rw [if_neg a1] at hq
            rw [if_neg (by omega)]
            by_cases a2 : q < off + (a.eval y).cells.toList.length
            ·rw [if_pos a2] at hq
             rw [if_pos (by omega), ← hq]
             congr 1; omega
            ·rw [if_neg a2] at hq
             rw [if_neg (by omega)]
             exact p2 q v hq
          ·rw [if_neg hij] at hj
           obtain ⟨cs', b1, b2⟩ := g7 j x hj
           have lcs' := Rep_len _ _ _ b1
           refine ⟨cs', Rep_mono hRO hRw _ _ _ b1, fun q v hq => ?_⟩
           have hq' : q < t'.sz := by
            have := (List.getElem?_eq_some_iff.1 hq).1
            omega
           rw [List.getElem?_toArray, hget]
           rcases Nat.lt_or_gt_of_ne hij with hlt | hgt
           ·have : (idx + 1) * t'.sz ≤ j * t'.sz := Nat.mul_le_mul_right _ hlt
            rw [Nat.add_mul, Nat.one_mul] at this
            rw [if_neg (by omega), if_neg (by omega)]
            exact b2 q v hq
           ·have : (j + 1) * t'.sz ≤ idx * t'.sz := Nat.mul_le_mul_right _ hgt
            rw [Nat.add_mul, Nat.one_mul] at this
            rw [if_pos (by omega)]
            exact b2 q v hq⟩)
       have hfin := rel_gen hRf hM.1 hM.2 (dst := o.dst) hd (s := undefS) (v := undef) rfl
       refine good_skip (w' := w.setRow b L.toArray) (pl' := pl) ?_ ?_
       ·simp only [execOp, ho, g2, Instr.storeAt, Instr.sureAddr, Sem.run_bind, Sem.run_pure, Result.andThen_ok, hrun]
       ·simp only [St.app, capp, capp_eq] at hfin ⊢
        exact hfin
   | _ => exact h7.elim
 | _ => exact h6.elim
end
end Go.BB
