/- A symbolic machine for the model's code, and what it shows of this seat's functions. No conditions. -/
import Derived.Test.YtnofmeckcimodaaCOps2
set_option linter.unusedSimpArgs false
set_option linter.unusedVariables false
namespace Go.BB
open Go
section
variable {O : ObjK} {cx : Cx} {σ : St O} {a : Act} {w : World} {pl : Nat → Pl} {cfg : Cfg O} {P : Program} {o : Oper} {wr : Wr O}

/-- the places, with one more -/
def plus (pl : Nat → Pl) (i : Nat) (p : Pl) : Nat → Pl := fun j => if j = i then p else pl j
theorem plus_same (pl : Nat → Pl) (i : Nat) (p : Pl) : plus pl i p i = p := by simp [plus]
theorem plus_other (pl : Nat → Pl) {i j : Nat} (p : Pl) (h : j ≠ i) : plus pl i p j = pl j := by simp [plus, h]
/-- a new block at a new place -/
theorem mem_alloc (hR : Rel cx σ a w pl) {nb : Nat} (hn : look σ.bk nb = none) (h64 : 64 ≤ nb) {w' : World} (hx : Ext (fun _ => True) w w') {B : Blk O} {p : Pl}
    (hp : ∀ b, p.fp b → w.heap.size ≤ b ∧ b < w'.heap.size) (hlive : B.live)
    (hB : (∀ b, RO cx w σ.bk pl b → RO cx w' ((nb, B) :: σ.bk) (plus pl nb p) b) → (∀ b, RO cx w σ.bk pl b → w'.heap[b]? = w.heap[b]?) → Keeps σ.bk ((nb, B) :: σ.bk) pl (plus pl nb p) →
      BR w' (RO cx w' ((nb, B) :: σ.bk) (plus pl nb p)) ((nb, B) :: σ.bk) (plus pl nb p) nb B) :
    (Mem cx w' ((nb, B) :: σ.bk) (plus pl nb p) ∧ (∀ b, RO cx w σ.bk pl b → RO cx w' ((nb, B) :: σ.bk) (plus pl nb p) b) ∧ (∀ b, RO cx w σ.bk pl b → w'.heap[b]? = w.heap[b]?)) ∧ Keeps σ.bk ((nb, B) :: σ.bk) pl (plus pl nb p) := by
  have hk : Keeps σ.bk ((nb, B) :: σ.bk) pl (plus pl nb p) := by
    intro i B' hi
    have hne : i ≠ nb := fun e => by rw [e, hn] at hi; cases hi
    refine ⟨by rw [plus_other _ _ hne]; exact Pl.same_refl _, B', by rw [look_cons, if_neg (fun e => hne e.symm)]; exact hi, fun _ _ h => h, id, id⟩
  refine ⟨mem_gen hR.mem (fun i => i = nb) (hx.mono fun _ _ h => h.elim) (fun b hb _ => hx.keep b hb trivial) hk ?_ ?_ ?_ ?_ ?_ ?_, hk⟩
  · intro i B' hi hne
    rw [look_cons, if_neg (fun e => hne e.symm)] at hi
    exact ⟨hi, plus_other _ _ hne⟩
  · rintro i rfl _ b hb
    rw [plus_same] at hb
    exact ⟨(hp b hb).2, .inl (hp b hb).1⟩
  · rintro i j rfl rfl _ _ hij
    exact absurd rfl hij
  · rintro hRO hRw i B' rfl hi
    rw [look_cons, if_pos rfl] at hi
    cases hi
    exact hB hRO hRw hk
  · rintro hRO i t xs rfl hi
    rw [look_cons, if_pos rfl] at hi
    cases hi
    exact hlive.elim
  · rintro i rfl _
    exact h64

/-! freezing -/
theorem fzOk_mem : ∀ {fz : List (Nat × Blk O)}, fzOk fz = true → ∀ p ∈ fz, 64 ≤ p.1
  | [], _, p, hp => by simp at hp
  | (i, .row _ _) :: fz, h, p, hp => by cases h
  | (i, .box _) :: fz, h, p, hp => by cases h
  | (i, .obj _ _) :: fz, h, p, hp => by cases h
  | (i, .hol _ _ _ _ _ _) :: fz, h, p, hp => by cases h
  | (i, .dead) :: fz, h, p, hp => by cases h
  | (i, .rng _ _ _) :: fz, h, p, hp => by cases h
  | (i, .rngH _ _ _ _ _) :: fz, h, p, hp => by cases h
  | (i, .itr _ _) :: fz, h, p, hp => by cases h
  | (i, .fro _ _) :: fz, h, p, hp => by
    unfold fzOk at h
    cases hb : Nat.ble 64 i with
    | false => rw [hb] at h; simp at h
    | true =>
      rw [hb] at h
      rcases List.mem_cons.1 hp with rfl | hp
      · exact Nat.le_of_ble_eq_true hb
      · exact fzOk_mem h p hp
theorem look_mem {α : Type} : ∀ {l : List (Nat × α)} {i : Nat} {x : α}, look l i = some x → (i, x) ∈ l
  | [], i, x, h => by simp [look] at h
  | (j, y) :: l, i, x, h => by
    rw [look_cons] at h
    split at h
    · rename_i e; simp only at e; subst e; cases h; exact List.mem_cons_self
    · exact List.mem_cons_of_mem _ (look_mem h)
theorem look_none {α : Type} : ∀ {l : List (Nat × α)} {i : Nat}, look l i = none ↔ ∀ x, (i, x) ∉ l
  | [], i => by simp [look]
  | (j, y) :: l, i => by
    rw [look_cons]
    by_cases e : j = i
    · subst e
      simp only [if_true]
      exact ⟨(fun h => by cases h), (fun h => absurd List.mem_cons_self (h y))⟩
    · rw [if_neg e, look_none]
      constructor
      · intro h x hx
        rcases List.mem_cons.1 hx with h1 | h1
        · cases h1; exact e rfl
        · exact h x h1
      · intro h x hx
        exact h x (List.mem_cons_of_mem _ hx)
theorem rel_freeze (hR : Rel cx σ a w pl) {fz : List (Nat × Blk O)} (hz : Fz σ fz) (h64 : ∀ p ∈ fz, 64 ≤ p.1) :
    Rel cx ⟨σ.sl, fz ++ σ.bk⟩ a w pl ∧ Keeps σ.bk (fz ++ σ.bk) pl pl ∧ (∀ b, R2 cx w σ pl fz b → RO cx w (fz ++ σ.bk) pl b) := by
  have old : ∀ i B, look fz i = some B → ∃ (t : Ty) (xs : List t.den), B = .fro t xs ∧ (look σ.bk i = some (.row t xs) ∨ look σ.bk i = some (.fro t xs)) := fun i B h => hz (i, B) (look_mem h)
  have hk : Keeps σ.bk (fz ++ σ.bk) pl pl := by
    intro i B hi
    refine ⟨Pl.same_refl _, ?_⟩
    cases hl : look fz i with
    | none => exact ⟨B, by rw [look_append, hl]; simpa using hi, fun _ _ h => h, id, id⟩
    | some B' =>
      obtain ⟨t, xs, rfl, h1⟩ := old i B' hl
      refine ⟨.fro t xs, by rw [look_append, hl]; rfl, fun t' n hr => ?_, (fun ⟨cs, h⟩ => by cases h), (fun h => by cases h)⟩
      obtain ⟨ys, h2 | h2, h3⟩ := hr
      · cases h2
      · cases h2
        rcases h1 with h1 | h1 <;> rw [h1] at hi <;> cases hi
        · exact ⟨xs, .inl rfl, h3⟩
        · exact ⟨xs, .inr rfl, h3⟩
  have dead : ∀ i, (∃ B, look fz i = some B) → ¬ liveAt (fz ++ σ.bk) i := by
    rintro i ⟨B, hB⟩ ⟨B', h1, h2⟩
    obtain ⟨t, xs, rfl, _⟩ := old i B hB
    rw [look_append, hB] at h1
    cases h1
    exact h2
  have hM := mem_gen hR.mem (w' := w) (bk' := fz ++ σ.bk) (pl' := pl) (fun i => ∃ B, look fz i = some B) (Ext.refl _ _) (fun _ _ _ => rfl) hk ?_ ?_ ?_ ?_ ?_ ?_
  · refine ⟨⟨hM.1, fun t s hs => ?_, hR.defers, hR.size⟩, hk, ?_⟩
    · obtain ⟨h1, h2⟩ := hR.slots t s hs
      exact ⟨h1, SR_mono hM.2.1 hM.2.2 hk _ _ h2⟩
    · rintro b (hb | ⟨p, hp, hb⟩)
      · exact hM.2.1 b hb
      · cases hl : look fz p.1 with
        | none => exact absurd hp (look_none.1 hl p.2)
        | some B =>
          obtain ⟨t, xs, rfl, h1⟩ := old _ _ hl
          exact hM.1.frozen p.1 t xs (by rw [look_append, hl]; rfl) b hb
  · intro i B hi hu
    rw [look_append] at hi
    cases hl : look fz i with
    | none => rw [hl] at hi; exact ⟨by simpa using hi, rfl⟩
    | some B' => exact absurd ⟨B', hl⟩ hu
  · intro i hu hl
    exact absurd hl (dead i hu)
  · intro i j hu _ hl
    exact absurd hl (dead i hu)
  · intro hRO hRw i B hu hi
    obtain ⟨B', hB'⟩ := hu
    obtain ⟨t, xs, rfl, h1⟩ := old i B' hB'
    rw [look_append, hB'] at hi
    cases hi
    obtain ⟨h2, h3⟩ := row_of hR h1
    exact ⟨h2, RowAt_mono hRO hRw (Pl.same_refl _) (fun _ _ => rfl) h3⟩
  · intro hRO i t xs hu hi b hb
    obtain ⟨B', hB'⟩ := hu
    obtain ⟨t', xs', rfl, h1⟩ := old i B' hB'
    rcases h1 with h1 | h1
    · have hlv : liveAt σ.bk i := ⟨_, h1, trivial⟩
      obtain ⟨h2, h3⟩ := hR.mem.bound i hlv b hb
      refine ⟨?_, h2, fun j hj hjb => ?_, hR.mem.apart i hlv b hb⟩
      · exact .inr h3
      · by_cases e : i = j
        · subst e; exact dead i ⟨_, hB'⟩ hj
        · obtain ⟨B2, h4, h5⟩ := hj
          rw [look_append] at h4
          cases hl : look fz j with
          | some B3 => exact dead j ⟨B3, hl⟩ ⟨B2, by rw [look_append, hl]; rw [hl] at h4; exact h4, h5⟩
          | none =>
            rw [hl] at h4
            exact hR.mem.disj i j hlv ⟨B2, by simpa using h4, h5⟩ e b hb hjb
    · exact hRO b (hR.mem.frozen i _ _ h1 b hb)
  · intro i hu hn
    obtain ⟨B', hB'⟩ := hu
    exact h64 (i, B') (look_mem hB')

/-- a block that is written where it lies -/
theorem mem_write (hR : Rel cx σ a w pl) {i b c : Nat} {B B' : Blk O} (hi : look σ.bk i = some B) (hlive : B.live) (hlive' : B'.live) (hp : pl i = .at b c) {w' : World} (hx : Ext (fun x => x ≠ b) w w')
    (h1 : ∀ t n, isRow B' t n → isRow B t n) (h2 : isBox B' → isBox B) (h3 : isObj B' → isObj B)
    (hB : (∀ b, RO cx w σ.bk pl b → RO cx w' ((i, B') :: σ.bk) pl b) → (∀ b, RO cx w σ.bk pl b → w'.heap[b]? = w.heap[b]?) → Keeps σ.bk ((i, B') :: σ.bk) pl pl →
      BR w' (RO cx w' ((i, B') :: σ.bk) pl) ((i, B') :: σ.bk) pl i B') :
    (Mem cx w' ((i, B') :: σ.bk) pl ∧ (∀ b, RO cx w σ.bk pl b → RO cx w' ((i, B') :: σ.bk) pl b) ∧ (∀ b, RO cx w σ.bk pl b → w'.heap[b]? = w.heap[b]?)) ∧ Keeps σ.bk ((i, B') :: σ.bk) pl pl := by
  have hk : Keeps σ.bk ((i, B') :: σ.bk) pl pl := by
    intro j Bj hj
    refine ⟨Pl.same_refl _, ?_⟩
    by_cases e : i = j
    · subst e
      rw [hi] at hj
      cases hj
      exact ⟨B', by rw [look_cons]; simp, h1, h2, h3⟩
    · exact ⟨Bj, by rw [look_cons, if_neg e]; exact hj, fun _ _ h => h, id, id⟩
  refine ⟨mem_gen hR.mem (fun j => j = i) (hx.mono fun _ _ h => h.elim) ?_ hk ?_ ?_ ?_ ?_ ?_ ?_, hk⟩
  · intro x hxl hx'
    refine hx.keep x hxl fun e => hx' i rfl ⟨B, hi, hlive⟩ ?_
    rw [hp, e]; rfl
  · intro j Bj hj hne
    rw [look_cons, if_neg (fun e => hne e.symm)] at hj
    exact ⟨hj, rfl⟩
  · rintro j rfl _ x hxf
    exact ⟨Nat.lt_of_lt_of_le (hR.mem.bound j ⟨B, hi, hlive⟩ x hxf).1 hx.size, .inr ⟨j, rfl, ⟨B, hi, hlive⟩, hxf⟩⟩
  · rintro j k rfl rfl _ _ hjk
    exact absurd rfl hjk
  · rintro hRO hRw j Bj rfl hj
    rw [look_cons, if_pos rfl] at hj
    cases hj
    exact hB hRO hRw hk
  · rintro hRO j t xs rfl hj
    rw [look_cons, if_pos rfl] at hj
    cases hj
    exact hlive'.elim
  · rintro j rfl hn
    rw [hi] at hn; cases hn

/-! boxes -/
theorem cells_one {v : Value} (h : v.oneCell' = true) : v.cells = #[v] := by cases v <;> first | rfl | simp [Value.oneCell'] at h
theorem CR_one {R : Nat → Prop} {bk : List (Nat × Blk O)} : ∀ {c : C} {v : Value}, CR w R bk pl c v → okC c = true → v.oneCell' = true
  | .sc u, v, h, hc => by
    rw [show v = u from h]
    cases u <;> first | rfl | simp [okC] at hc
  | .ro t xs, v, h, _ => by
    obtain ⟨A, c, e, _⟩ := h
    simp only [List.cons.injEq, and_true] at e
    subst e; rfl
  | .own i, v, h, _ => h.1
  | .sub i lo n, v, h, _ => h.1
  | .ptr i off, v, h, _ => h.1
  | .rptr i idx off, v, h, _ => h.1
  | .rop t x off, v, ⟨_, _, _, _, _, e⟩, _ => by subst e; rfl
  | .obj i, v, h, _ => h.1
  | .gi i, v, h, _ => h.1
  | .arr i n, v, h, _ => h.1
  | .it i, v, h, _ => h.1
  | .mayb e, v, h, _ => by obtain ⟨b, rfl, _⟩ := h; rfl
theorem okCs_cons {c : C} {cs : List C} (h : okCs (c :: cs) = true) : okC c = true ∧ okCs cs = true := by
  unfold okCs at h
  cases hc : okC c with
  | false => rw [hc] at h; simp at h
  | true => rw [hc] at h; exact ⟨rfl, h⟩
theorem All2_one {R : Nat → Prop} {bk : List (Nat × Blk O)} : ∀ {cs : List C} {vs : List Value}, All2 (CR w R bk pl) cs vs → okCs cs = true → ∀ v ∈ vs, v.oneCell' = true
  | [], [], _, _ => by simp
  | c :: cs, v :: vs, h, hc => by
    obtain ⟨h1, h2⟩ := okCs_cons hc
    intro u hu
    rcases List.mem_cons.1 hu with rfl | hu
    · exact CR_one h.1 h1
    · exact All2_one h.2 h2 u hu
  | [], _ :: _, h, _ => h.elim
  | _ :: _, [], h, _ => h.elim
theorem TR_cells {R : Nat → Prop} {bk : List (Nat × Blk O)} {t : T} {v : Value} (h : TR w R bk pl t v) (hc : okCs t.cells = true) : All2 (CR w R bk pl) t.cells v.cells.toList := by
  cases t with
  | ag cs => obtain ⟨arr, rfl, h⟩ := h; exact h
  | one c =>
    have h1 := CR_one h (okCs_cons hc).1
    rw [cells_one h1]
    exact ⟨h, trivial⟩
theorem capp_cons {α : Type} (x : α) (xs : List α) : capp [x] xs = x :: xs := rfl
theorem good_box (hR : Rel cx σ a w pl) (hd : ∀ d, o.dst = some d → d < cx.N) {nb : Nat} {e : TypeId} {x : Operand}
    (ho : o.op = .box e x) (h : (opBox nb o.dst x : RM O).to σ wr) : Good P cx σ a w o wr := by
  obtain ⟨t, h1, h2⟩ := evT_to h
  have ht := opd_TR hR h1
  cases hok : okCs t.cells with
  | false => rw [hok] at h2; exact h2.elim
  | true =>
    rw [hok] at h2
    simp only [forceM_eq] at h2
    obtain ⟨h3, h4, h5⟩ := fresh_to h2
    cases h5
    have hcs := TR_cells ht hok
    have hM := mem_alloc hR h3 h4 (w' := w.alloc (.cells (a.eval x).cells e)) (Ext.alloc _ _) (B := .box t.cells) (p := .at w.heap.size 0) (fun b hb => by cases hb; simp) trivial
      (fun hRO hRw hk => ⟨w.heap.size, 0, _, e, plus_same _ _ _, heap_alloc_new w _, hcs.mono (CR_mono hRO hRw hk)⟩)
    refine good_value (v := .pointer (some ⟨w.heap.size, 0, none⟩)) (w' := w.alloc (.cells (a.eval x).cells e)) (pl' := plus pl nb (.at w.heap.size 0)) (by simp [execOp, ho, Instr.box, newVar, newRow]) ?_
    exact rel_gen hR hM.1 hM.2 hd ⟨rfl, .box t.cells, by rw [look_cons]; simp, fun _ => ⟨_, _, plus_same _ _ _, rfl⟩⟩
theorem good_alloc (hT : TTok P cfg.tt) (hR : Rel cx σ a w pl) (hd : ∀ d, o.dst = some d → d < cx.N) {nb : Nat} {e : TypeId}
    (ho : o.op = .alloc e) (h : (opAlloc cfg nb o.dst e : RM O).to σ wr) : Good P cx σ a w o wr := by
  obtain ⟨ti, h1, h2⟩ := getTI_to h
  simp only [forceM_eq] at h2
  obtain ⟨h3, h4, h5⟩ := fresh_to h2
  cases h5
  obtain ⟨i, z, g1, g2, g3, g4, g5⟩ := (hT e ti h1).info
  have hcs : ∀ (R : Nat → Prop) (bk : List (Nat × Blk O)) (pl : Nat → Pl), All2 (CR (w.alloc (.cells z.cells e)) R bk pl) (ti.zero.map .sc) z.cells.toList := by
    intro R bk pl
    rw [g5]; exact All2_sc _
  have hM := mem_alloc hR h3 h4 (w' := w.alloc (.cells z.cells e)) (Ext.alloc _ _) (B := .box (ti.zero.map .sc)) (p := .at w.heap.size 0) (fun b hb => by cases hb; simp) trivial
    (fun hRO hRw hk => ⟨w.heap.size, 0, _, e, plus_same _ _ _, heap_alloc_new w _, hcs _ _ _⟩)
  refine good_value (v := .pointer (some ⟨w.heap.size, 0, none⟩)) (w' := w.alloc (.cells z.cells e)) (pl' := plus pl nb (.at w.heap.size 0)) (by simp [execOp, ho, Instr.alloc, zeroValue, typeInfo, g1, g4, newVar, newRow]) ?_
  exact rel_gen hR hM.1 hM.2 hd ⟨rfl, .box (ti.zero.map .sc), by rw [look_cons]; simp, fun _ => ⟨_, _, plus_same _ _ _, rfl⟩⟩
/-- a row that is written whole -/
theorem setRow_Ext (w : World) (g : Nat) (cs : Array Value) : Ext (fun x => x ≠ g) w (w.setRow g cs) :=
  ⟨rfl, rfl, rfl, by simp, fun b _ hb => setRow_other w g b cs hb⟩
theorem storeVar_run {t : Nat} {ti : TI} (hti : TIok P t ti) {g off : Nat} {arr : Array Value} {e : TypeId} (hg : w.heap[g]? = some (.cells arr e (0, 0))) {v : Value} (hl : v.cells.size = ti.size)
    (hfit : off + v.cells.size ≤ arr.size) (h1 : ∀ u ∈ v.cells.toList, u.oneCell' = true) :
    (storeVar t ⟨g, off, none⟩ v).run P w = .ok () (w.setRow g (arr.toList.take off ++ v.cells.toList ++ arr.toList.drop (off + v.cells.size)).toArray) := by
  have := run_storeCells_at (P := P) g off e v.cells.toList 0 arr w hg (by simpa using hfit) h1
  simp only [Nat.add_zero, Array.length_toList] at this
  rw [hl] at this
  simp only [List.append_assoc] at this
  simp [storeVar, sizeOf_run hti, hl]
  exact this
end
end Go.BB
