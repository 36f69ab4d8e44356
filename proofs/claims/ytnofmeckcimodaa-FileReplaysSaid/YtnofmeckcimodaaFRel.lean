/- A symbolic machine for the model's code, and what it shows of this seat's functions. No conditions. -/
import Derived.Test.YtnofmeckcimodaaFVm
import Derived.Laws.Append
import Derived.Laws.CopyRow
import Derived.Laws.OwnMore
import Derived.Below
set_option linter.unusedVariables false
set_option linter.unusedSimpArgs false
namespace Go.BB
open Go

theorem forceL_eq {α A : Type} (xs : List α) (k : List α → A) : forceL xs k = k xs := by
 induction xs generalizing k with
 | nil => rfl
 | cons x xs ih => simp only [forceL, ih]
theorem forceM_eq {α : Type} {A : Type 1} (xs : List α) (k : List α → A) : forceM xs k = k xs := by
 induction xs generalizing k with
 | nil => rfl
 | cons x xs ih => simp only [forceM, ih]
theorem forceN_eq {A : Type} (n : Nat) (k : Nat → A) : forceN n k = k n := by cases n <;> rfl
theorem capp_eq {α : Type} (xs ys : List α) : capp xs ys = xs ++ ys := by
 induction xs with
 | nil => rfl
 | cons x xs ih => simp only [capp, ih, List.cons_append]
theorem ctake_eq {α : Type} (n : Nat) (xs : List α) : ctake n xs = xs.take n := by
 induction n generalizing xs with
 | zero => simp [ctake]
 | succ n ih => cases xs <;> simp [ctake, ih]
theorem cdrop_eq {α : Type} (n : Nat) (xs : List α) : cdrop n xs = xs.drop n := by
 induction n generalizing xs with
 | zero => simp [cdrop]
 | succ n ih => cases xs <;> simp [cdrop, ih]
theorem clen_eq {α : Type} (xs : List α) : clen xs = xs.length := by
 induction xs with
 | nil => rfl
 | cons x xs ih => simp [clen, ih]
theorem memN_iff (i : Nat) (xs : List Nat) : memN i xs = true ↔ i ∈ xs := by
 induction xs with
 | nil => simp [memN]
 | cons x xs ih =>
  simp only [memN, List.mem_cons]
  cases h : Nat.beq x i with
  | true => simp [(Nat.eq_of_beq_eq_true h).symm]
  | false =>
   have : i ≠ x := fun e => by subst e; simp at h
   simp [ih, this]
theorem St.force_eq {O : ObjK} {A : Type} (σ : St O) (k : St O → A) : σ.force k = k σ := by
 cases σ; simp [St.force, forceL_eq]
theorem Wr.force_eq {O : ObjK} {A : Type} (σ : Wr O) (k : Wr O → A) : σ.force k = k σ := by
 cases σ; simp [Wr.force, forceL_eq]
theorem look_cons {α : Type} (p : Nat × α) (ps : List (Nat × α)) (i : Nat) : look (p :: ps) i = if p.1 = i then some p.2 else look ps i := by
 obtain ⟨j, x⟩ := p
 simp only [look]
 cases h : Nat.beq j i with
 | true => simp [Nat.eq_of_beq_eq_true h]
 | false =>
  have : j ≠ i := fun e => by subst e; simp at h
  simp [this]
theorem look_append {α : Type} (ps qs : List (Nat × α)) (i : Nat) : look (ps ++ qs) i = (look ps i).or (look qs i) := by
 induction ps with
 | nil => simp [look]
 | cons p ps ih => rw [List.cons_append, look_cons, look_cons, ih]; split <;> simp
theorem br_some {α : Type} {b : Bool} {x y : Option α} {r : α} (h : br b x y = some r) : (b = true ∧ x = some r) ∨ (b = false ∧ y = some r) := by
 cases b
 ·exact .inr ⟨rfl, h⟩
 ·exact .inl ⟨rfl, h⟩
theorem bd_some {α β : Type} {o : Option α} {f : α → Option β} {r : β} (h : bd o f = some r) : ∃ a, o = some a ∧ f a = some r := by
 simpa [bd, Option.bind_eq_some_iff] using h

def All2 {α β : Type} (r : α → β → Prop) : List α → List β → Prop
 | [], [] => True
 | x :: xs, y :: ys => r x y ∧ All2 r xs ys
 | _, _ => False
theorem All2.length {α β : Type} {r : α → β → Prop} : ∀ {xs : List α} {ys : List β}, All2 r xs ys → xs.length = ys.length
 | [], [], _ => rfl
 | _ :: _, _ :: _, h => by simp [All2.length h.2]
 | [], _ :: _, h => h.elim
 | _ :: _, [], h => h.elim
theorem All2.mono {α β : Type} {r r' : α → β → Prop} (hr : ∀ x y, r x y → r' x y) : ∀ {xs : List α} {ys : List β}, All2 r xs ys → All2 r' xs ys
 | [], [], _ => trivial
 | _ :: _, _ :: _, h => ⟨hr _ _ h.1, All2.mono hr h.2⟩
 | [], _ :: _, h => h.elim
 | _ :: _, [], h => h.elim
theorem All2.get {α β : Type} {r : α → β → Prop} : ∀ {xs : List α} {ys : List β}, All2 r xs ys → ∀ (i : Nat) (x : α), xs[i]? = some x → ∃ y, ys[i]? = some y ∧ r x y
 | [], _, _, i, x, h => by simp at h
 | x :: xs, y :: ys, h, 0, z, hz => by simp at hz; subst hz; exact ⟨y, rfl, h.1⟩
 | x :: xs, y :: ys, h, i + 1, z, hz => by simpa using All2.get h.2 i z (by simpa using hz)
 | _ :: _, [], h, _, _, _ => h.elim
theorem All2.append {α β : Type} {r : α → β → Prop} : ∀ {xs : List α} {ys : List β} {xs' : List α} {ys' : List β}, All2 r xs ys → All2 r xs' ys' → All2 r (xs ++ xs') (ys ++ ys')
 | [], [], _, _, _, h => h
 | _ :: _, _ :: _, _, _, h, h' => ⟨h.1, All2.append h.2 h'⟩
 | [], _ :: _, _, _, h, _ => h.elim
 | _ :: _, [], _, _, h, _ => h.elim
theorem All2.take {α β : Type} {r : α → β → Prop} : ∀ {xs : List α} {ys : List β} (n : Nat), All2 r xs ys → All2 r (xs.take n) (ys.take n)
 | [], [], _, _ => by simp [All2]
 | _ :: _, _ :: _, 0, _ => by simp [All2]
 | _ :: _, _ :: _, n + 1, h => by simp only [List.take_succ_cons]; exact ⟨h.1, All2.take n h.2⟩
 | [], _ :: _, _, h => h.elim
 | _ :: _, [], _, h => h.elim
theorem All2.drop {α β : Type} {r : α → β → Prop} : ∀ {xs : List α} {ys : List β} (n : Nat), All2 r xs ys → All2 r (xs.drop n) (ys.drop n)
 | [], [], _, _ => by simp [All2]
 | _ :: _, _ :: _, 0, h => by simpa using h
 | _ :: _, _ :: _, n + 1, h => by simp only [List.drop_succ_cons]; exact All2.drop n h.2
 | [], _ :: _, _, h => h.elim
 | _ :: _, [], _, h => h.elim

theorem add_block (a : Addr) (n : Nat) : (a.add n).block = a.block := by unfold Addr.add; split <;> rfl
theorem add_add (a : Addr) (m n : Nat) : (a.add m).add n = a.add (m + n) := by
 unfold Addr.add
 by_cases hm : m = 0
 ·subst hm; simp
 ·by_cases hn : n = 0
  ·subst hn; simp [hm]
  ·simp [hm, hn, Nat.add_assoc]
theorem add_at (b o n : Nat) : (⟨b, o, none⟩ : Addr).add n = ⟨b, o + n, none⟩ := by
 unfold Addr.add; split
 ·rename_i h; subst h; rfl
 ·rfl

def RepL {α : Type} (w : World) (R : Nat → Prop) (rep : α → List Value → Prop) (sz : Nat) (xs : List α) (vs : List Value) : Prop :=
 ∃ (A : Option Addr) (c : Nat), vs = [.slice A xs.length c] ∧ xs.length ≤ c ∧ (0 < xs.length → ∃ ad : Addr, A = some ad ∧ R ad.block ∧
   ∀ (j : Nat) (x : α), xs[j]? = some x → ∃ cs, rep x cs ∧ ∀ q v, cs[q]? = some v → w.cell? (ad.add (j * sz + q)) = some v)
def Rep (w : World) (R : Nat → Prop) : (t : Ty) → t.den → List Value → Prop
 | .int k, n, vs => vs = [.int k n]
 | .bool, b, vs => vs = [.bool b]
 | .str, s, vs => vs = [.string s]
 | .unit, _, vs => vs = []
 | .pair a b, x, vs => ∃ v1 v2, vs = v1 ++ v2 ∧ Rep w R a x.1 v1 ∧ Rep w R b x.2 v2
 | .slice t, xs, vs => RepL w R (Rep w R t) t.sz xs vs
theorem Rep_mono {w w' : World} {R R' : Nat → Prop} (hR : ∀ b, R b → R' b) (hw : ∀ b, R b → w'.heap[b]? = w.heap[b]?) :
  ∀ (t : Ty) (x : t.den) (vs : List Value), Rep w R t x vs → Rep w' R' t x vs
 | .int _, _, _, h => h
 | .bool, _, _, h => h
 | .str, _, _, h => h
 | .unit, _, _, h => h
 | .pair a b, x, vs, ⟨v1, v2, e, h1, h2⟩ => ⟨v1, v2, e, Rep_mono hR hw a x.1 v1 h1, Rep_mono hR hw b x.2 v2 h2⟩
 | .slice t, xs, vs, ⟨A, c, e, hc, h⟩ => ⟨A, c, e, hc, fun hp => by
   obtain ⟨ad, ha, hb, hj⟩ := h hp
   refine ⟨ad, ha, hR _ hb, fun j x hx => ?_⟩
   obtain ⟨cs, h1, h2⟩ := hj j x hx
   exact ⟨cs, Rep_mono hR hw t x cs h1, fun q v hq => (World.cell?_of_block (by rw [add_block]; exact hw _ hb)).trans (h2 q v hq)⟩⟩
theorem Rep_len {w : World} {R : Nat → Prop} : ∀ (t : Ty) (x : t.den) (vs : List Value), Rep w R t x vs → vs.length = t.sz
 | .int _, _, _, h => by cases h; rfl
 | .bool, _, _, h => by cases h; rfl
 | .str, _, _, h => by cases h; rfl
 | .unit, _, _, h => by cases h; rfl
 | .pair a b, x, vs, ⟨v1, v2, e, h1, h2⟩ => by subst e; simp [Ty.sz, Rep_len a x.1 v1 h1, Rep_len b x.2 v2 h2, Nat.add_eq]
 | .slice t, xs, vs, ⟨A, c, e, hc, h⟩ => by subst e; rfl
theorem Rep_one {w : World} {R : Nat → Prop} : ∀ (t : Ty) (x : t.den) (vs : List Value), Rep w R t x vs → ∀ v ∈ vs, v.oneCell' = true
 | .int _, _, _, h => by cases h; simp [Value.oneCell']
 | .bool, _, _, h => by cases h; simp [Value.oneCell']
 | .str, _, _, h => by cases h; simp [Value.oneCell']
 | .unit, _, _, h => by cases h; simp
 | .pair a b, x, vs, ⟨v1, v2, e, h1, h2⟩ => by
  subst e
  intro v hv
  rcases List.mem_append.1 hv with h | h
  ·exact Rep_one a x.1 v1 h1 v h
  ·exact Rep_one b x.2 v2 h2 v h
 | .slice t, xs, vs, ⟨A, c, e, hc, h⟩ => by subst e; simp [Value.oneCell']

inductive Pl where
 | nil
 | at (b cap : Nat)
 | obj (v : Value) (fp : Nat → Prop)
def Pl.fp : Pl → Nat → Prop
 | .nil, _ => False
 | .at b _, x => x = b
 | .obj _ f, x => f x
def Pl.same : Pl → Pl → Prop
 | .nil, q => q = .nil
 | .at b c, q => q = .at b c
 | .obj v _, q => ∃ f, q = .obj v f
theorem Pl.same_refl (p : Pl) : p.same p := by cases p <;> simp [Pl.same]
theorem Pl.same_trans {p q r : Pl} (h : p.same q) (h' : q.same r) : p.same r := by
 cases p with
 | nil => cases h; exact h'
 | «at» b c => cases h; exact h'
 | obj v f => obtain ⟨g, rfl⟩ := h; exact h'

def ownV (p : Pl) (n : Nat) (u : Value) : Prop :=
 match p with
 | .nil => u = .slice none 0 0 ∧ n = 0
 | .at b cap => u = .slice (some ⟨b, 0, none⟩) n cap
 | .obj _ _ => False
def subV (p : Pl) (sz lo n : Nat) (u : Value) : Prop :=
 match p with
 | .nil => u = .slice none 0 0 ∧ lo = 0 ∧ n = 0
 | .at b cap => ∃ ad, u = .slice (some ad) n (cap - lo) ∧ lo + n ≤ cap ∧ ad.block = b ∧ (lo < cap → ad = ⟨b, lo * sz, none⟩)
 | .obj _ _ => False
def RowAt (w : World) (R : Nat → Prop) (p : Pl) (t : Ty) (xs : List t.den) : Prop :=
 match p with
 | .nil => xs = []
 | .at b cap => ∃ arr e, w.heap[b]? = some (.cells arr e (0, 0)) ∧ arr.size = cap * t.sz ∧ xs.length ≤ cap ∧ cap ≤ maxLen ∧
   ∀ (j : Nat) (x : t.den), xs[j]? = some x → ∃ cs, Rep w R t x cs ∧ ∀ q v, cs[q]? = some v → arr[j * t.sz + q]? = some v
 | .obj _ _ => False

def TRep (w : World) (R : Nat → Prop) (t : Ty) (x : t.den) (v : Value) : Prop :=
 match t.isAgg with
 | true => ∃ arr, v = .agg arr ∧ Rep w R t x arr.toList
 | false => Rep w R t x [v]
theorem TRep_mono {w w' : World} {R R' : Nat → Prop} (hR : ∀ b, R b → R' b) (hw : ∀ b, R b → w'.heap[b]? = w.heap[b]?) {t : Ty} {x : t.den} {v : Value} (h : TRep w R t x v) : TRep w' R' t x v := by
 unfold TRep at h ⊢
 cases ht : t.isAgg with
 | true =>
  rw [ht] at h
  obtain ⟨arr, e, h⟩ := h
  exact ⟨arr, e, Rep_mono hR hw _ _ _ h⟩
 | false => rw [ht] at h; exact Rep_mono hR hw _ _ _ h
theorem Rep_flat {w w' : World} {R R' : Nat → Prop} : ∀ (t : Ty) (x : t.den) (vs : List Value), t.flat = true → Rep w R t x vs → Rep w' R' t x vs
 | .int _, _, _, _, h => h
 | .bool, _, _, _, h => h
 | .str, _, _, _, h => h
 | .unit, _, _, _, h => h
 | .pair a b, x, vs, hf, ⟨v1, v2, e, h1, h2⟩ => by
  unfold Ty.flat at hf
  cases ha : a.flat with
  | false => rw [ha] at hf; cases hf
  | true =>
   rw [ha] at hf
   exact ⟨v1, v2, e, Rep_flat a x.1 v1 ha h1, Rep_flat b x.2 v2 hf h2⟩
 | .slice t, _, _, hf, _ => by simp [Ty.flat] at hf
theorem TRep_flat {w w' : World} {R R' : Nat → Prop} {t : Ty} (hf : t.flat = true) {x : t.den} {v : Value} (h : TRep w R t x v) : TRep w' R' t x v := by
 unfold TRep at h ⊢
 cases ht : t.isAgg with
 | true =>
  rw [ht] at h
  obtain ⟨arr, e, h⟩ := h
  exact ⟨arr, e, Rep_flat _ _ _ hf h⟩
 | false => rw [ht] at h; exact Rep_flat _ _ _ hf h
theorem RowAt_mono {w w' : World} {R R' : Nat → Prop} {p q : Pl} (hR : ∀ b, R b → R' b) (hw : ∀ b, R b → w'.heap[b]? = w.heap[b]?)
  (hp : p.same q) (hf : ∀ b, p.fp b → w'.heap[b]? = w.heap[b]?) {t : Ty} {xs : List t.den} (h : RowAt w R p t xs) : RowAt w' R' q t xs := by
 cases p with
 | nil => cases hp; exact h
 | «at» b c =>
  cases hp
  obtain ⟨arr, e, h1, h2, h3, h4, h5⟩ := h
  refine ⟨arr, e, by rw [hf b rfl]; exact h1, h2, h3, h4, fun j x hx => ?_⟩
  obtain ⟨cs, h6, h7⟩ := h5 j x hx
  exact ⟨cs, Rep_mono hR hw _ _ _ h6, h7⟩
 | obj v f => exact h.elim
theorem RowAt_flat {w : World} {R R' : Nat → Prop} {p : Pl} {t : Ty} (hf : t.flat = true) {xs : List t.den} (h : RowAt w R p t xs) : RowAt w R' p t xs := by
 cases p with
 | nil => exact h
 | obj v f => exact h.elim
 | «at» b c =>
  obtain ⟨arr, e, h1, h2, h3, h4, h5⟩ := h
  refine ⟨arr, e, h1, h2, h3, h4, fun j x hj => ?_⟩
  obtain ⟨cs, h6, h7⟩ := h5 j x hj
  exact ⟨cs, Rep_flat _ _ _ hf h6, h7⟩
def Disj : List Pl → Prop
 | [] => True
 | p :: ps => (∀ q ∈ ps, ∀ b, p.fp b → ¬ q.fp b) ∧ Disj ps
def DEnt (w : World) (R : Nat → Prop) (a b e c : Ty) (S : List e.den → Value → Prop) (x : (dT a b e c).den) (vs : List Value) : Prop :=
 ∃ v1 v2 u v4, vs = v1 ++ (v2 ++ (u :: v4)) ∧ Rep w R a x.1 v1 ∧ Rep w R b x.2.1 v2 ∧ S (dsl x) u ∧ Rep w R c x.2.2.2 v4
def DRow (w : World) (R : Nat → Prop) (a b e c : Ty) (S : Nat → List e.den → Value → Prop) (p : Pl) (xs : List (dT a b e c).den) : Prop :=
 match p with
 | .nil => xs = []
 | .at bl cap => ∃ arr e', w.heap[bl]? = some (.cells arr e' (0, 0)) ∧ arr.size = cap * (dT a b e c).sz ∧ xs.length ≤ cap ∧ cap ≤ maxLen ∧
   ∀ (j : Nat) (x : (dT a b e c).den), xs[j]? = some x → ∃ cs, DEnt w R a b e c (S j) x cs ∧ ∀ q v, cs[q]? = some v → arr[j * (dT a b e c).sz + q]? = some v
 | .obj _ _ => False
def ownS (w : World) (R : Nat → Prop) (e : Ty) (ps : List Pl) (j : Nat) (ys : List e.den) (u : Value) : Prop := ∃ q, ps[j]? = some q ∧ RowAt w R q e ys ∧ ownV q ys.length u
theorem DRow_mono {w w' : World} {R R' : Nat → Prop} {p : Pl} (hR : ∀ b, R b → R' b) (hw : ∀ b, R b → w'.heap[b]? = w.heap[b]?) (hf : ∀ b, p.fp b → w'.heap[b]? = w.heap[b]?)
  {a b e c : Ty} {S S' : Nat → List e.den → Value → Prop} {xs : List (dT a b e c).den} (hS : ∀ j x u, xs[j]? = some x → S j (dsl x) u → S' j (dsl x) u)
  (h : DRow w R a b e c S p xs) : DRow w' R' a b e c S' p xs := by
 cases p with
 | nil => exact h
 | obj v f => exact h.elim
 | «at» bl cap =>
  obtain ⟨arr, e', h1, h2, h3, h4, h5⟩ := h
  refine ⟨arr, e', by rw [hf bl rfl]; exact h1, h2, h3, h4, fun j x hj => ?_⟩
  obtain ⟨cs, ⟨v1, v2, u, v4, g1, g2, g3, g4, g5⟩, h7⟩ := h5 j x hj
  exact ⟨cs, ⟨v1, v2, u, v4, g1, Rep_mono hR hw _ _ _ g2, Rep_mono hR hw _ _ _ g3, hS j x u hj g4, Rep_mono hR hw _ _ _ g5⟩, h7⟩
theorem ownS_mono {w w' : World} {R R' : Nat → Prop} {ps : List Pl} (hR : ∀ b, R b → R' b) (hw : ∀ b, R b → w'.heap[b]? = w.heap[b]?) (hf : ∀ p ∈ ps, ∀ b, p.fp b → w'.heap[b]? = w.heap[b]?)
  {e : Ty} {j : Nat} {ys : List e.den} {u : Value} (h : ownS w R e ps j ys u) : ownS w' R' e ps j ys u := by
 obtain ⟨q, h1, h2, h3⟩ := h
 exact ⟨q, h1, RowAt_mono hR hw (Pl.same_refl _) (hf q (List.mem_of_getElem? h1)) h2, h3⟩
def Stamps (es : List MapEntry) (clock : Nat) : Prop := es.Pairwise (fun a b => a.born < b.born) ∧ ∀ e ∈ es, e.born < clock
def EntS (w : World) (R : Nat → Prop) (kt t : Ty) : List (kt.den × List t.den) → List MapEntry → List Pl → Prop
 | [], [], [] => True
 | x :: m, e :: es, p :: ps => (TRep w R kt x.1 e.key ∧ RowAt w R p t x.2 ∧ ownV p x.2.length e.val) ∧ EntS w R kt t m es ps
 | _, _, _ => False
def MapRel (w : World) (R : Nat → Prop) : (k : MapK) → k.den → Value → (Nat → Prop) → Prop
 | .map kt vt, m, v, fp => kt.flat = true ∧ ∃ b es clock, v = .map (some b) ∧ w.heap[b]? = some (.map es clock) ∧ (∀ x, fp x ↔ x = b) ∧ Stamps es.toList clock ∧
   All2 (fun (x : kt.den × vt.den) e => TRep w R kt x.1 e.key ∧ TRep w R vt x.2 e.val) m es.toList
 | .mapS kt t, m, v, fp => kt.flat = true ∧ 0 < t.sz ∧ ∃ b es clock ps, v = .map (some b) ∧ w.heap[b]? = some (.map es clock) ∧ (∀ x, fp x ↔ x = b ∨ ∃ p ∈ ps, p.fp x) ∧ Stamps es.toList clock ∧
   EntS w R kt t m es.toList ps ∧ Disj ps ∧ ∀ p ∈ ps, ¬ p.fp b
 | .deep a b e c, xs, v, fp => 0 < e.sz ∧ ∃ p ps, ps.length = List.length xs ∧ ownV p (List.length xs) v ∧ DRow w R a b e c (ownS w R e ps) p xs ∧ (∀ x, fp x ↔ p.fp x ∨ ∃ q ∈ ps, q.fp x) ∧ Disj (p :: ps)
theorem EntS_mono {w w' : World} {R R' : Nat → Prop} (hR : ∀ b, R b → R' b) (hw : ∀ b, R b → w'.heap[b]? = w.heap[b]?) {kt t : Ty} : ∀ {m : List (kt.den × List t.den)} {es : List MapEntry} {ps : List Pl},
  (∀ p ∈ ps, ∀ b, p.fp b → w'.heap[b]? = w.heap[b]?) → EntS w R kt t m es ps → EntS w' R' kt t m es ps
 | [], [], [], _, _ => trivial
 | _ :: _, _ :: _, p :: ps, hf, h => ⟨⟨TRep_mono hR hw h.1.1, RowAt_mono hR hw (Pl.same_refl _) (hf p List.mem_cons_self) h.1.2.1, h.1.2.2⟩, EntS_mono hR hw (fun q hq => hf q (List.mem_cons_of_mem _ hq)) h.2⟩
 | [], [], _ :: _, _, h => h.elim
 | [], _ :: _, _, _, h => h.elim
 | _ :: _, [], _, _, h => h.elim
 | _ :: _, _ :: _, [], _, h => h.elim
theorem MapRel_mono {w w' : World} {R R' : Nat → Prop} (hR : ∀ b, R b → R' b) (hw : ∀ b, R b → w'.heap[b]? = w.heap[b]?) {v : Value} {fp : Nat → Prop} (hf : ∀ b, fp b → w'.heap[b]? = w.heap[b]?) :
  ∀ (k : MapK) (x : k.den), MapRel w R k x v fp → MapRel w' R' k x v fp
 | .map kt vt, m, ⟨h0, b, es, clock, h1, h2, h3, h4, h5⟩ => ⟨h0, b, es, clock, h1, by rw [hf b ((h3 b).2 rfl)]; exact h2, h3, h4, h5.mono fun x e h => ⟨TRep_mono hR hw h.1, TRep_mono hR hw h.2⟩⟩
 | .mapS kt t, m, ⟨h0, hz, b, es, clock, ps, h1, h2, h3, h4, h5, h6⟩ =>
  ⟨h0, hz, b, es, clock, ps, h1, by rw [hf b ((h3 b).2 (.inl rfl))]; exact h2, h3, h4, EntS_mono hR hw (fun p hp b hb => hf b ((h3 b).2 (.inr ⟨p, hp, hb⟩))) h5, h6⟩
 | .deep a b e c, xs, ⟨h0, p, ps, h1, h2, h3, h4, h5⟩ =>
  ⟨h0, p, ps, h1, h2, DRow_mono hR hw (fun b hb => hf b ((h4 b).2 (.inl hb))) (fun j x u _ h => ownS_mono hR hw (fun p hp b hb => hf b ((h4 b).2 (.inr ⟨p, hp, hb⟩))) h) h3, h4, h5⟩
theorem EntS_flat {w : World} {R R' : Nat → Prop} {kt t : Ty} (hk : kt.flat = true) (ht : t.flat = true) : ∀ {m : List (kt.den × List t.den)} {es : List MapEntry} {ps : List Pl}, EntS w R kt t m es ps → EntS w R' kt t m es ps
 | [], [], [], _ => trivial
 | _ :: _, _ :: _, p :: ps, h => ⟨⟨TRep_flat hk h.1.1, RowAt_flat ht h.1.2.1, h.1.2.2⟩, EntS_flat hk ht h.2⟩
 | [], [], _ :: _, h => h.elim
 | [], _ :: _, _, h => h.elim
 | _ :: _, [], _, h => h.elim
 | _ :: _, _ :: _, [], h => h.elim
theorem MapRel_flat {w : World} {R R' : Nat → Prop} {v : Value} {fp : Nat → Prop} : ∀ {k : MapK} (_ : k.flat = true) {x : k.den}, MapRel w R k x v fp → MapRel w R' k x v fp
 | .map kt vt, hk, m, ⟨h0, b, es, clock, h1, h2, h3, h4, h5⟩ => by
  have hv : vt.flat = true := by simpa [MapK.flat, h0] using hk
  exact ⟨h0, b, es, clock, h1, h2, h3, h4, h5.mono fun x e h => ⟨TRep_flat h0 h.1, TRep_flat hv h.2⟩⟩
 | .mapS kt t, hk, m, ⟨h0, hz, b, es, clock, ps, h1, h2, h3, h4, h5, h6⟩ => by
  have ht : t.flat = true := by simpa [MapK.flat, h0] using hk
  exact ⟨h0, hz, b, es, clock, ps, h1, h2, h3, h4, EntS_flat h0 ht h5, h6⟩
 | .deep a b e c, hk, _, _ => by cases hk
theorem MapRel_R {w : World} {R R' : Nat → Prop} (hR : ∀ b, R b → R' b) {v : Value} {fp : Nat → Prop} {k : MapK} {x : k.den} (h : MapRel w R k x v fp) : MapRel w R' k x v fp :=
 MapRel_mono hR (fun _ _ => rfl) (fun _ _ => rfl) k x h

def EntH (w : World) (R : Nat → Prop) (kt t : Ty) (V : Value → Prop) : Option Nat → List (kt.den × List t.den) → List MapEntry → List Pl → Prop
 | _, [], [], [] => True
 | none, x :: m, e :: es, p :: ps => (TRep w R kt x.1 e.key ∧ RowAt w R p t x.2 ∧ ownV p x.2.length e.val) ∧ EntH w R kt t V none m es ps
 | some 0, x :: m, e :: es, p :: ps => (TRep w R kt x.1 e.key ∧ V e.val ∧ p = .nil) ∧ EntH w R kt t V none m es ps
 | some (n + 1), x :: m, e :: es, p :: ps => (TRep w R kt x.1 e.key ∧ RowAt w R p t x.2 ∧ ownV p x.2.length e.val) ∧ EntH w R kt t V (some n) m es ps
 | _, _, _, _ => False
theorem EntH_mono {w w' : World} {R R' : Nat → Prop} (hR : ∀ b, R b → R' b) (hw : ∀ b, R b → w'.heap[b]? = w.heap[b]?) {kt t : Ty} {V V' : Value → Prop} (hV : ∀ u, V u → V' u) : ∀ {n : Option Nat} {m : List (kt.den × List t.den)} {es : List MapEntry} {ps : List Pl},
  (∀ p ∈ ps, ∀ b, p.fp b → w'.heap[b]? = w.heap[b]?) → EntH w R kt t V n m es ps → EntH w' R' kt t V' n m es ps
 | none, [], [], [], _, _ => trivial
 | some _, [], [], [], _, _ => by unfold EntH; trivial
 | none, x :: m, e :: es, p :: ps, hf, h => by
  unfold EntH at h ⊢
  exact ⟨⟨TRep_mono hR hw h.1.1, RowAt_mono hR hw (Pl.same_refl _) (hf p List.mem_cons_self) h.1.2.1, h.1.2.2⟩, EntH_mono hR hw hV (fun q hq => hf q (List.mem_cons_of_mem _ hq)) h.2⟩
 | some 0, x :: m, e :: es, p :: ps, hf, h => by
  unfold EntH at h ⊢
  exact ⟨⟨TRep_mono hR hw h.1.1, hV _ h.1.2.1, h.1.2.2⟩, EntH_mono hR hw hV (fun q hq => hf q (List.mem_cons_of_mem _ hq)) h.2⟩
 | some (n + 1), x :: m, e :: es, p :: ps, hf, h => by
  unfold EntH at h ⊢
  exact ⟨⟨TRep_mono hR hw h.1.1, RowAt_mono hR hw (Pl.same_refl _) (hf p List.mem_cons_self) h.1.2.1, h.1.2.2⟩, EntH_mono hR hw hV (fun q hq => hf q (List.mem_cons_of_mem _ hq)) h.2⟩
 | none, [], [], _ :: _, _, h => by simp [EntH] at h
 | none, [], _ :: _, _, _, h => by simp [EntH] at h
 | none, _ :: _, [], _, _, h => by simp [EntH] at h
 | none, _ :: _, _ :: _, [], _, h => by simp [EntH] at h
 | some _, [], [], _ :: _, _, h => by simp [EntH] at h
 | some _, [], _ :: _, _, _, h => by simp [EntH] at h
 | some 0, _ :: _, [], _, _, h => by simp [EntH] at h
 | some (_ + 1), _ :: _, [], _, _, h => by simp [EntH] at h
 | some 0, _ :: _, _ :: _, [], _, h => by simp [EntH] at h
 | some (_ + 1), _ :: _, _ :: _, [], _, h => by simp [EntH] at h
def ShRel (w : World) (R : Nat → Prop) : (sh : Sh) → sh.den → List Value → List Pl → Prop
 | .val t, x, vs, ps => Rep w R t x vs ∧ ps = []
 | .fn g, _, vs, ps => vs = [wordOf g] ∧ ps = []
 | .rop t, x, vs, ps => ∃ (ad : Addr) (cs : List Value), vs = [.pointer (some ad)] ∧ ps = [] ∧ R ad.block ∧ Rep w R t x cs ∧ ∀ q v, cs[q]? = some v → w.cell? (ad.add q) = some v
 | .nil, _, vs, ps => vs = [.slice none 0 0] ∧ ps = []
 | .own t, x, vs, ps => ∃ v p, vs = [v] ∧ ps = [p] ∧ 0 < t.sz ∧ RowAt w R p t x ∧ ownV p (x : List t.den).length v ∧ v.oneCell' = true
 | .sub t, x, vs, ps => ∃ v p, vs = [v] ∧ ps = [p] ∧ 0 < t.sz ∧ RowAt w R p t x.1 ∧ subV p t.sz 0 x.2 v ∧ x.2 ≤ (x.1 : List t.den).length ∧ v.oneCell' = true
 | .map k, x, vs, ps => ∃ v f, vs = [v] ∧ ps = [.obj v f] ∧ MapRel w R k x v f
 | .arrp n t, x, vs, ps => ∃ b, vs = [.pointer (some ⟨b, 0, none⟩)] ∧ ps = [.at b n] ∧ 0 < t.sz ∧ RowAt w R (.at b n) t x ∧ (x : List t.den).length = n
 | .ptr b, x, vs, ps => ∃ bb c arr e qs, vs = [.pointer (some ⟨bb, 0, none⟩)] ∧ ps = .at bb c :: qs ∧ w.heap[bb]? = some (.cells arr e (0, 0)) ∧ ShRel w R b x arr.toList qs
 | .unit, _, vs, ps => vs = [] ∧ ps = []
 | .cons a b, x, vs, ps => ∃ v1 v2 p1 p2, vs = v1 ++ v2 ∧ ps = p1 ++ p2 ∧ ShRel w R a x.1 v1 p1 ∧ ShRel w R b x.2 v2 p2
theorem ShRel_mono {w w' : World} {R R' : Nat → Prop} (hR : ∀ b, R b → R' b) (hw : ∀ b, R b → w'.heap[b]? = w.heap[b]?) :
  ∀ (sh : Sh) (x : sh.den) (vs : List Value) (ps : List Pl), (∀ p ∈ ps, ∀ b, p.fp b → w'.heap[b]? = w.heap[b]?) → ShRel w R sh x vs ps → ShRel w' R' sh x vs ps
 | .val t, x, vs, ps, _, h => ⟨Rep_mono hR hw _ _ _ h.1, h.2⟩
 | .fn g, x, vs, ps, _, h => h
 | .rop t, x, vs, ps, _, ⟨ad, cs, e1, e2, h1, h2, h3⟩ => ⟨ad, cs, e1, e2, hR _ h1, Rep_mono hR hw _ _ _ h2, fun q v hq => (World.cell?_of_block (by rw [add_block]; exact hw _ h1)).trans (h3 q v hq)⟩
 | .nil, x, vs, ps, _, h => h
 | .own t, x, vs, ps, hf, ⟨v, p, e1, e2, h1, h2, h3⟩ => ⟨v, p, e1, e2, h1, RowAt_mono hR hw (Pl.same_refl _) (hf p (by rw [e2]; exact List.mem_singleton.2 rfl)) h2, h3⟩
 | .sub t, x, vs, ps, hf, ⟨v, p, e1, e2, h1, h2, h3⟩ => ⟨v, p, e1, e2, h1, RowAt_mono hR hw (Pl.same_refl _) (hf p (by rw [e2]; exact List.mem_singleton.2 rfl)) h2, h3⟩
 | .map k, x, vs, ps, hf, ⟨v, f, e1, e2, h1⟩ => ⟨v, f, e1, e2, MapRel_mono hR hw (hf (.obj v f) (by rw [e2]; exact List.mem_singleton.2 rfl)) _ _ h1⟩
 | .arrp n t, x, vs, ps, hf, ⟨b, e1, e2, h1, h2, h3⟩ => ⟨b, e1, e2, h1, RowAt_mono hR hw (Pl.same_refl _) (hf (.at b n) (by rw [e2]; exact List.mem_singleton.2 rfl)) h2, h3⟩
 | .ptr b, x, vs, ps, hf, ⟨bb, c, arr, e, qs, e1, e2, h1, h2⟩ =>
  ⟨bb, c, arr, e, qs, e1, e2, by rw [hf (.at bb c) (by rw [e2]; exact List.mem_cons_self) bb rfl]; exact h1, ShRel_mono hR hw b x _ qs (fun p hp => hf p (by rw [e2]; exact List.mem_cons_of_mem _ hp)) h2⟩
 | .unit, x, vs, ps, _, h => h
 | .cons a b, x, vs, ps, hf, ⟨v1, v2, p1, p2, e1, e2, h1, h2⟩ =>
  ⟨v1, v2, p1, p2, e1, e2, ShRel_mono hR hw a x.1 v1 p1 (fun p hp => hf p (by rw [e2]; exact List.mem_append_left _ hp)) h1, ShRel_mono hR hw b x.2 v2 p2 (fun p hp => hf p (by rw [e2]; exact List.mem_append_right _ hp)) h2⟩
theorem ShRel_len {w : World} {R : Nat → Prop} : ∀ (sh : Sh) (x : sh.den) (vs : List Value) (ps : List Pl), ShRel w R sh x vs ps → vs.length = sh.sz ∧ ps.length = sh.wid
 | .val t, x, vs, ps, h => ⟨Rep_len _ _ _ h.1, by rw [h.2]; rfl⟩
 | .fn g, x, vs, ps, h => ⟨by rw [h.1]; rfl, by rw [h.2]; rfl⟩
 | .rop t, x, vs, ps, ⟨ad, cs, e1, e2, _⟩ => ⟨by rw [e1]; rfl, by rw [e2]; rfl⟩
 | .nil, x, vs, ps, h => ⟨by rw [h.1]; rfl, by rw [h.2]; rfl⟩
 | .own t, x, vs, ps, ⟨v, p, e1, e2, _⟩ => ⟨by rw [e1]; rfl, by rw [e2]; rfl⟩
 | .sub t, x, vs, ps, ⟨v, p, e1, e2, _⟩ => ⟨by rw [e1]; rfl, by rw [e2]; rfl⟩
 | .map k, x, vs, ps, ⟨v, f, e1, e2, _⟩ => ⟨by rw [e1]; rfl, by rw [e2]; rfl⟩
 | .arrp n t, x, vs, ps, ⟨b, e1, e2, _⟩ => ⟨by rw [e1]; rfl, by rw [e2]; rfl⟩
 | .ptr b, x, vs, ps, ⟨bb, c, arr, e, qs, e1, e2, _, h2⟩ => ⟨by rw [e1]; rfl, by
   have := (ShRel_len b x _ qs h2).2
   rw [e2]; simp [Sh.wid, this, Nat.add_eq]⟩
 | .unit, x, vs, ps, h => ⟨by rw [h.1]; rfl, by rw [h.2]; rfl⟩
 | .cons a b, x, vs, ps, ⟨v1, v2, p1, p2, e1, e2, h1, h2⟩ => by
  have g1 := ShRel_len a x.1 v1 p1 h1
  have g2 := ShRel_len b x.2 v2 p2 h2
  subst e1; subst e2
  simp [Sh.sz, Sh.wid, g1, g2, Nat.add_eq]
theorem MapRel_one {w : World} {R : Nat → Prop} {v : Value} {fp : Nat → Prop} : ∀ {k : MapK} {x : k.den}, MapRel w R k x v fp → v.oneCell' = true
 | .map _ _, _, ⟨_, b, es, c, e, _⟩ => by rw [e]; rfl
 | .mapS _ _, _, ⟨_, _, b, es, c, ps, e, _⟩ => by rw [e]; rfl
 | .deep a b e c, _, ⟨_, p, ps, _, h, _⟩ => by
  cases p with
  | nil => rw [h.1]; rfl
  | «at» b c => rw [show v = _ from h]; rfl
  | obj v f => exact h.elim
theorem ShRel_R {w : World} {R R' : Nat → Prop} (hR : ∀ b, R b → R' b) {sh : Sh} {x : sh.den} {vs : List Value} {ps : List Pl} (h : ShRel w R sh x vs ps) : ShRel w R' sh x vs ps :=
 ShRel_mono hR (fun _ _ => rfl) sh x vs ps (fun _ _ _ _ => rfl) h
theorem ShRel_flat {w : World} {R R' : Nat → Prop} : ∀ {sh : Sh} (_ : sh.flat = true) {x : sh.den} {vs : List Value} {ps : List Pl}, ShRel w R sh x vs ps → ShRel w R' sh x vs ps
 | .val t, hf, x, vs, ps, h => ⟨Rep_flat _ _ _ hf h.1, h.2⟩
 | .fn g, _, x, vs, ps, h => h
 | .rop t, hf, _, _, _, _ => by cases hf
 | .nil, _, x, vs, ps, h => h
 | .own t, hf, x, vs, ps, ⟨v, p, e1, e2, h1, h2, h3⟩ => ⟨v, p, e1, e2, h1, RowAt_flat hf h2, h3⟩
 | .sub t, hf, x, vs, ps, ⟨v, p, e1, e2, h1, h2, h3⟩ => ⟨v, p, e1, e2, h1, RowAt_flat hf h2, h3⟩
 | .map k, hf, x, vs, ps, ⟨v, f, e1, e2, h1⟩ => ⟨v, f, e1, e2, MapRel_flat hf h1⟩
 | .arrp n t, hf, x, vs, ps, ⟨b, e1, e2, h1, h2, h3⟩ => ⟨b, e1, e2, h1, RowAt_flat hf h2, h3⟩
 | .ptr b, hf, x, vs, ps, ⟨bb, c, arr, e, qs, e1, e2, h1, h2⟩ => ⟨bb, c, arr, e, qs, e1, e2, h1, ShRel_flat (sh := b) hf h2⟩
 | .unit, _, x, vs, ps, h => h
 | .cons a b, hf, x, vs, ps, ⟨v1, v2, p1, p2, e1, e2, h1, h2⟩ => by
  have : a.flat = true ∧ b.flat = true := by
   unfold Sh.flat at hf
   cases ha : a.flat with
   | false => rw [ha] at hf; cases hf
   | true => rw [ha] at hf; exact ⟨rfl, hf⟩
  exact ⟨v1, v2, p1, p2, e1, e2, ShRel_flat this.1 h1, ShRel_flat this.2 h2⟩
def VRel (w : World) (R : Nat → Prop) (sh : Sh) (x : sh.den) (v : Value) (ps : List Pl) : Prop :=
 match sh.isAgg with
 | true => ∃ arr, v = .agg arr ∧ ShRel w R sh x arr.toList ps
 | false => ShRel w R sh x [v] ps
theorem VRel_R {w : World} {R R' : Nat → Prop} (hR : ∀ b, R b → R' b) {sh : Sh} {x : sh.den} {v : Value} {ps : List Pl} (h : VRel w R sh x v ps) : VRel w R' sh x v ps := by
 unfold VRel at h ⊢
 cases ha : sh.isAgg with
 | true => rw [ha] at h; obtain ⟨arr, e, h⟩ := h; exact ⟨arr, e, ShRel_R hR h⟩
 | false => rw [ha] at h; exact ShRel_R hR h
theorem VRel_flat {w : World} {R R' : Nat → Prop} {sh : Sh} (hf : sh.flat = true) {x : sh.den} {v : Value} {ps : List Pl} (h : VRel w R sh x v ps) : VRel w R' sh x v ps := by
 unfold VRel at h ⊢
 cases ha : sh.isAgg with
 | true => rw [ha] at h; obtain ⟨arr, e, h⟩ := h; exact ⟨arr, e, ShRel_flat hf h⟩
 | false => rw [ha] at h; exact ShRel_flat hf h
section
variable {O : ObjK}
def isRow (B : Blk O) (t : Ty) (n : Nat) : Prop := ∃ xs : List t.den, (B = .row t xs ∨ B = .fro t xs) ∧ xs.length = n
def isBox (B : Blk O) : Prop := ∃ cs, B = .box cs
def Blk.isO : Blk O → Bool
 | .obj _ _ => true
 | .hol _ _ _ _ _ _ => true
 | .rng _ _ _ => true
 | .rngH _ _ _ _ _ => true
 | .hoD _ _ _ _ _ _ _ => true
 | _ => false
def isObj (B : Blk O) : Prop := B.isO = true
def Blk.live : Blk O → Prop
 | .row _ _ => True
 | .box _ => True
 | .obj _ _ => True
 | .hol _ _ _ _ _ _ => True
 | .rng _ _ _ => True
 | .rngH _ _ _ _ _ => True
 | .itr _ _ => True
 | .hoD _ _ _ _ _ _ _ => True
 | _ => False

def CR (w : World) (R : Nat → Prop) (bk : List (Nat × Blk O)) (pl : Nat → Pl) : C → Value → Prop
 | .sc v, u => u = v
 | .ro t xs, u => Rep w R (.slice t) xs [u]
 | .own i, u => u.oneCell' = true ∧ ∃ B, look bk i = some B ∧ ∀ t n, isRow B t n → ownV (pl i) n u
 | .sub i lo n, u => u.oneCell' = true ∧ ∃ B, look bk i = some B ∧ ∀ t m, isRow B t m → subV (pl i) t.sz lo n u ∧ lo + n ≤ m
 | .ptr i off, u => u.oneCell' = true ∧ ∃ B, look bk i = some B ∧ (isBox B → ∃ b c, pl i = .at b c ∧ u = .pointer (some ⟨b, off, none⟩))
 | .rptr i idx off, u => u.oneCell' = true ∧ ∃ B, look bk i = some B ∧ ∀ t m, isRow B t m → idx < m ∧ ∃ b c, pl i = .at b c ∧ u = .pointer (some ⟨b, idx * t.sz + off, none⟩)
 | .rop t x off, u => ∃ (ad : Addr) (cs : List Value), Rep w R t x cs ∧ R ad.block ∧ (∀ q v, cs[q]? = some v → w.cell? (ad.add q) = some v) ∧ u = .pointer (some (ad.add off))
 | .obj i, u => u.oneCell' = true ∧ ∃ B, look bk i = some B ∧ (isObj B → ∃ f, pl i = .obj u f)
 | .gi h, u => u.oneCell' = true ∧ ∃ B, look bk h = some B ∧ ∃ b c, pl h = .at b c ∧ u = .int .i64 b
 | .arr i n, u => u.oneCell' = true ∧ ∃ B, look bk i = some B ∧ ∀ t m, isRow B t m → m = n ∧ ∃ b, pl i = .at b n ∧ u = .pointer (some ⟨b, 0, none⟩)
 | .it j, u => u.oneCell' = true ∧ ∃ B, look bk j = some B ∧ ∃ b c, pl j = .at b c ∧ u = .pointer (some ⟨b, 0, none⟩)
 | .mayb e, u => ∃ b, u = .bool b ∧ (b = true → e = true)
 | .dptr i sz idx off, u => u.oneCell' = true ∧ ∃ B, look bk i = some B ∧ (isObj B → ∃ b n c f, pl i = .obj (.slice (some ⟨b, 0, none⟩) n c) f ∧ idx < n ∧ u = .pointer (some ⟨b, idx * sz + off, none⟩))
def TR (w : World) (R : Nat → Prop) (bk : List (Nat × Blk O)) (pl : Nat → Pl) : T → Value → Prop
 | .one c, u => CR w R bk pl c u
 | .ag cs, u => ∃ arr, u = .agg arr ∧ All2 (CR w R bk pl) cs arr.toList
def SR (w : World) (R : Nat → Prop) (bk : List (Nat × Blk O)) (pl : Nat → Pl) : S → Value → Prop
 | .t x, u => TR w R bk pl x u
 | .tup ts, u => ∃ arr, u = .tuple arr ∧ All2 (TR w R bk pl) ts arr.toList
def stV (ss : List Nat) (clk : Nat) : Value := .tuple #[.int .i64 clk, .tuple (ss.map fun (s : Nat) => Value.int .i64 (s : Int)).toArray]
theorem stV_inj {ss ss' : List Nat} {clk clk' : Nat} (h : stV ss clk = stV ss' clk') : ss = ss' ∧ clk = clk' := by
 have inj : ∀ (l l' : List Nat), (l.map fun (s : Nat) => Value.int .i64 (s : Int)) = (l'.map fun (s : Nat) => Value.int .i64 (s : Int)) → l = l' := by
  intro l
  induction l with
  | nil => intro l' h; cases l' with | nil => rfl | cons _ _ => cases h
  | cons x l ih =>
   intro l' h
   cases l' with
   | nil => cases h
   | cons y l' =>
    simp only [List.map_cons, List.cons.injEq, Value.int.injEq, true_and] at h
    rw [ih l' h.2, show x = y by have := h.1; omega]
 unfold stV at h
 simp only [Value.tuple.injEq, Array.mk.injEq, List.cons.injEq, Value.int.injEq, true_and, and_true] at h
 exact ⟨inj _ _ (by simpa using h.2), by have := h.1; omega⟩
def Stamped (w : World) (v : Value) (ss : List Nat) (clk : Nat) : Prop := ∃ b es, v = .map (some b) ∧ w.heap[b]? = some (.map es clk) ∧ es.toList.map (·.born) = ss
theorem MapRel_fp {w : World} {R : Nat → Prop} {fp : Nat → Prop} {b : Nat} : ∀ {k : MapK} {x : k.den}, MapRel w R k x (.map (some b)) fp → fp b
 | .map _ _, _, ⟨_, b', es, c, e, _, h, _⟩ => by cases e; exact (h _).2 rfl
 | .mapS _ _, _, ⟨_, _, b', es, c, ps, e, _, h, _⟩ => by cases e; exact (h _).2 (.inl rfl)
 | .deep _ _ _ _, _, ⟨_, p, ps, _, h, _⟩ => by
  cases p with
  | nil => cases h.1
  | «at» b c => cases h
  | obj v f => exact h.elim
def BR (w : World) (R : Nat → Prop) (bk : List (Nat × Blk O)) (pl : Nat → Pl) (i : Nat) : Blk O → Prop
 | .row t xs => 0 < t.sz ∧ RowAt w R (pl i) t xs
 | .fro t xs => 0 < t.sz ∧ RowAt w R (pl i) t xs
 | .box cs => ∃ b c arr e, pl i = .at b c ∧ w.heap[b]? = some (.cells arr e (0, 0)) ∧ All2 (CR w R bk pl) cs arr.toList
 | .obj k x => ∃ v f, pl i = .obj v f ∧ MapRel w R k x v f
 | .hol kt t es n j h => kt.flat = true ∧ 0 < t.sz ∧ (∃ B, look bk h = some B) ∧ ∃ b me clock ps f, pl i = .obj (.map (some b)) f ∧ w.heap[b]? = some (.map me clock) ∧ (∀ x, f x ↔ x = b ∨ ∃ p ∈ ps, p.fp x) ∧ Stamps me.toList clock ∧
   EntH w R kt t (CR w R bk pl (.own j)) n es me.toList ps ∧ Disj ps ∧ (∀ p ∈ ps, ¬ p.fp b) ∧ ∀ k, n = some k → ∃ e c, me.toList[k]? = some e ∧ pl h = .at e.born c
 | .rng k x h => (∃ B, look bk h = some B) ∧ ∃ v f ss clk g, pl i = .obj v f ∧ pl h = .obj (stV ss clk) g ∧ MapRel w R k x v f ∧ Stamped w v ss clk
 | .rngH kt t es n h => kt.flat = true ∧ 0 < t.sz ∧ (∃ B, look bk h = some B) ∧ ∃ b me clk ps f g, pl i = .obj (.map (some b)) f ∧ pl h = .obj (stV (me.toList.map (·.born)) clk) g ∧ w.heap[b]? = some (.map me clk) ∧
   (∀ x, f x ↔ x = b ∨ ∃ p ∈ ps, p.fp x) ∧ Stamps me.toList clk ∧ EntH w R kt t (fun _ => True) (some n) es me.toList ps ∧ n < es.length ∧ Disj ps ∧ ∀ p ∈ ps, ¬ p.fp b
 | .itr m h => (∃ B, look bk h = some B) ∧ ∃ b c ss clk g, pl i = .at b c ∧ pl h = .obj (stV ss clk) g ∧ ∃ B, look bk m = some B ∧ (isObj B → ∃ mb f, pl m = .obj (.map (some mb)) f ∧ w.heap[b]? = some (.mapIter (some mb) clk #[] clk))
 | .hoD a b e c xs n j => 0 < e.sz ∧ ∃ v f p ps, pl i = .obj v f ∧ ps.length = xs.length ∧ ps[n]? = some .nil ∧ ownV p xs.length v ∧
   DRow w R a b e c (fun k ys u => (k = n → CR w R bk pl (.own j) u) ∧ (k ≠ n → ownS w R e ps k ys u)) p xs ∧ (∀ x, f x ↔ p.fp x ∨ ∃ q ∈ ps, q.fp x) ∧ Disj (p :: ps)
 | .dead => True

structure Ext (K : Nat → Prop) (w w' : World) : Prop where
 os : w'.os = w.os
 tape : w'.tape = w.tape
 output : w'.output = w.output
 size : w.heap.size ≤ w'.heap.size
 keep : ∀ b, b < w.heap.size → K b → w'.heap[b]? = w.heap[b]?
theorem Ext.refl (K : Nat → Prop) (w : World) : Ext K w w := ⟨rfl, rfl, rfl, Nat.le_refl _, fun _ _ _ => rfl⟩
theorem Ext.trans {K : Nat → Prop} {a b c : World} (h : Ext K a b) (h' : Ext K b c) : Ext K a c :=
 ⟨h'.os.trans h.os, h'.tape.trans h.tape, h'.output.trans h.output, Nat.le_trans h.size h'.size, fun x hx hk => (h'.keep x (Nat.lt_of_lt_of_le hx h.size) hk).trans (h.keep x hx hk)⟩
theorem Ext.mono {K K' : Nat → Prop} {a b : World} (h : Ext K a b) (hk : ∀ x, x < a.heap.size → K' x → K x) : Ext K' a b :=
 ⟨h.os, h.tape, h.output, h.size, fun x hx h' => h.keep x hx (hk x hx h')⟩
theorem Ext.drew {K : Nat → Prop} (w : World) : Ext K w w.drew := ⟨rfl, rfl, rfl, Nat.le_refl _, fun _ _ _ => rfl⟩
theorem Ext.alloc {K : Nat → Prop} (w : World) (o : Obj) : Ext K w (w.alloc o) :=
 ⟨rfl, rfl, rfl, by simp, fun b hb _ => heap_alloc_old w o b hb⟩

structure Cx where
 N : Nat
 w0 : World
 R0 : Nat → Prop
 WR : Nat → Prop
 pins : Nat → Option Pl
 priv : Nat → Option Obj
 hard : Nat → Prop
 pinlt : ∀ i p, pins i = some p → i < 64 ∨ hard i
def liveAt (bk : List (Nat × Blk O)) (i : Nat) : Prop := ∃ B, look bk i = some B ∧ B.live
def RO (cx : Cx) (w : World) (bk : List (Nat × Blk O)) (pl : Nat → Pl) (b : Nat) : Prop :=
 (cx.R0 b ∨ cx.WR b ∨ cx.w0.heap.size ≤ b) ∧ b < w.heap.size ∧ (∀ i, liveAt bk i → ¬ (pl i).fp b) ∧ cx.priv b = none
structure Mem (cx : Cx) (w : World) (bk : List (Nat × Blk O)) (pl : Nat → Pl) : Prop where
 blocks : ∀ i B, look bk i = some B → BR w (RO cx w bk pl) bk pl i B
 disj : ∀ i j, liveAt bk i → liveAt bk j → i ≠ j → ∀ b, (pl i).fp b → ¬ (pl j).fp b
 bound : ∀ i, liveAt bk i → ∀ b, (pl i).fp b → b < w.heap.size ∧ (cx.WR b ∨ cx.w0.heap.size ≤ b)
 ext : Ext (fun b => ¬ cx.WR b) cx.w0 w
 frozen : ∀ i t xs, look bk i = some (.fro t xs) → ∀ b, (pl i).fp b → RO cx w bk pl b
 pin : ∀ i p B, cx.pins i = some p → look bk i = some B → p.same (pl i)
 apart : ∀ i, liveAt bk i → ∀ b, (pl i).fp b → cx.priv b = none
 priv : ∀ b o, cx.priv b = some o → w.heap[b]? = some o
 hard : ∀ i, cx.hard i → ∃ B, look bk i = some B
 privw : ∀ b o, cx.priv b = some o → cx.WR b ∨ cx.w0.heap.size ≤ b
structure Rel (cx : Cx) (σ : St O) (a : Act) (w : World) (pl : Nat → Pl) : Prop where
 mem : Mem cx w σ.bk pl
 slots : ∀ t s, look σ.sl t = some s → t < a.tmps.size ∧ SR w (RO cx w σ.bk pl) σ.bk pl s (a.tmps.getD t undef)
 defers : a.defers = []
 size : a.tmps.size = cx.N

theorem priv_new {cx : Cx} {w : World} {bk : List (Nat × Blk O)} {pl : Nat → Pl} (hm : Mem cx w bk pl) {b : Nat} (h : w.heap.size ≤ b) : cx.priv b = none := by
 cases hp : cx.priv b with
 | none => rfl
 | some o =>
  have := (Array.getElem?_eq_some_iff.1 (hm.priv b o hp)).1
  omega
def Keeps (bk bk' : List (Nat × Blk O)) (pl pl' : Nat → Pl) : Prop :=
 ∀ i B, look bk i = some B → (pl i).same (pl' i) ∧ ∃ B', look bk' i = some B' ∧ (∀ t n, isRow B' t n → isRow B t n) ∧ (isBox B' → isBox B) ∧ (isObj B' → isObj B)
theorem Keeps.refl (bk : List (Nat × Blk O)) (pl : Nat → Pl) : Keeps bk bk pl pl := fun i B h => ⟨Pl.same_refl _, B, h, fun _ _ h => h, id, id⟩
theorem ownV_same {p q : Pl} (h : p.same q) {n : Nat} {u : Value} (ho : ownV p n u) : ownV q n u := by
 cases p with
 | nil => cases h; exact ho
 | «at» b c => cases h; exact ho
 | obj v f => exact ho.elim
theorem subV_same {p q : Pl} (h : p.same q) {sz lo n : Nat} {u : Value} (ho : subV p sz lo n u) : subV q sz lo n u := by
 cases p with
 | nil => cases h; exact ho
 | «at» b c => cases h; exact ho
 | obj v f => exact ho.elim
theorem CR_mono {w w' : World} {R R' : Nat → Prop} {bk bk' : List (Nat × Blk O)} {pl pl' : Nat → Pl}
  (hR : ∀ b, R b → R' b) (hw : ∀ b, R b → w'.heap[b]? = w.heap[b]?) (hk : Keeps bk bk' pl pl') :
  ∀ (c : C) (u : Value), CR w R bk pl c u → CR w' R' bk' pl' c u
 | .sc v, u, h => h
 | .ro t xs, u, h => Rep_mono hR hw _ _ _ h
 | .own i, u, ⟨h0, B, hB, h⟩ => by
  obtain ⟨hs, B', hB', h1, _, _⟩ := hk i B hB
  exact ⟨h0, B', hB', fun t n hr => ownV_same hs (h t n (h1 t n hr))⟩
 | .sub i lo n, u, ⟨h0, B, hB, h⟩ => by
  obtain ⟨hs, B', hB', h1, _, _⟩ := hk i B hB
  exact ⟨h0, B', hB', fun t m hr => ⟨subV_same hs (h t m (h1 t m hr)).1, (h t m (h1 t m hr)).2⟩⟩
 | .ptr i off, u, ⟨h0, B, hB, h⟩ => by
  obtain ⟨hs, B', hB', _, h2, _⟩ := hk i B hB
  refine ⟨h0, B', hB', fun hb => ?_⟩
  obtain ⟨b, c, hp, hu⟩ := h (h2 hb)
  rw [hp] at hs
  exact ⟨b, c, hs, hu⟩
 | .rptr i idx off, u, ⟨h0, B, hB, h⟩ => by
  obtain ⟨hs, B', hB', h1, _, _⟩ := hk i B hB
  refine ⟨h0, B', hB', fun t m hr => ?_⟩
  obtain ⟨hi, b, c, hp, hu⟩ := h t m (h1 t m hr)
  rw [hp] at hs
  exact ⟨hi, b, c, hs, hu⟩
 | .rop t x off, u, ⟨ad, cs, h1, h2, h3, h4⟩ =>
  ⟨ad, cs, Rep_mono hR hw _ _ _ h1, hR _ h2, fun q v hq => (World.cell?_of_block (by rw [add_block]; exact hw _ h2)).trans (h3 q v hq), h4⟩
 | .obj i, u, ⟨h0, B, hB, h⟩ => by
  obtain ⟨hs, B', hB', _, _, h3⟩ := hk i B hB
  refine ⟨h0, B', hB', fun hb => ?_⟩
  obtain ⟨f, hp⟩ := h (h3 hb)
  rw [hp] at hs
  exact hs
 | .gi i, u, ⟨h0, B, hB, b, c, h1, h2⟩ => by
  obtain ⟨hs, B', hB', _, _, _⟩ := hk i B hB
  rw [h1] at hs
  exact ⟨h0, B', hB', b, c, hs, h2⟩
 | .arr i n, u, ⟨h0, B, hB, h⟩ => by
  obtain ⟨hs, B', hB', h1, _, _⟩ := hk i B hB
  refine ⟨h0, B', hB', fun t m hr => ?_⟩
  obtain ⟨hi, b, hp, hu⟩ := h t m (h1 t m hr)
  rw [hp] at hs
  exact ⟨hi, b, hs, hu⟩
 | .it i, u, ⟨h0, B, hB, b, c, h1, h2⟩ => by
  obtain ⟨hs, B', hB', _, _, _⟩ := hk i B hB
  rw [h1] at hs
  exact ⟨h0, B', hB', b, c, hs, h2⟩
 | .mayb e, u, h => h
 | .dptr i sz idx off, u, ⟨h0, B, hB, h⟩ => by
  obtain ⟨hs, B', hB', _, _, h3⟩ := hk i B hB
  refine ⟨h0, B', hB', fun hb => ?_⟩
  obtain ⟨b, n, c, f, hp, hi, hu⟩ := h (h3 hb)
  rw [hp] at hs
  obtain ⟨f', hs⟩ := hs
  exact ⟨b, n, c, f', hs, hi, hu⟩
theorem TR_mono {w w' : World} {R R' : Nat → Prop} {bk bk' : List (Nat × Blk O)} {pl pl' : Nat → Pl}
  (hR : ∀ b, R b → R' b) (hw : ∀ b, R b → w'.heap[b]? = w.heap[b]?) (hk : Keeps bk bk' pl pl') :
  ∀ (c : T) (u : Value), TR w R bk pl c u → TR w' R' bk' pl' c u
 | .one c, u, h => CR_mono hR hw hk c u h
 | .ag cs, u, ⟨arr, e, h⟩ => ⟨arr, e, h.mono (CR_mono hR hw hk)⟩
theorem SR_mono {w w' : World} {R R' : Nat → Prop} {bk bk' : List (Nat × Blk O)} {pl pl' : Nat → Pl}
  (hR : ∀ b, R b → R' b) (hw : ∀ b, R b → w'.heap[b]? = w.heap[b]?) (hk : Keeps bk bk' pl pl') :
  ∀ (c : S) (u : Value), SR w R bk pl c u → SR w' R' bk' pl' c u
 | .t c, u, h => TR_mono hR hw hk c u h
 | .tup cs, u, ⟨arr, e, h⟩ => ⟨arr, e, h.mono (TR_mono hR hw hk)⟩
theorem BR_mono {w w' : World} {R R' : Nat → Prop} {bk bk' : List (Nat × Blk O)} {pl pl' : Nat → Pl}
  (hR : ∀ b, R b → R' b) (hw : ∀ b, R b → w'.heap[b]? = w.heap[b]?) (hk : Keeps bk bk' pl pl') (hsz : w.heap.size ≤ w'.heap.size)
  (i : Nat) (B : Blk O) (hp : pl' i = pl i) (hf : ∀ b, (pl i).fp b → w'.heap[b]? = w.heap[b]?) (h : BR w R bk pl i B) : BR w' R' bk' pl' i B := by
 cases B with
 | row t xs => exact ⟨h.1, RowAt_mono hR hw (by rw [hp]; exact Pl.same_refl _) hf h.2⟩
 | fro t xs => exact ⟨h.1, RowAt_mono hR hw (by rw [hp]; exact Pl.same_refl _) hf h.2⟩
 | box cs =>
  obtain ⟨b, c, arr, e, h1, h2, h3⟩ := h
  exact ⟨b, c, arr, e, by rw [hp]; exact h1, by rw [hf b (by rw [h1]; rfl)]; exact h2, h3.mono (CR_mono hR hw hk)⟩
 | obj k x =>
  obtain ⟨v, f, h1, h2⟩ := h
  exact ⟨v, f, by rw [hp]; exact h1, MapRel_mono hR hw (fun b hb => hf b (by rw [h1]; exact hb)) k x h2⟩
 | hol kt t es n j h' =>
  obtain ⟨h0, hz, ⟨B, hB⟩, b, me, clock, ps, f, h1, h2, h3, h4, h5, h6, h7, h8⟩ := h
  obtain ⟨hs, B', hB', _⟩ := hk h' B hB
  refine ⟨h0, hz, ⟨B', hB'⟩, b, me, clock, ps, f, by rw [hp]; exact h1, by rw [hf b (by rw [h1]; exact (h3 b).2 (.inl rfl))]; exact h2, h3, h4,
   EntH_mono hR hw (CR_mono hR hw hk (.own j)) (fun p hp' x hx => hf x (by rw [h1]; exact (h3 x).2 (.inr ⟨p, hp', hx⟩))) h5, h6, h7, fun k hk' => ?_⟩
  obtain ⟨e, c, g1, g2⟩ := h8 k hk'
  rw [g2] at hs
  exact ⟨e, c, g1, hs⟩
 | rng k x h' =>
  obtain ⟨⟨B, hB⟩, v, f, ss, clk, g, h1, h2, h3, b, es, h4, h5, h6⟩ := h
  obtain ⟨hs, B', hB', _⟩ := hk h' B hB
  rw [h2] at hs
  obtain ⟨g', hs⟩ := hs
  refine ⟨⟨B', hB'⟩, v, f, ss, clk, g', by rw [hp]; exact h1, hs, MapRel_mono hR hw (fun b hb => hf b (by rw [h1]; exact hb)) k x h3, b, es, h4, ?_, h6⟩
  subst h4
  rw [hf b (by rw [h1]; exact MapRel_fp h3)]; exact h5
 | rngH kt t es n h' =>
  obtain ⟨h0, hz, ⟨B, hB⟩, b, me, clk, ps, f, g, h1, h2, h3, h4, h5, h6, h7⟩ := h
  obtain ⟨hs, B', hB', _⟩ := hk h' B hB
  rw [h2] at hs
  obtain ⟨g', hs⟩ := hs
  exact ⟨h0, hz, ⟨B', hB'⟩, b, me, clk, ps, f, g', by rw [hp]; exact h1, hs, by rw [hf b (by rw [h1]; exact (h4 b).2 (.inl rfl))]; exact h3, h4, h5,
   EntH_mono hR hw (fun _ h => h) (fun p hp' x hx => hf x (by rw [h1]; exact (h4 x).2 (.inr ⟨p, hp', hx⟩))) h6, h7⟩
 | itr m h' =>
  obtain ⟨⟨B, hB⟩, b, c, ss, clk, g, h1, h2, B2, hB2, h3⟩ := h
  obtain ⟨hs, B', hB', _⟩ := hk h' B hB
  rw [h2] at hs
  obtain ⟨g', hs⟩ := hs
  obtain ⟨hs2, B2', hB2', _, _, ho⟩ := hk m B2 hB2
  refine ⟨⟨B', hB'⟩, b, c, ss, clk, g', by rw [hp]; exact h1, hs, B2', hB2', fun hb => ?_⟩
  obtain ⟨mb, f, g1, g2⟩ := h3 (ho hb)
  rw [g1] at hs2
  obtain ⟨f', hs2⟩ := hs2
  exact ⟨mb, f', hs2, by rw [hf b (by rw [h1]; rfl)]; exact g2⟩
 | hoD a b e c xs n j =>
  obtain ⟨h0, v, f, p, ps, h1, h2, h3, h4, h5, h6, h7⟩ := h
  exact ⟨h0, v, f, p, ps, by rw [hp]; exact h1, h2, h3, h4,
   DRow_mono hR hw (fun x hx => hf x (by rw [h1]; exact (h6 x).2 (.inl hx))) (fun k y u _ g => ⟨fun hk' => CR_mono hR hw hk (.own j) u (g.1 hk'),
    fun hk' => ownS_mono hR hw (fun q hq x hx => hf x (by rw [h1]; exact (h6 x).2 (.inr ⟨q, hq, hx⟩))) (g.2 hk')⟩) h5, h6, h7⟩
 | dead => trivial

theorem mem_gen' {cx : Cx} {w w' : World} {bk bk' : List (Nat × Blk O)} {pl pl' : Nat → Pl} (hm : Mem cx w bk pl) (U : Nat → Prop)
  (hx : Ext (fun _ => False) w w')
  (hheap : ∀ b, b < w.heap.size → (∀ i, U i → liveAt bk i → ¬ (pl i).fp b) → w'.heap[b]? = w.heap[b]?)
  (hkeep : Keeps bk bk' pl pl')
  (hsame : ∀ i B, look bk' i = some B → ¬ U i → look bk i = some B ∧ pl' i = pl i)
  (hfp : ∀ i, U i → liveAt bk' i → ∀ b, (pl' i).fp b → b < w'.heap.size ∧ (w.heap.size ≤ b ∨ ∃ j, U j ∧ liveAt bk j ∧ (pl j).fp b))
  (hdisj : ∀ i j, U i → U j → liveAt bk' i → liveAt bk' j → i ≠ j → ∀ b, (pl' i).fp b → ¬ (pl' j).fp b)
  (hB : (∀ b, RO cx w bk pl b → RO cx w' bk' pl' b) → (∀ b, RO cx w bk pl b → w'.heap[b]? = w.heap[b]?) → ∀ i B, U i → look bk' i = some B → BR w' (RO cx w' bk' pl') bk' pl' i B)
  (hfro : (∀ b, RO cx w bk pl b → RO cx w' bk' pl' b) → ∀ i t xs, U i → look bk' i = some (.fro t xs) → ∀ b, (pl' i).fp b → RO cx w' bk' pl' b)
  (hpin : ∀ i, U i → look bk i = none → 64 ≤ i ∨ cx.pins i = none) :
  Mem cx w' bk' pl' ∧ (∀ b, RO cx w bk pl b → RO cx w' bk' pl' b) ∧ (∀ b, RO cx w bk pl b → w'.heap[b]? = w.heap[b]?) := by
 have hsize0 := hm.ext.size
 have hRO : ∀ b, RO cx w bk pl b → RO cx w' bk' pl' b := by
  rintro b ⟨h1, h2, h3, hpv⟩
  refine ⟨h1, Nat.lt_of_lt_of_le h2 hx.size, fun i hi hb => ?_, hpv⟩
  obtain ⟨B, hB', hl⟩ := hi
  by_cases hu : U i
  ·rcases (hfp i hu ⟨B, hB', hl⟩ b hb).2 with h | ⟨j, _, hj, hjb⟩
   ·omega
   ·exact h3 j hj hjb
  ·obtain ⟨h4, h5⟩ := hsame i B hB' hu
   rw [h5] at hb
   exact h3 i ⟨B, h4, hl⟩ hb
 have hRw : ∀ b, RO cx w bk pl b → w'.heap[b]? = w.heap[b]? := fun b hb => hheap b hb.2.1 fun i _ hi => hb.2.2.1 i hi
 have hother : ∀ i, ¬ U i → liveAt bk i → ∀ b, (pl i).fp b → w'.heap[b]? = w.heap[b]? := fun i hu hi b hb =>
  hheap b (hm.bound i hi b hb).1 fun j hj hlj hjb => hm.disj i j hi hlj (fun e => hu (e ▸ hj)) b hb hjb
 have hpriv : ∀ b o, cx.priv b = some o → w'.heap[b]? = some o := fun b o ho => by
  have h1 := hm.priv b o ho
  have h2 : b < w.heap.size := (Array.getElem?_eq_some_iff.1 h1).1
  rw [hheap b h2 fun i _ hi hb => by have := hm.apart i hi b hb; rw [ho] at this; cases this]
  exact h1
 refine ⟨⟨?_, ?_, ?_, ?_, ?_, ?_, ?_, hpriv, ?_, hm.privw⟩, hRO, hRw⟩
 ·intro i B hi
  by_cases hu : U i
  ·exact hB hRO hRw i B hu hi
  ·obtain ⟨h4, h5⟩ := hsame i B hi hu
   by_cases hl : B.live
   ·exact BR_mono hRO hRw hkeep hx.size i B h5 (hother i hu ⟨B, h4, hl⟩) (hm.blocks i B h4)
   ·cases B with
    | dead => trivial
    | fro t xs =>
     have h := hm.blocks i _ h4
     refine ⟨h.1, ?_⟩
     rw [h5]
     have h2 := h.2
     cases hp : pl i with
     | nil => rw [hp] at h2; exact h2
     | obj v f => rw [hp] at h2; exact h2.elim
     | «at» b c =>
      rw [hp] at h2
      obtain ⟨arr, e, g1, g2, g3, g4, g5⟩ := h2
      have hr := hm.frozen i t xs h4 b (by rw [hp]; rfl)
      refine ⟨arr, e, by rw [hRw b hr]; exact g1, g2, g3, g4, fun j x hx' => ?_⟩
      obtain ⟨cs, g6, g7⟩ := g5 j x hx'
      exact ⟨cs, Rep_mono hRO hRw _ _ _ g6, g7⟩
    | row t xs => exact absurd trivial hl
    | box cs => exact absurd trivial hl
    | obj k x => exact absurd trivial hl
    | hol kt t es n j h => exact absurd trivial hl
    | rng k x h => exact absurd trivial hl
    | rngH kt t es n h => exact absurd trivial hl
    | itr m h => exact absurd trivial hl
    | hoD a b e c xs n j => exact absurd trivial hl
 ·intro i j hi hj hij b hb hb'
  obtain ⟨B, hB1, hl1⟩ := hi
  obtain ⟨B', hB2, hl2⟩ := hj
  by_cases hu : U i
  ·by_cases hv : U j
   ·exact hdisj i j hu hv ⟨B, hB1, hl1⟩ ⟨B', hB2, hl2⟩ hij b hb hb'
   ·obtain ⟨h4, h5⟩ := hsame j B' hB2 hv
    rw [h5] at hb'
    rcases (hfp i hu ⟨B, hB1, hl1⟩ b hb).2 with h | ⟨k, hk, hlk, hkb⟩
    ·have := (hm.bound j ⟨B', h4, hl2⟩ b hb').1
     omega
    ·exact hm.disj k j hlk ⟨B', h4, hl2⟩ (fun e => hv (e ▸ hk)) b hkb hb'
  ·obtain ⟨h4, h5⟩ := hsame i B hB1 hu
   rw [h5] at hb
   by_cases hv : U j
   ·rcases (hfp j hv ⟨B', hB2, hl2⟩ b hb').2 with h | ⟨k, hk, hlk, hkb⟩
    ·have := (hm.bound i ⟨B, h4, hl1⟩ b hb).1
     omega
    ·exact hm.disj k i hlk ⟨B, h4, hl1⟩ (fun e => hu (e ▸ hk)) b hkb hb
   ·obtain ⟨h6, h7⟩ := hsame j B' hB2 hv
    rw [h7] at hb'
    exact hm.disj i j ⟨B, h4, hl1⟩ ⟨B', h6, hl2⟩ hij b hb hb'
 ·intro i hi b hb
  obtain ⟨B, hB1, hl1⟩ := hi
  by_cases hu : U i
  ·obtain ⟨h1, h2⟩ := hfp i hu ⟨B, hB1, hl1⟩ b hb
   refine ⟨h1, ?_⟩
   rcases h2 with h | ⟨k, _, hlk, hkb⟩
   ·right; omega
   ·exact (hm.bound k hlk b hkb).2
  ·obtain ⟨h4, h5⟩ := hsame i B hB1 hu
   rw [h5] at hb
   have := hm.bound i ⟨B, h4, hl1⟩ b hb
   exact ⟨Nat.lt_of_lt_of_le this.1 hx.size, this.2⟩
 ·refine ⟨hx.os.trans hm.ext.os, hx.tape.trans hm.ext.tape, hx.output.trans hm.ext.output, Nat.le_trans hsize0 hx.size, fun b hb hk => ?_⟩
  refine (hheap b (Nat.lt_of_lt_of_le hb hsize0) fun i _ hi hbi => ?_).trans (hm.ext.keep b hb hk)
  rcases (hm.bound i hi b hbi).2 with h | h
  ·exact hk h
  ·omega
 ·intro i t xs hi b hb
  by_cases hu : U i
  ·exact hfro hRO i t xs hu hi b hb
  ·obtain ⟨h4, h5⟩ := hsame i _ hi hu
   rw [h5] at hb
   exact hRO b (hm.frozen i t xs h4 b hb)
 ·intro i p B' hp hB'
  cases hl : look bk i with
  | none =>
   by_cases hu : U i
   ·rcases hpin i hu hl with h64 | hno
    rotate_left
    ·rw [hno] at hp; cases hp
    rcases cx.pinlt i p hp with h1 | h1
    ·omega
    ·obtain ⟨B, hB⟩ := hm.hard i h1
     rw [hl] at hB; cases hB
   ·have := (hsame i B' hB' hu).1
    rw [hl] at this; cases this
  | some B => exact Pl.same_trans (hm.pin i p B hp hl) (hkeep i B hl).1
 ·intro i hi b hb
  cases hpv : cx.priv b with
  | none => rfl
  | some o =>
   have h2 : b < w.heap.size := (Array.getElem?_eq_some_iff.1 (hm.priv b o hpv)).1
   obtain ⟨B, hB1, hl1⟩ := hi
   by_cases hu : U i
   ·rcases (hfp i hu ⟨B, hB1, hl1⟩ b hb).2 with h | ⟨k, _, hlk, hkb⟩
    ·omega
    ·rw [← hpv]; exact hm.apart k hlk b hkb
   ·obtain ⟨h4, h5⟩ := hsame i B hB1 hu
    rw [h5] at hb
    rw [← hpv]; exact hm.apart i ⟨B, h4, hl1⟩ b hb
 ·intro i hi
  obtain ⟨B, hB⟩ := hm.hard i hi
  obtain ⟨_, B', hB', _⟩ := hkeep i B hB
  exact ⟨B', hB'⟩
theorem mem_gen {cx : Cx} {w w' : World} {bk bk' : List (Nat × Blk O)} {pl pl' : Nat → Pl} (hm : Mem cx w bk pl) (U : Nat → Prop)
  (hx : Ext (fun _ => False) w w')
  (hheap : ∀ b, b < w.heap.size → (∀ i, U i → liveAt bk i → ¬ (pl i).fp b) → w'.heap[b]? = w.heap[b]?)
  (hkeep : Keeps bk bk' pl pl')
  (hsame : ∀ i B, look bk' i = some B → ¬ U i → look bk i = some B ∧ pl' i = pl i)
  (hfp : ∀ i, U i → liveAt bk' i → ∀ b, (pl' i).fp b → b < w'.heap.size ∧ (w.heap.size ≤ b ∨ ∃ j, U j ∧ liveAt bk j ∧ (pl j).fp b))
  (hdisj : ∀ i j, U i → U j → liveAt bk' i → liveAt bk' j → i ≠ j → ∀ b, (pl' i).fp b → ¬ (pl' j).fp b)
  (hB : (∀ b, RO cx w bk pl b → RO cx w' bk' pl' b) → (∀ b, RO cx w bk pl b → w'.heap[b]? = w.heap[b]?) → ∀ i B, U i → look bk' i = some B → BR w' (RO cx w' bk' pl') bk' pl' i B)
  (hfro : (∀ b, RO cx w bk pl b → RO cx w' bk' pl' b) → ∀ i t xs, U i → look bk' i = some (.fro t xs) → ∀ b, (pl' i).fp b → RO cx w' bk' pl' b)
  (hpin : ∀ i, U i → look bk i = none → 64 ≤ i) :
  Mem cx w' bk' pl' ∧ (∀ b, RO cx w bk pl b → RO cx w' bk' pl' b) ∧ (∀ b, RO cx w bk pl b → w'.heap[b]? = w.heap[b]?) :=
 mem_gen' hm U hx hheap hkeep hsame hfp hdisj hB hfro fun i hu hn => .inl (hpin i hu hn)
end
end Go.BB
