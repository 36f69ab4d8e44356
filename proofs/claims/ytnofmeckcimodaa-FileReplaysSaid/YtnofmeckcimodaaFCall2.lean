/- A symbolic machine for the model's code, and what it shows of this seat's functions. No conditions. -/
import Derived.Test.YtnofmeckcimodaaFCall
import Derived.BigCall
set_option linter.unusedSimpArgs false
set_option linter.unusedVariables false
namespace Go.BB
open Go
section
variable {O : ObjK} {cx : Cx} {σ : St O} {a : Act} {w : World} {pl : Nat → Pl} {cfg : Cfg O} {P : Program} {o : Oper} {wr : Wr O}

theorem look_of_mem {α : Type} : ∀ {l : List (Nat × α)} {i : Nat} {x : α}, (l.map (·.1)).Nodup → (i, x) ∈ l → look l i = some x
 | (j, y) :: l, i, x, hn, h => by
  rw [look_cons]
  simp only [List.map_cons, List.nodup_cons] at hn
  rcases List.mem_cons.1 h with h | h
  ·cases h; simp
  ·have hne : j ≠ i := fun e => hn.1 (by rw [e]; exact List.mem_map.2 ⟨(i, x), h, rfl⟩)
   rw [if_neg hne]
   exact look_of_mem hn.2 h
theorem look_mem_keys {α : Type} {l : List (Nat × α)} {i : Nat} (h : i ∈ l.map (·.1)) : ∃ x, look l i = some x := by
 cases hl : look l i with
 | some x => exact ⟨x, rfl⟩
 | none =>
  obtain ⟨p, hp, e⟩ := List.mem_map.1 h
  exact absurd (show (i, p.2) ∈ l by rw [← e]; exact hp) (look_none.1 hl p.2)
theorem look_keys {α : Type} {l : List (Nat × α)} {i : Nat} {x : α} (h : look l i = some x) : i ∈ l.map (·.1) := List.mem_map.2 ⟨(i, x), look_mem h, rfl⟩
theorem look_not_keys {α : Type} {l : List (Nat × α)} {i : Nat} (h : i ∉ l.map (·.1)) : look l i = none := look_none.2 fun x hx => h (List.mem_map.2 ⟨(i, x), hx, rfl⟩)
theorem nodupN_iff : ∀ {xs : List Nat}, nodupN xs = true → xs.Nodup
 | [], _ => List.nodup_nil
 | x :: xs, h => by
  unfold nodupN at h
  cases hm : memN x xs with
  | true => rw [hm] at h; cases h
  | false =>
   rw [hm] at h
   refine List.nodup_cons.2 ⟨fun hx => ?_, nodupN_iff h⟩
   rw [(memN_iff x xs).2 hx] at hm; cases hm
theorem disjN_iff : ∀ {xs ys : List Nat}, disjN xs ys = true → ∀ i, i ∈ xs → i ∉ ys
 | x :: xs, ys, h, i, hi => by
  unfold disjN at h
  cases hm : memN x ys with
  | true => rw [hm] at h; cases h
  | false =>
   rw [hm] at h
   rcases List.mem_cons.1 hi with rfl | hi
   ·intro hx
    rw [(memN_iff i ys).2 hx] at hm; cases hm
   ·exact disjN_iff h i hi
theorem Al_look {σ τ : St O} {pl : Nat → Pl} : ∀ (ps : List (PK O)) (x : dens ps) (ids : List Nat) (E : List REnt), (∀ i ∈ ids, look τ.bk i = look σ.bk i) → Al σ pl ps x ids E → Al τ pl ps x ids E
 | [], _, ids, E, _, h => h
 | .val _ :: ps, x, _, _, hl, ⟨q1, q2, F, E', e1, e2, ⟨a1, a2⟩, h⟩ =>
  ⟨q1, q2, F, E', e1, e2, ⟨a1, a2⟩, Al_look ps x.2 q2 E' (fun i hi => hl i (by rw [e1]; exact List.mem_append_right _ hi)) h⟩
 | .fn _ :: ps, x, _, _, hl, ⟨q1, q2, F, E', e1, e2, ⟨a1, a2⟩, h⟩ =>
  ⟨q1, q2, F, E', e1, e2, ⟨a1, a2⟩, Al_look ps x.2 q2 E' (fun i hi => hl i (by rw [e1]; exact List.mem_append_right _ hi)) h⟩
 | .rop _ :: ps, x, _, _, hl, ⟨q1, q2, F, E', e1, e2, ⟨a1, a2⟩, h⟩ =>
  ⟨q1, q2, F, E', e1, e2, ⟨a1, a2⟩, Al_look ps x.2 q2 E' (fun i hi => hl i (by rw [e1]; exact List.mem_append_right _ hi)) h⟩
 | .row t :: ps, x, _, _, hl, ⟨q1, q2, F, E', e1, e2, ⟨j, a1, a2, a3⟩, h⟩ =>
  ⟨q1, q2, F, E', e1, e2, ⟨j, a1, a2, (hl j (by rw [e1, a1]; exact List.mem_cons_self)).trans a3⟩, Al_look ps x.2 q2 E' (fun i hi => hl i (by rw [e1]; exact List.mem_append_right _ hi)) h⟩
 | .obj k :: ps, x, _, _, hl, ⟨q1, q2, F, E', e1, e2, ⟨j, a1, a2, a3⟩, h⟩ =>
  ⟨q1, q2, F, E', e1, e2, ⟨j, a1, a2, (hl j (by rw [e1, a1]; exact List.mem_cons_self)).trans a3⟩, Al_look ps x.2 q2 E' (fun i hi => hl i (by rw [e1]; exact List.mem_append_right _ hi)) h⟩
 | .box b :: ps, x, _, _, hl, ⟨q1, q2, F, E', e1, e2, ⟨j, F', cs, a1, a2, a4, a3⟩, h⟩ =>
  ⟨q1, q2, F, E', e1, e2, ⟨j, F', cs, a1, a2, a4, (hl j (by rw [e1, a1]; exact List.mem_cons_self)).trans a3⟩, Al_look ps x.2 q2 E' (fun i hi => hl i (by rw [e1]; exact List.mem_append_right _ hi)) h⟩
theorem resLs_nodup : ∀ (rs : List (RK O)) (nb : Nat), (resLs nb rs).Nodup
 | [], nb => List.nodup_nil
 | .val _ :: rs, nb => resLs_nodup rs (nb + 1)
 | .own _ :: rs, nb => List.nodup_cons.2 ⟨fun h => by have := resLs_mem (rs := rs) (nb := nb + 1) h; omega, resLs_nodup rs (nb + 1)⟩
 | .sub _ :: rs, nb => List.nodup_cons.2 ⟨fun h => by have := resLs_mem (rs := rs) (nb := nb + 1) h; omega, resLs_nodup rs (nb + 1)⟩
 | .obj _ :: rs, nb => List.nodup_cons.2 ⟨fun h => by have := resLs_mem (rs := rs) (nb := nb + 1) h; omega, resLs_nodup rs (nb + 1)⟩
 | .box b :: rs, nb => by
  refine List.nodup_cons.2 ⟨fun h => ?_, List.nodup_append.2 ⟨labs_nodup _ _, resLs_nodup rs (nb + (b.wid + 1)), fun i hi j hj e => ?_⟩⟩
  ·rcases List.mem_append.1 h with h | h
   ·have := labs_mem.1 h; simp only [Nat.add_eq] at this; omega
   ·have := resLs_mem (rs := rs) (nb := nb + (b.wid + 1)) h; omega
  ·subst e
   have h1 := labs_mem.1 hi
   have h2 := resLs_mem (rs := rs) (nb := nb + (b.wid + 1)) hj
   simp only [Nat.add_eq] at h1; omega
theorem updLs_nodup : ∀ (ps : List (PK O)) (nb : Nat) (ids : List Nat), ids.Nodup → (∀ i ∈ ids, i < nb ∨ nb + updN ps ≤ i) → (updLs nb ps ids).Nodup
 | [], nb, ids, _, _ => List.nodup_nil
 | .val _ :: ps, nb, ids, hn, hi => updLs_nodup ps nb ids hn hi
 | .fn _ :: ps, nb, ids, hn, hi => updLs_nodup ps nb ids hn hi
 | .rop _ :: ps, nb, ids, hn, hi => updLs_nodup ps nb ids hn hi
 | .row _ :: ps, nb, [], _, _ => List.nodup_nil
 | .obj _ :: ps, nb, [], _, _ => List.nodup_nil
 | .box _ :: ps, nb, [], _, _ => List.nodup_nil
 | .row _ :: ps, nb, i :: ids, hn, hi => by
  have hn' := List.nodup_cons.1 hn
  refine List.nodup_cons.2 ⟨fun h => ?_, updLs_nodup ps nb ids hn'.2 fun j hj => hi j (List.mem_cons_of_mem _ hj)⟩
  have h1 := hi i List.mem_cons_self
  simp only [updN] at h1
  rcases updLs_mem (ps := ps) h with h | h
  ·exact hn'.1 h
  ·omega
 | .obj _ :: ps, nb, i :: ids, hn, hi => by
  have hn' := List.nodup_cons.1 hn
  refine List.nodup_cons.2 ⟨fun h => ?_, updLs_nodup ps nb ids hn'.2 fun j hj => hi j (List.mem_cons_of_mem _ hj)⟩
  have h1 := hi i List.mem_cons_self
  simp only [updN] at h1
  rcases updLs_mem (ps := ps) h with h | h
  ·exact hn'.1 h
  ·omega
 | .box b :: ps, nb, i :: ids, hn, hi => by
  have hn' := List.nodup_cons.1 hn
  have h1 := hi i List.mem_cons_self
  simp only [updN, Nat.add_eq] at h1
  have hi' : ∀ j ∈ ids, j < nb + b.wid ∨ nb + b.wid + updN ps ≤ j := fun j hj => by
   have := hi j (List.mem_cons_of_mem _ hj)
   simp only [updN, Nat.add_eq] at this
   omega
  refine List.nodup_cons.2 ⟨fun h => ?_, List.nodup_append.2 ⟨labs_nodup _ _, updLs_nodup ps (nb + b.wid) ids hn'.2 hi', fun j hj k hk e => ?_⟩⟩
  ·rcases List.mem_append.1 h with h | h
   ·have := labs_mem.1 h; omega
   ·rcases updLs_mem (ps := ps) (nb := nb + b.wid) h with h | h
    ·exact hn'.1 h
    ·omega
  ·subst e
   have h2 := labs_mem.1 hj
   rcases updLs_mem (ps := ps) (nb := nb + b.wid) hk with h | h
   ·have := hi j (List.mem_cons_of_mem _ h)
    simp only [updN, Nat.add_eq] at this
    omega
   ·omega
theorem Disj_zip : ∀ {ks : List Nat} {ps : List Pl}, Disj ps → ks.Nodup → ∀ {i j : Nat} {p q : Pl}, (i, p) ∈ ks.zip ps → (j, q) ∈ ks.zip ps → i ≠ j → ∀ b, p.fp b → ¬ q.fp b
 | [], _, _, _, i, j, p, q, h, _, _ => by simp at h
 | _ :: _, [], _, _, i, j, p, q, h, _, _ => by simp at h
 | k :: ks, r :: ps, hd, hn, i, j, p, q, h1, h2, hij => by
  simp only [List.zip_cons_cons, List.mem_cons] at h1 h2
  simp only [List.nodup_cons] at hn
  rcases h1 with h1 | h1
  ·cases h1
   rcases h2 with h2 | h2
   ·cases h2; exact absurd rfl hij
   ·intro b hb hq
    exact hd.1 q (List.of_mem_zip h2).2 b hb hq
  ·rcases h2 with h2 | h2
   ·cases h2
    intro b hb hq
    exact hd.1 p (List.of_mem_zip h1).2 b hq hb
   ·exact Disj_zip hd.2 hn.2 h1 h2 hij
theorem keys_zip {ks : List Nat} {ps : List Pl} (h : ks.length = ps.length) : (ks.zip ps).map (·.1) = ks := by
 induction ks generalizing ps with
 | nil => simp
 | cons k ks ih =>
  cases ps with
  | nil => simp at h
  | cons p ps => simp only [List.zip_cons_cons, List.map_cons, ih (by simpa using h)]
theorem SR_resS {R : Nat → Prop} {bk : List (Nat × Blk O)} {ts : List T} {vs : List Value} (h : All2 (TR w R bk pl) ts vs) : SR w R bk pl (resS ts) (resV vs) := by
 match ts, vs, h with
 | [], [], _ => exact ⟨#[], rfl, trivial⟩
 | [t], [v], h => exact h.1
 | t :: t' :: ts, v :: v' :: vs, h => exact ⟨_, rfl, by simpa using h⟩

theorem look_deads {is : List Nat} {i : Nat} : look (deads (O := O) is) i = if i ∈ is then some .dead else none := by
 induction is with
 | nil => simp [deads, look]
 | cons j is ih =>
  rw [deads, look_cons, ih]
  by_cases e : j = i
  ·subst e; simp
  ·simp [e, show i ≠ j from fun h => e h.symm]
theorem call_rel (hR : Rel cx σ a w pl) {ps : List (PK O)} {rs : List (RK O)} {x : dens ps} {r : rdens rs} {u : upds ps} {pids sids : List Nat} {E : List REnt} {nb : Nat} {R : Nat → Prop} {w' : World} {vs : List Value} {pls' rpl : List Pl}
  (hal : Al σ pl ps x pids E) (hok : ROk σ pl E) (hperm : (rids E).Perm (pids ++ sids)) (hnd : (pids ++ sids).Nodup) (hfresh : ∀ i, nb ≤ i → i < nb + (resN rs + updN ps) → look σ.bk i = none ∧ 64 ≤ i)
  (hRR : (flats rs = true ∧ flatR ps = true) ∨ ∀ b, R b → RO cx w σ.bk pl b)
  (hA : After w w' R ps rs x r u vs (E.map (·.1)) pls' rpl) {dst : Option Tmp} (hd : ∀ d, dst = some d → d < cx.N) :
  ∃ pl', Rel cx ⟨capp (putS dst (resS (resW nb rs r).1)) σ.sl, (resW nb rs r).2 ++ (updW (nb + resN rs) ps u pids ++ (deads sids ++ σ.bk))⟩ (a.put dst (resV vs)) w' pl' := by
 have hlive : ∀ i ∈ pids ++ sids, liveAt σ.bk i := by
  intro i hi
  obtain ⟨p, hp⟩ := rids_mem.1 (hperm.mem_iff.2 hi)
  exact (hok _ hp).2
 have hEpl : ∀ e ∈ E, ∀ b, e.1.fp b → ∃ i, i ∈ pids ++ sids ∧ e.1 = pl i := by
  intro e he b hb
  have h1 := hok e he
  cases ho : e.2 with
  | none => rw [ho] at h1; exact (h1 b hb).elim
  | some i =>
   rw [ho] at h1
   exact ⟨i, hperm.mem_iff.1 (rids_mem.2 ⟨e.1, by rw [← ho]; exact he⟩), h1.1⟩
 have hu1 := updW_to hR ps x u pids E pls' (nb + resN rs) hal hA.upd
 have hr1 := resW_to rs r vs rpl nb hA.res
 have hpins := updW_pins ps x u pids E pls' (nb + resN rs) hal hA.upd hA.kept
 have hnp := (List.nodup_append.1 hnd).1
 have hfr : ∀ i ∈ pids ++ sids, i < nb ∨ nb + (resN rs + updN ps) ≤ i := by
  intro i hi
  obtain ⟨B, hB, _⟩ := hlive i hi
  by_cases h1 : i < nb
  ·exact .inl h1
  ·by_cases h2 : i < nb + (resN rs + updN ps)
   ·rw [(hfresh i (by omega) h2).1] at hB; cases hB
   ·exact .inr (by omega)
 have hres : ∀ i, i ∈ resLs nb rs → look σ.bk i = none ∧ 64 ≤ i := fun i hi => by
  have := resLs_mem hi
  exact hfresh i this.1 (by omega)
 have hupd : ∀ i, i ∈ updLs (nb + resN rs) ps pids → i ∈ pids ∨ (look σ.bk i = none ∧ 64 ≤ i) := fun i hi => by
  rcases updLs_mem hi with h | h
  ·exact .inl h
  ·exact .inr (hfresh i (by omega) (by omega))
 have hun : (updLs (nb + resN rs) ps pids).Nodup := updLs_nodup ps _ _ hnp fun i hi => by
  have := hfr i (List.mem_append_left _ hi); omega
 have hno : ∀ i, i ∈ updLs (nb + resN rs) ps pids → i ∉ resLs nb rs := fun i hi h => by
  have h1 := resLs_mem h
  rcases updLs_mem hi with h2 | h2
  ·have := hfr i (List.mem_append_left _ h2); omega
  ·omega
 have hsu : ∀ i, i ∈ sids → i ∉ updLs (nb + resN rs) ps pids ++ resLs nb rs := fun i hi h => by
  have hl := hlive i (List.mem_append_right _ hi)
  obtain ⟨B, hB, _⟩ := hl
  rcases List.mem_append.1 h with h | h
  ·rcases hupd i h with h | h
   ·exact (List.nodup_append.1 hnd).2.2 i h i hi rfl
   ·rw [h.1] at hB; cases hB
  ·rw [(hres i h).1] at hB; cases hB
 have hkn : (updLs (nb + resN rs) ps pids ++ resLs nb rs).Nodup := List.nodup_append.2 ⟨hun, resLs_nodup rs nb, fun i hi j hj e => hno i hi (e ▸ hj)⟩
 have hkl : (updLs (nb + resN rs) ps pids ++ resLs nb rs).length = (pls' ++ rpl).length := by simp [hu1.len, hr1.len]
 let L := updLs (nb + resN rs) ps pids ++ resLs nb rs
 let Z := L.zip (pls' ++ rpl)
 have hZk : Z.map (·.1) = L := keys_zip hkl
 have hZ : Z = (updLs (nb + resN rs) ps pids).zip pls' ++ (resLs nb rs).zip rpl := List.zip_append hu1.len
 let pl' : Nat → Pl := fun j => (look Z j).getD (pl j)
 have plZ : ∀ i p, (i, p) ∈ Z → pl' i = p := fun i p h => by
  have := look_of_mem (by rw [hZk]; exact hkn) h
  simp only [pl', this, Option.getD_some]
 have plO : ∀ i, i ∉ L → pl' i = pl i := fun i h => by
  have := look_not_keys (l := Z) (by rw [hZk]; exact h)
  simp only [pl', this, Option.getD_none]
 let bk' := (resW nb rs r).2 ++ (updW (nb + resN rs) ps u pids ++ (deads sids ++ σ.bk))
 have lkR : ∀ i, i ∉ resLs nb rs → look (resW nb rs r).2 i = none := fun i h => look_not_keys (by rw [hr1.keys]; exact h)
 have lkU : ∀ i, i ∉ updLs (nb + resN rs) ps pids → look (updW (nb + resN rs) ps u pids) i = none := fun i h => look_not_keys (by rw [hu1.keys]; exact h)
 have lkS : ∀ i, i ∈ sids → look bk' i = some .dead := fun i h => by
  have h1 := hsu i h
  simp only [List.mem_append, not_or] at h1
  simp only [bk', look_append, lkR i h1.2, lkU i h1.1, Option.none_or, look_deads, if_pos h, Option.some_or]
 have lk0 : ∀ i, i ∉ L → i ∉ sids → look bk' i = look σ.bk i := fun i h h' => by
  simp only [L, List.mem_append, not_or] at h
  simp only [bk', look_append, lkR i h.2, lkU i h.1, Option.none_or, look_deads, if_neg h']
 have lk1 : ∀ q, q ∈ updW (nb + resN rs) ps u pids → look bk' q.1 = some q.2 := fun q h => by
  have h1 : q.1 ∈ updLs (nb + resN rs) ps pids := by rw [← hu1.keys]; exact List.mem_map.2 ⟨q, h, rfl⟩
  have h2 := look_of_mem (by rw [hu1.keys]; exact hun) (show (q.1, q.2) ∈ _ from h)
  simp only [bk', look_append, lkR _ (hno _ h1), h2, Option.none_or, Option.some_or]
 have lk2 : ∀ q, q ∈ (resW nb rs r).2 → look bk' q.1 = some q.2 := fun q h => by
  have h2 := look_of_mem (by rw [hr1.keys]; exact resLs_nodup rs nb) (show (q.1, q.2) ∈ _ from h)
  simp only [bk', look_append, h2, Option.some_or]
 have lkL : ∀ i B, i ∈ L → look bk' i = some B → (i, B) ∈ updW (nb + resN rs) ps u pids ∨ (i, B) ∈ (resW nb rs r).2 := by
  intro i B h hB
  rcases List.mem_append.1 h with h | h
  ·obtain ⟨B', hB'⟩ := look_mem_keys (l := updW (nb + resN rs) ps u pids) (by rw [hu1.keys]; exact h)
   have := lk1 _ (look_mem hB')
   rw [hB] at this
   cases this
   exact .inl (look_mem hB')
  ·obtain ⟨B', hB'⟩ := look_mem_keys (l := (resW nb rs r).2) (by rw [hr1.keys]; exact h)
   have := lk2 _ (look_mem hB')
   rw [hB] at this
   cases this
   exact .inr (look_mem hB')
 have hk : Keeps σ.bk bk' pl pl' := by
  intro i B hi
  by_cases h1 : i ∈ pids
  ·obtain ⟨p, B', hp, hm, hs, B0, g1, g2, g3, g4, g5⟩ := hpins i h1
   rw [hi] at g1
   cases g1
   rw [plZ i p (by rw [hZ]; exact List.mem_append_left _ hp)]
   exact ⟨hs, B', lk1 _ hm, g3, g4, g5⟩
  ·have h3 : i ∉ L := fun h => by
    rcases List.mem_append.1 h with h | h
    ·rcases hupd i h with h | h
     ·exact h1 h
     ·rw [h.1] at hi; cases hi
    ·rw [(hres i h).1] at hi; cases hi
   by_cases h2 : i ∈ sids
   ·refine ⟨by rw [plO i h3]; exact Pl.same_refl _, .dead, lkS i h2, ?_, (fun ⟨_, e⟩ => by cases e), (fun e => by cases e)⟩
    rintro t n ⟨xs, e | e, _⟩ <;> cases e
   ·exact ⟨by rw [plO i h3]; exact Pl.same_refl _, B, by rw [lk0 i h3 h2]; exact hi, fun _ _ h => h, id, id⟩
 have hplU : ∀ i, i ∈ L → ∃ p, (i, p) ∈ Z ∧ pl' i = p := fun i h => by
  have h' : i ∈ Z.map (·.1) := by rw [hZk]; exact h
  obtain ⟨p, hp⟩ := look_mem_keys h'
  exact ⟨p, look_mem hp, by simp only [pl', hp, Option.getD_some]⟩
 have hliv : ∀ i, liveAt bk' i → i ∈ L ∨ (i ∉ L ∧ i ∉ sids ∧ liveAt σ.bk i ∧ pl' i = pl i) := by
  rintro i ⟨B, hB, hl⟩
  by_cases h1 : i ∈ L
  ·exact .inl h1
  ·by_cases h2 : i ∈ sids
   ·rw [lkS i h2] at hB; cases hB; exact hl.elim
   ·rw [lk0 i h1 h2] at hB
    exact .inr ⟨h1, h2, ⟨B, hB, hl⟩, plO i h1⟩
 have hRsub : (∀ b, RO cx w σ.bk pl b → RO cx w' bk' pl' b) → (∀ b, R b → RO cx w σ.bk pl b) → ∀ b, R' w w' R (E.map (·.1)) (pls' ++ rpl) b → RO cx w' bk' pl' b := by
  intro hRO hs b ⟨h1, h2, h3⟩
  rcases h1 with h1 | h1 | h1
  ·exact hRO b (hs b h1)
  ·obtain ⟨p, hp, hpb⟩ := h1
   obtain ⟨e, he, rfl⟩ := List.mem_map.1 hp
   obtain ⟨k, hkk, hek⟩ := hEpl e he b hpb
   rw [hek] at hpb
   refine ⟨.inr (hR.mem.bound k (hlive k hkk) b hpb).2, h2, fun i hi hb => ?_, hR.mem.apart k (hlive k hkk) b hpb⟩
   rcases hliv i hi with hu | ⟨g1, g2, g3, g4⟩
   ·obtain ⟨p, hp, e⟩ := hplU i hu
    rw [e] at hb
    exact h3 p (List.of_mem_zip hp).2 hb
   ·rw [g4] at hb
    refine hR.mem.disj k i (hlive k hkk) g3 (fun e => ?_) b hpb hb
    subst e
    rcases List.mem_append.1 hkk with h | h
    ·obtain ⟨p, B', hp, _⟩ := hpins k h
     exact g1 (List.mem_append_left _ (List.of_mem_zip hp).1)
    ·exact g2 h
  ·refine ⟨.inr (.inr (Nat.le_trans hR.mem.ext.size h1)), h2, fun i hi hb => ?_, priv_new hR.mem h1⟩
   rcases hliv i hi with hu | ⟨g1, g2, g3, g4⟩
   ·obtain ⟨p, hp, e⟩ := hplU i hu
    rw [e] at hb
    exact h3 p (List.of_mem_zip hp).2 hb
   ·rw [g4] at hb
    have := (hR.mem.bound i g3 b hb).1
    omega
 have hfl : (∀ b, RO cx w σ.bk pl b → RO cx w' bk' pl' b) → (flats rs = true ∧ flatR ps = true) ∨ ∀ b, R' w w' R (E.map (·.1)) (pls' ++ rpl) b → RO cx w' bk' pl' b := fun hRO =>
  hRR.imp id (hRsub hRO)
 have hM := mem_gen hR.mem (w' := w') (bk' := bk') (pl' := pl') (fun i => i ∈ L ∨ i ∈ sids) (hA.ext.mono fun _ _ h => h.elim) ?_ hk ?_ ?_ ?_ ?_ ?_ ?_
 ·refine ⟨pl', rel_gen hR hM hk hd (SR_resS ?_)⟩
  exact ((resW_to rs r vs rpl nb (Res_R rs _ _ _ ((hfl hM.2.1).imp (·.1) id) hA.res)).good _ bk' pl' (fun _ h => h) lk2 fun i p hp => plZ i p (by rw [hZ]; exact List.mem_append_right _ hp)).1
 ·intro b hb h
  refine hA.ext.keep b hb fun p hp hpb => ?_
  obtain ⟨e, he, rfl⟩ := List.mem_map.1 hp
  obtain ⟨i, hi, hei⟩ := hEpl e he b hpb
  rw [hei] at hpb
  refine h i ?_ (hlive i hi) hpb
  rcases List.mem_append.1 hi with hi | hi
  ·obtain ⟨p, B', hp, _⟩ := hpins i hi
   exact .inl (List.mem_append_left _ (List.of_mem_zip hp).1)
  ·exact .inr hi
 ·intro i B hi hu
  simp only [not_or] at hu
  exact ⟨by rw [lk0 i hu.1 hu.2] at hi; exact hi, plO i hu.1⟩
 ·intro i hu hl b hb
  have hu : i ∈ L := by
   rcases hliv i hl with h | ⟨h1, h2, _⟩
   ·exact h
   ·exact absurd hu (by simp only [not_or]; exact ⟨h1, h2⟩)
  obtain ⟨p, hp, e⟩ := hplU i hu
  rw [e] at hb
  refine ⟨hA.bound p (List.of_mem_zip hp).2 b hb, ?_⟩
  rcases hA.new p (List.of_mem_zip hp).2 b hb with ⟨q, hq, h⟩ | h
  ·obtain ⟨e', he, rfl⟩ := List.mem_map.1 hq
   obtain ⟨k, hkk, hek⟩ := hEpl e' he b h
   rw [hek] at h
   refine .inr ⟨k, ?_, hlive k hkk, h⟩
   rcases List.mem_append.1 hkk with hkk | hkk
   ·obtain ⟨p, B', hp, _⟩ := hpins k hkk
    exact .inl (List.mem_append_left _ (List.of_mem_zip hp).1)
   ·exact .inr hkk
  ·exact .inl h
 ·intro i j hi hj hli hlj hij b hb hb'
  have hi : i ∈ L := by
   rcases hliv i hli with h | ⟨h1, h2, _⟩
   ·exact h
   ·exact absurd hi (by simp only [not_or]; exact ⟨h1, h2⟩)
  have hj : j ∈ L := by
   rcases hliv j hlj with h | ⟨h1, h2, _⟩
   ·exact h
   ·exact absurd hj (by simp only [not_or]; exact ⟨h1, h2⟩)
  obtain ⟨p, hp, e⟩ := hplU i hi
  obtain ⟨q, hq, e'⟩ := hplU j hj
  rw [e] at hb
  rw [e'] at hb'
  exact Disj_zip hA.disj hkn hp hq hij b hb hb'
 ·intro hRO hRw i B hu hi
  by_cases hs : i ∈ L
  ·rcases lkL i B hs hi with h | h
   ·exact ((updW_to hR ps x u pids E pls' (nb + resN rs) hal (Upd_R ps _ _ _ ((hfl hRO).imp (·.2) id) hA.upd)).good _ bk' pl' (fun _ h => h) lk1 fun i p hp => plZ i p (by rw [hZ]; exact List.mem_append_left _ hp)).2 _ h
   ·exact ((resW_to rs r vs rpl nb (Res_R rs _ _ _ ((hfl hRO).imp (·.1) id) hA.res)).good _ bk' pl' (fun _ h => h) lk2 fun i p hp => plZ i p (by rw [hZ]; exact List.mem_append_right _ hp)).2 _ h
  ·rw [lkS i (hu.resolve_left hs)] at hi
   cases hi
   trivial
 ·intro hRO i t xs hu hi
  by_cases hs : i ∈ L
  ·rcases lkL i _ hs hi with h | h
   ·exact absurd rfl (hu1.notfro _ h t xs)
   ·exact absurd rfl (hr1.notfro _ h t xs)
  ·rw [lkS i (hu.resolve_left hs)] at hi
   cases hi
 ·intro i hu hn
  rcases hu with hu | hu
  ·rcases List.mem_append.1 hu with h | h
   ·rcases hupd i h with h | h
    ·obtain ⟨B, hB, _⟩ := hlive i (List.mem_append_left _ h)
     rw [hn] at hB; cases hB
    ·exact h.2
   ·exact (hres i h).2
  ·obtain ⟨B, hB, _⟩ := hlive i (List.mem_append_right _ hu)
   rw [hn] at hB; cases hB
theorem Disj_E (hR : Rel cx σ a w pl) : ∀ {E : List REnt}, ROk σ pl E → (rids E).Nodup → Disj (E.map (·.1))
 | [], _, _ => trivial
 | e :: E, hE, hn => by
  have hn' : (rids E).Nodup := by
   unfold rids at hn ⊢
   rw [List.filterMap_cons] at hn
   split at hn
   ·exact hn
   ·exact (List.nodup_cons.1 hn).2
  refine ⟨fun q hq b hb hb' => ?_, Disj_E hR (fun f hf => hE f (List.mem_cons_of_mem _ hf)) hn'⟩
  obtain ⟨f, hf, rfl⟩ := List.mem_map.1 hq
  replace hb : e.1.fp b := hb
  have h1 := hE e List.mem_cons_self
  have h2 := hE f (List.mem_cons_of_mem _ hf)
  cases he : e.2 with
  | none => rw [he] at h1; exact h1 b hb
  | some i =>
   cases hf' : f.2 with
   | none => rw [hf'] at h2; exact h2 b hb'
   | some j =>
    rw [he] at h1
    rw [hf'] at h2
    rw [h1.1] at hb
    rw [h2.1] at hb'
    refine hR.mem.disj i j h1.2 h2.2 (fun e' => ?_) b hb hb'
    subst e'
    unfold rids at hn
    rw [List.filterMap_cons, he] at hn
    exact (List.nodup_cons.1 hn).1 (List.mem_filterMap.2 ⟨f, hf, hf'⟩)
theorem R2_before (hR : Rel cx σ a w pl) {fz : List (Nat × Blk O)} (hz : FzB σ fz) {ids : List Nat} (hlive : ∀ i ∈ ids, liveAt σ.bk i) (hd : ∀ i, i ∈ fz.map (·.1) → i ∉ ids) :
  (∀ i ∈ ids, ∀ b, (pl i).fp b → ¬ R2 cx w σ pl fz b) ∧ ∀ b, R2 cx w σ pl fz b → b < w.heap.size := by
 constructor
 ·rintro i hi b hb (h | ⟨p, hp, h⟩)
  ·exact h.2.2.1 i (hlive i hi) hb
  ·obtain ⟨t, xs, _, h1 | h1⟩ | ⟨hlv, h1⟩ := hz p hp
   rotate_right
   ·exact hR.mem.disj p.1 i ⟨_, h1, hlv⟩ (hlive i hi) (fun e => hd p.1 (List.mem_map.2 ⟨p, hp, rfl⟩) (e ▸ hi)) b h hb
   ·exact hR.mem.disj p.1 i ⟨_, h1, trivial⟩ (hlive i hi) (fun e => hd p.1 (List.mem_map.2 ⟨p, hp, rfl⟩) (e ▸ hi)) b h hb
   ·exact (hR.mem.frozen p.1 t xs h1 b h).2.2.1 i (hlive i hi) hb
 ·rintro b (h | ⟨p, hp, h⟩)
  ·exact h.2.1
  ·obtain ⟨t, xs, _, h1 | h1⟩ | ⟨hlv, h1⟩ := hz p hp
   rotate_right
   ·exact (hR.mem.bound p.1 ⟨_, h1, hlv⟩ b h).1
   ·exact (hR.mem.bound p.1 ⟨_, h1, trivial⟩ b h).1
   ·exact (hR.mem.frozen p.1 t xs h1 b h).2.1
theorem good_callF (hΓ : Γok P cfg.Γ) (hR : Rel cx σ a w pl) (hd : ∀ d, o.dst = some d → d < cx.N) {nb : Nat} {g : Nat} {xs : List Operand}
  (ho : (execOp a.eval o).run P w = (callFunc g (xs.map a.eval).toArray).run P w) (h : (callF cfg nb o.dst g xs).to σ wr) : Good P cx σ a w o wr := by
 unfold callF at h
 cases hl : look cfg.Γ g with
 | none => rw [hl] at h; exact h.elim
 | some c =>
  rw [hl] at h
  simp only at h
  have hV := hΓ g c hl
  obtain ⟨x, pids, sids, fz, E, h1, hG⟩ := gather_to hR _ _ _ h
  rw [capp_eq] at h1
  cases hn : nodupN (pids ++ sids) with
  | false => rw [hn] at h1; exact h1.elim
  | true =>
  rw [hn] at h1
  simp only at h1
  cases hdj : disjN (fz.map (·.1)) (pids ++ sids) with
  | false => rw [hdj] at h1; exact h1.elim
  | true =>
  rw [hdj] at h1
  simp only at h1
  have hnd := nodupN_iff hn
  have hdj := disjN_iff hdj
  have hz := hG.efz
  have hlive : ∀ i ∈ pids ++ sids, liveAt σ.bk i := by
   intro i hi
   obtain ⟨p, hp⟩ := rids_mem.1 (hG.perm.mem_iff.2 hi)
   exact (hG.ok _ hp).2
  have hrn : (rids E).Nodup := hG.perm.nodup_iff.2 hnd
  have hEb : ∀ (τ : St O), (∀ i ∈ pids ++ sids, look τ.bk i = look σ.bk i) → ROk τ pl E := by
   intro τ ht e he
   have h1 := hG.ok e he
   cases ho : e.2 with
   | none => rw [ho] at h1; exact h1
   | some i =>
    rw [ho] at h1
    obtain ⟨h1, B, hB, hl⟩ := h1
    have hi : i ∈ pids ++ sids := hG.perm.mem_iff.1 (rids_mem.2 ⟨e.1, by rw [← ho]; exact he⟩)
    exact ⟨h1, B, by rw [ht i hi]; exact hB, hl⟩
  have hEpl : ∀ p ∈ E.map (·.1), ∀ b, p.fp b → ∃ i, i ∈ pids ++ sids ∧ p = pl i := by
   intro p hp b hb
   obtain ⟨e, he, rfl⟩ := List.mem_map.1 hp
   replace hb : e.1.fp b := hb
   have h1 := hG.ok e he
   cases ho : e.2 with
   | none => rw [ho] at h1; exact (h1 b hb).elim
   | some i =>
    rw [ho] at h1
    exact ⟨i, hG.perm.mem_iff.1 (rids_mem.2 ⟨e.1, by rw [← ho]; exact he⟩), h1.1⟩
  have enter : ∀ (next : Act → World → Prop) (Q : Exit → Act → World → Prop),
    (Calls P g (xs.map a.eval).toArray w fun e w' => ∃ v, e = .returned v ∧ next (a.put o.dst v) w') → o.wp P a w next Q := by
   intro next Q hc
   obtain ⟨fn, e1, e2, e3⟩ := hV.fn
   unfold Oper.wp
   rw [ho]
   have : (callFunc g (xs.map a.eval).toArray).run P w = .ok (.enter g (xs.map a.eval).toArray) w := by
    simp [callFunc, go_sem, e1, show ¬ fn.name = "runtime.NumGoroutine" by simpa using e2, show ¬ fn.body = none from fun h => by rw [h] at e3; cases e3]
   rw [this, Oper.upon_enter]
   refine Calls.mono hc fun e w' he => ?_
   obtain ⟨v, rfl, hv⟩ := he
   exact hv
  cases hf : bothFlat c.outs c.ins with
  | true =>
   rw [hf] at h1
   simp only at h1
   obtain ⟨hfr, h2⟩ := freshes_to h1
   obtain ⟨⟨r, u⟩, hF, rfl⟩ := h2
   have hff : flats c.outs = true ∧ flatR c.ins = true := by
    unfold bothFlat at hf
    cases h3 : flats c.outs with
    | true => rw [h3] at hf; exact ⟨rfl, hf⟩
    | false => rw [h3] at hf; cases hf
   obtain ⟨hb1, hb2⟩ := R2_before hR hz hlive hdj
   intro next Q hnext
   refine enter next Q (Calls.mono (hV.calls w (R2 cx w σ pl fz) _ (E.map (·.1)) x r u hF ⟨by simpa using hG.entry, Disj_E hR hG.ok hrn, ?_, hb2⟩) ?_)
   ·intro p hp b hb
    obtain ⟨i, hi, rfl⟩ := hEpl p hp b hb
    exact ⟨(hR.mem.bound i (hlive i hi) b hb).1, hb1 i hi b hb⟩
   ·rintro e w' ⟨vs, pls', rpl, rfl, hA⟩
    obtain ⟨pl', hR'⟩ := call_rel hR hG.al hG.ok hG.perm hnd hfr (.inl hff) hA (nb := nb) hd
    refine ⟨_, rfl, hnext _ _ pl' ?_⟩
    have e' : (σ.app { sl := putS o.dst (resS (resW nb c.outs r).1), bk := capp (resW nb c.outs r).2 (capp (updW (Nat.add nb (resN c.outs)) c.ins u pids) (deads sids)) } : St O) =
     ⟨capp (putS o.dst (resS (resW nb c.outs r).1)) σ.sl, (resW nb c.outs r).2 ++ (updW (nb + resN c.outs) c.ins u pids ++ (deads sids ++ σ.bk))⟩ := by simp [St.app, capp_eq]
    rw [e']
    exact hR'
  | false =>
   rw [hf] at h1
   simp only at h1
   cases hfo : fzOk fz with
   | false => rw [hfo] at h1; exact h1.elim
   | true =>
   rw [hfo] at h1
   simp only at h1
   obtain ⟨hfr, h2⟩ := freshes_to h1
   obtain ⟨⟨r, u⟩, hF, rfl⟩ := h2
   have hz := FzB_Fz hz hfo
   obtain ⟨hR1, hk1, hro⟩ := rel_freeze hR hz (fzOk_mem hfo)
   have hlk : ∀ i ∈ pids ++ sids, look (fz ++ σ.bk) i = look σ.bk i := fun i hi => by
    rw [look_append, look_not_keys (fun h => hdj i h hi), Option.none_or]
   have hal1 := Al_look (τ := ⟨σ.sl, fz ++ σ.bk⟩) _ _ _ _ (fun i hi => hlk i (List.mem_append_left _ hi)) hG.al
   have hok1 := hEb ⟨σ.sl, fz ++ σ.bk⟩ hlk
   have hlive1 : ∀ i ∈ pids ++ sids, liveAt (fz ++ σ.bk) i := fun i hi => by
    obtain ⟨B, hB, hl⟩ := hlive i hi
    exact ⟨B, by rw [hlk i hi]; exact hB, hl⟩
   have hfr1 : ∀ i, nb ≤ i → i < nb + (resN c.outs + updN c.ins) → look (fz ++ σ.bk) i = none ∧ 64 ≤ i := fun i h3 h4 => by
    refine ⟨?_, (hfr i h3 h4).2⟩
    rw [look_append, (hfr i h3 h4).1]
    cases hlf : look fz i with
    | none => rfl
    | some B =>
     obtain ⟨t, ys, _, h5⟩ := hz (i, B) (look_mem hlf)
     simp only at h5
     rw [(hfr i h3 h4).1] at h5
     rcases h5 with h5 | h5 <;> cases h5
   have hent1 : Entry w (RO cx w (fz ++ σ.bk) pl) c.ins x (xs.map a.eval) (E.map (·.1)) := Entry_R hro _ _ _ _ hG.entry
   intro next Q hnext
   refine enter next Q (Calls.mono (hV.calls w (RO cx w (fz ++ σ.bk) pl) _ (E.map (·.1)) x r u hF ⟨by simpa using hent1, Disj_E hR hG.ok hrn, ?_, fun b hb => hb.2.1⟩) ?_)
   ·intro p hp b hb
    obtain ⟨i, hi, rfl⟩ := hEpl p hp b hb
    exact ⟨(hR.mem.bound i (hlive i hi) b hb).1, fun h => h.2.2.1 i (hlive1 i hi) hb⟩
   ·rintro e w' ⟨vs, pls', rpl, rfl, hA⟩
    obtain ⟨pl', hR'⟩ := call_rel hR1 hal1 hok1 hG.perm hnd hfr1 (.inr fun b hb => hb) hA (nb := nb) hd
    refine ⟨_, rfl, hnext _ _ pl' ?_⟩
    have e' : (σ.app { sl := putS o.dst (resS (resW nb c.outs r).1), bk := capp (resW nb c.outs r).2 (capp (updW (Nat.add nb (resN c.outs)) c.ins u pids) (capp (deads sids) fz)) } : St O) =
     ⟨capp (putS o.dst (resS (resW nb c.outs r).1)) σ.sl, (resW nb c.outs r).2 ++ (updW (nb + resN c.outs) c.ins u pids ++ (deads sids ++ (fz ++ σ.bk)))⟩ := by simp [St.app, capp_eq]
    rw [e']
    exact hR'
end
end Go.BB
