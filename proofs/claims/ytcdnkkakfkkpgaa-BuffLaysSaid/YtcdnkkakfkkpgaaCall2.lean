/- A symbolic machine for the model's code, and what it shows of this seat's functions. No conditions. -/
import Derived.Test.YtcdnkkakfkkpgaaCall
import Derived.BigCall
set_option linter.unusedSimpArgs false
set_option linter.unusedVariables false
namespace Go.BB
open Go
section
variable {O : ObjK} {cx : Cx} {σ : St O} {a : Act} {w : World} {pl : Nat → Pl} {cfg : Cfg O} {P : Program} {o : Oper} {wr : Wr O}

theorem look_of_mem {α : Type} : ∀ {l : List (Nat × α)} {i : Nat} {x : α}, (l.map (·.1)).Nodup → (i, x) ∈ l → look l i = some x
  | (j, y) :: l, i, x, hn, h => by
    rw [look_cons]
    simp only [List.map_cons, List.nodup_cons] at hn
    rcases List.mem_cons.1 h with h | h
    · cases h; simp
    · have hne : j ≠ i := fun e => hn.1 (by rw [e]; exact List.mem_map.2 ⟨(i, x), h, rfl⟩)
      rw [if_neg hne]
      exact look_of_mem hn.2 h
theorem look_mem_keys {α : Type} {l : List (Nat × α)} {i : Nat} (h : i ∈ l.map (·.1)) : ∃ x, look l i = some x := by
  cases hl : look l i with
  | some x => exact ⟨x, rfl⟩
  | none =>
    obtain ⟨p, hp, e⟩ := List.mem_map.1 h
    exact absurd (show (i, p.2) ∈ l by rw [← e]; exact hp) (look_none.1 hl p.2)
theorem look_keys {α : Type} {l : List (Nat × α)} {i : Nat} {x : α} (h : look l i = some x) : i ∈ l.map (·.1) := List.mem_map.2 ⟨(i, x), look_mem h, rfl⟩
theorem look_not_keys {α : Type} {l : List (Nat × α)} {i : Nat} (h : i ∉ l.map (·.1)) : look l i = none := look_none.2 fun x hx => h (List.mem_map.2 ⟨(i, x), hx, rfl⟩)
theorem nodupN_iff : ∀ {xs : List Nat}, nodupN xs = true → xs.Nodup
  | [], _ => List.nodup_nil
  | x :: xs, h => by
    unfold nodupN at h
    cases hm : memN x xs with
    | true => rw [hm] at h; cases h
    | false =>
      rw [hm] at h
      refine List.nodup_cons.2 ⟨fun hx => ?_, nodupN_iff h⟩
      rw [(memN_iff x xs).2 hx] at hm; cases hm
theorem disjN_iff : ∀ {xs ys : List Nat}, disjN xs ys = true → ∀ i, i ∈ xs → i ∉ ys
  | x :: xs, ys, h, i, hi => by
    unfold disjN at h
    cases hm : memN x ys with
    | true => rw [hm] at h; cases h
    | false =>
      rw [hm] at h
      rcases List.mem_cons.1 hi with rfl | hi
      · intro hx
        rw [(memN_iff i ys).2 hx] at hm; cases hm
      · exact disjN_iff h i hi
theorem IdsAre_live {bk : List (Nat × Blk O)} : ∀ (ps : List (PK O)) (x : dens ps) (ids : List Nat), IdsAre bk ps x ids → ∀ i ∈ ids, liveAt bk i
  | [], _, [], _, i, hi => by cases hi
  | .val _ :: ps, x, ids, h, i, hi => IdsAre_live ps x.2 ids h i hi
  | .fn _ :: ps, x, ids, h, i, hi => IdsAre_live ps x.2 ids h i hi
  | .row t :: ps, x, j :: ids, h, i, hi => by
    rcases List.mem_cons.1 hi with rfl | hi
    · exact ⟨_, h.1, trivial⟩
    · exact IdsAre_live ps x.2 ids h.2 i hi
  | .obj k :: ps, x, j :: ids, h, i, hi => by
    rcases List.mem_cons.1 hi with rfl | hi
    · exact ⟨_, h.1, trivial⟩
    · exact IdsAre_live ps x.2 ids h.2 i hi
theorem IdsAre_look {bk bk' : List (Nat × Blk O)} : ∀ (ps : List (PK O)) (x : dens ps) (ids : List Nat), (∀ i ∈ ids, look bk' i = look bk i) → IdsAre bk ps x ids → IdsAre bk' ps x ids
  | [], _, [], _, _ => trivial
  | [], _, _ :: _, _, h => by cases h
  | .val _ :: ps, x, ids, hl, h => IdsAre_look ps x.2 ids hl h
  | .fn _ :: ps, x, ids, hl, h => IdsAre_look ps x.2 ids hl h
  | .row t :: ps, x, [], hl, h => by cases h
  | .obj k :: ps, x, [], hl, h => by cases h
  | .row t :: ps, x, j :: ids, hl, h => ⟨(hl j List.mem_cons_self).trans h.1, IdsAre_look ps x.2 ids (fun i hi => hl i (List.mem_cons_of_mem _ hi)) h.2⟩
  | .obj k :: ps, x, j :: ids, hl, h => ⟨(hl j List.mem_cons_self).trans h.1, IdsAre_look ps x.2 ids (fun i hi => hl i (List.mem_cons_of_mem _ hi)) h.2⟩
theorem Disj_map {l : List Nat} {f : Nat → Pl} (hn : l.Nodup) (h : ∀ i ∈ l, ∀ j ∈ l, i ≠ j → ∀ b, (f i).fp b → ¬ (f j).fp b) : Disj (l.map f) := by
  induction l with
  | nil => trivial
  | cons i l ih =>
    simp only [List.nodup_cons] at hn
    refine ⟨fun q hq b hb => ?_, ih hn.2 fun i hi j hj => h i (List.mem_cons_of_mem _ hi) j (List.mem_cons_of_mem _ hj)⟩
    obtain ⟨j, hj, rfl⟩ := List.mem_map.1 hq
    exact h i List.mem_cons_self j (List.mem_cons_of_mem _ hj) (fun e => hn.1 (e ▸ hj)) b hb
theorem Disj_zip : ∀ {ks : List Nat} {ps : List Pl}, Disj ps → ks.Nodup → ∀ {i j : Nat} {p q : Pl}, (i, p) ∈ ks.zip ps → (j, q) ∈ ks.zip ps → i ≠ j → ∀ b, p.fp b → ¬ q.fp b
  | [], _, _, _, i, j, p, q, h, _, _ => by simp at h
  | _ :: _, [], _, _, i, j, p, q, h, _, _ => by simp at h
  | k :: ks, r :: ps, hd, hn, i, j, p, q, h1, h2, hij => by
    simp only [List.zip_cons_cons, List.mem_cons] at h1 h2
    simp only [List.nodup_cons] at hn
    rcases h1 with h1 | h1
    · cases h1
      rcases h2 with h2 | h2
      · cases h2; exact absurd rfl hij
      · intro b hb hq
        exact hd.1 q (List.of_mem_zip h2).2 b hb hq
    · rcases h2 with h2 | h2
      · cases h2
        intro b hb hq
        exact hd.1 p (List.of_mem_zip h1).2 b hq hb
      · exact Disj_zip hd.2 hn.2 h1 h2 hij
theorem Grown_zip {n : Nat} : ∀ {ids : List Nat} {f : Nat → Pl} {qs : List Pl}, Grown n (ids.map f) qs → ∀ {i : Nat} {q : Pl}, (i, q) ∈ ids.zip qs → (f i).same q ∧ ∀ b, q.fp b → (f i).fp b ∨ n ≤ b
  | [], f, _, _, i, q, h => by simp at h
  | _ :: _, f, [], _, i, q, h => by simp at h
  | k :: ids, f, r :: qs, hg, i, q, h => by
    simp only [List.zip_cons_cons, List.mem_cons] at h
    rcases h with h | h
    · cases h; exact hg.1
    · exact Grown_zip hg.2 h
theorem keys_zip {ks : List Nat} {ps : List Pl} (h : ks.length = ps.length) : (ks.zip ps).map (·.1) = ks := by
  induction ks generalizing ps with
  | nil => simp
  | cons k ks ih =>
    cases ps with
    | nil => simp at h
    | cons p ps => simp only [List.zip_cons_cons, List.map_cons, ih (by simpa using h)]
theorem SR_resS {R : Nat → Prop} {bk : List (Nat × Blk O)} {ts : List T} {vs : List Value} (h : All2 (TR w R bk pl) ts vs) : SR w R bk pl (resS ts) (resV vs) := by
  match ts, vs, h with
  | [], [], _ => exact ⟨#[], rfl, trivial⟩
  | [t], [v], h => exact h.1
  | t :: t' :: ts, v :: v' :: vs, h => exact ⟨_, rfl, by simpa using h⟩

/-- memory behind a call -/
theorem call_rel (hR : Rel cx σ a w pl) {ps : List (PK O)} {rs : List (RK O)} {x : dens ps} {r : rdens rs} {u : upds ps} {ids : List Nat} {nb : Nat} {R : Nat → Prop} {w' : World} {vs args : List Value} {pls' rpl : List Pl}
    (hids : IdsAre σ.bk ps x ids) (hnd : ids.Nodup) (hfresh : ∀ i, nb ≤ i → i < nb + rs.length → look σ.bk i = none ∧ 64 ≤ i)
    (hent : Entry w R ps x args (ids.map pl)) (hRR : (flats rs = true ∧ flatR ps = true) ∨ ∀ b, R b → RO cx w σ.bk pl b)
    (hA : After w w' R ps rs x r u vs (ids.map pl) pls' rpl) {dst : Option Tmp} (hd : ∀ d, dst = some d → d < cx.N) :
    ∃ pl', Rel cx ⟨capp (putS dst (resS (resW nb rs r).1)) σ.sl, (resW nb rs r).2 ++ (updW ps u ids ++ σ.bk)⟩ (a.put dst (resV vs)) w' pl' := by
  have hlive := IdsAre_live ps x ids hids
  have hlen1 : ids.length = pls'.length := by have := hA.grown.length; simpa using this
  have hu1 := updW_blocks ps x u ids pls' args R w (ids.map pl) hids hA.upd hA.kept hent
  have hr1 := resW_blocks rs r vs rpl nb hA.res
  have hlen2 := hr1.2.1
  -- labels
  have hge := resL_ge rs nb
  have hres : ∀ i, i ∈ resL nb rs → look σ.bk i = none ∧ 64 ≤ i := fun i hi => hfresh i (hge i hi).1 (hge i hi).2
  have hno : ∀ i, i ∈ ids → i ∉ resL nb rs := fun i hi h => by
    obtain ⟨B, hB, _⟩ := hlive i hi
    rw [(hres i h).1] at hB; cases hB
  have hkn : (ids ++ resL nb rs).Nodup := List.nodup_append.2 ⟨hnd, resL_nodup rs nb, fun i hi j hj e => hno i hi (e ▸ hj)⟩
  have hkl : (ids ++ resL nb rs).length = (pls' ++ rpl).length := by simp [hlen1, hlen2]
  let Z := (ids ++ resL nb rs).zip (pls' ++ rpl)
  have hZk : Z.map (·.1) = ids ++ resL nb rs := keys_zip hkl
  have hZ : Z = ids.zip pls' ++ (resL nb rs).zip rpl := List.zip_append hlen1
  let pl' : Nat → Pl := fun j => (look Z j).getD (pl j)
  have plZ : ∀ i p, (i, p) ∈ Z → pl' i = p := fun i p h => by
    have := look_of_mem (by rw [hZk]; exact hkn) h
    simp only [pl', this, Option.getD_some]
  have plO : ∀ i, i ∉ ids ++ resL nb rs → pl' i = pl i := fun i h => by
    have := look_not_keys (l := Z) (by rw [hZk]; exact h)
    simp only [pl', this, Option.getD_none]
  -- blocks
  let bk' := (resW nb rs r).2 ++ (updW ps u ids ++ σ.bk)
  have lkR : ∀ i, i ∉ resL nb rs → look (resW nb rs r).2 i = none := fun i h => look_not_keys (by rw [hr1.1]; exact h)
  have lkU : ∀ i, i ∉ ids → look (updW ps u ids) i = none := fun i h => look_not_keys (by rw [hu1.1]; exact h)
  have lk0 : ∀ i, i ∉ ids ++ resL nb rs → look bk' i = look σ.bk i := fun i h => by
    simp only [List.mem_append, not_or] at h
    simp only [bk', look_append, lkR i h.2, lkU i h.1, Option.none_or]
  have lk1 : ∀ i, i ∈ ids → ∃ B, look bk' i = some B ∧ (i, B) ∈ updW ps u ids := fun i h => by
    obtain ⟨B, hB⟩ := look_mem_keys (l := updW ps u ids) (by rw [hu1.1]; exact h)
    refine ⟨B, ?_, look_mem hB⟩
    simp only [bk', look_append, lkR i (hno i h), hB, Option.none_or, Option.some_or]
  have lk2 : ∀ i, i ∈ resL nb rs → ∃ B, look bk' i = some B ∧ (i, B) ∈ (resW nb rs r).2 := fun i h => by
    obtain ⟨B, hB⟩ := look_mem_keys (l := (resW nb rs r).2) (by rw [hr1.1]; exact h)
    refine ⟨B, ?_, look_mem hB⟩
    simp only [bk', look_append, hB, Option.some_or]
  have hk : Keeps σ.bk bk' pl pl' := by
    intro i B hi
    by_cases h1 : i ∈ ids
    · obtain ⟨B', hB', hm⟩ := lk1 i h1
      obtain ⟨⟨p, hp, _⟩, B0, g1, g2, g3, g4, g5⟩ := hu1.2.2 i B' hm
      rw [hi] at g1
      cases g1
      rw [plZ i p (by rw [hZ]; exact List.mem_append_left _ hp)]
      exact ⟨(Grown_zip hA.grown hp).1, B', hB', g3, g4, g5⟩
    · have h2 : i ∉ resL nb rs := fun h => by rw [(hres i h).1] at hi; cases hi
      have h3 : i ∉ ids ++ resL nb rs := by simp only [List.mem_append, not_or]; exact ⟨h1, h2⟩
      exact ⟨by rw [plO i h3]; exact Pl.same_refl _, B, by rw [lk0 i h3]; exact hi, fun _ _ h => h, id, id⟩
  -- what a block of U's place is
  have hplU : ∀ i, i ∈ ids ++ resL nb rs → ∃ p, (i, p) ∈ Z ∧ pl' i = p := fun i h => by
    have h' : i ∈ Z.map (·.1) := by rw [hZk]; exact h
    obtain ⟨p, hp⟩ := look_mem_keys h'
    exact ⟨p, look_mem hp, by simp only [pl', hp, Option.getD_some]⟩
  have hRsub : (∀ b, RO cx w σ.bk pl b → RO cx w' bk' pl' b) → (∀ b, R b → RO cx w σ.bk pl b) → ∀ b, R' w w' R (pls' ++ rpl) b → RO cx w' bk' pl' b := by
    intro hRO hs b ⟨h1, h2, h3⟩
    rcases h1 with h1 | h1
    · exact hRO b (hs b h1)
    · refine ⟨.inr (Nat.le_trans hR.mem.ext.size h1), h2, fun i hi hb => ?_⟩
      by_cases hu : i ∈ ids ++ resL nb rs
      · obtain ⟨p, hp, e⟩ := hplU i hu
        rw [e] at hb
        exact h3 p (List.of_mem_zip hp).2 hb
      · rw [plO i hu] at hb
        obtain ⟨B, hB, hl⟩ := hi
        rw [lk0 i hu] at hB
        have := (hR.mem.bound i ⟨B, hB, hl⟩ b hb).1
        omega
  have hfl : (∀ b, RO cx w σ.bk pl b → RO cx w' bk' pl' b) → (flats rs = true ∧ flatR ps = true) ∨ ∀ b, R' w w' R (pls' ++ rpl) b → RO cx w' bk' pl' b := fun hRO =>
    hRR.imp id (hRsub hRO)
  have hM := mem_gen hR.mem (w' := w') (bk' := bk') (pl' := pl') (fun i => i ∈ ids ++ resL nb rs) (hA.ext.mono fun _ _ h => h.elim) ?_ hk ?_ ?_ ?_ ?_ ?_ ?_
  · refine ⟨pl', rel_gen hR hM hk hd (SR_resS ?_)⟩
    refine resW_vals rs r vs rpl nb (Res_R rs _ _ _ ((hfl hM.2.1).imp (·.1) id) hA.res) (fun i B hi => ?_) fun i p hp => plZ i p (by rw [hZ]; exact List.mem_append_right _ hp)
    have hl := look_of_mem (by rw [hr1.1]; exact resL_nodup rs nb) hi
    simp only [bk', look_append, hl, Option.some_or]
  · intro b hb h
    refine hA.ext.keep b hb fun p hp => ?_
    obtain ⟨i, hi, rfl⟩ := List.mem_map.1 hp
    exact h i (List.mem_append_left _ hi) (hlive i hi)
  · intro i B hi hu
    exact ⟨by rw [lk0 i hu] at hi; exact hi, plO i hu⟩
  · intro i hu hl b hb
    obtain ⟨p, hp, e⟩ := hplU i hu
    rw [e] at hb
    refine ⟨hA.bound p (List.of_mem_zip hp).2 b hb, ?_⟩
    rw [hZ] at hp
    rcases List.mem_append.1 hp with hp | hp
    · have hi := (List.of_mem_zip hp).1
      rcases (Grown_zip hA.grown hp).2 b hb with h | h
      · exact .inr ⟨i, hu, hlive i hi, h, .inl rfl⟩
      · exact .inl h
    · exact .inl (hA.new p (List.of_mem_zip hp).2 b hb)
  · intro i j hi hj _ _ hij b hb hb'
    obtain ⟨p, hp, e⟩ := hplU i hi
    obtain ⟨q, hq, e'⟩ := hplU j hj
    rw [e] at hb
    rw [e'] at hb'
    exact Disj_zip hA.disj hkn hp hq hij b hb hb'
  · intro hRO hRw i B hu hi
    rcases List.mem_append.1 hu with h | h
    · obtain ⟨B', hB', hm⟩ := lk1 i h
      rw [hi] at hB'
      cases hB'
      obtain ⟨⟨p, hp, hq⟩, _⟩ := (updW_blocks ps x u ids pls' args R w (ids.map pl) hids (Upd_R ps _ _ ((hfl hRO).imp (·.2) id) hA.upd) hA.kept hent).2.2 i B hm
      refine BQ_BR ?_
      rw [plZ i p (by rw [hZ]; exact List.mem_append_left _ hp)]
      exact hq
    · obtain ⟨B', hB', hm⟩ := lk2 i h
      rw [hi] at hB'
      cases hB'
      obtain ⟨p, hp, hq⟩ := (resW_blocks rs r vs rpl nb (Res_R rs _ _ _ ((hfl hRO).imp (·.1) id) hA.res)).2.2 i B hm
      refine BQ_BR ?_
      rw [plZ i p (by rw [hZ]; exact List.mem_append_right _ hp)]
      exact hq
  · intro hRO i t xs hu hi
    rcases List.mem_append.1 hu with h | h
    · obtain ⟨B', hB', hm⟩ := lk1 i h
      rw [hi] at hB'
      cases hB'
      obtain ⟨⟨p, hp, hq⟩, _⟩ := hu1.2.2 i _ hm
      exact hq.elim
    · obtain ⟨B', hB', hm⟩ := lk2 i h
      rw [hi] at hB'
      cases hB'
      obtain ⟨p, hp, hq⟩ := hr1.2.2 i _ hm
      exact hq.elim
  · intro i hu hn
    rcases List.mem_append.1 hu with h | h
    · obtain ⟨B, hB, _⟩ := hlive i h
      rw [hn] at hB; cases hB
    · exact (hres i h).2
theorem R2_before (hR : Rel cx σ a w pl) {fz : List (Nat × Blk O)} (hz : Fz σ fz) {ids : List Nat} (hlive : ∀ i ∈ ids, liveAt σ.bk i) (hd : ∀ i, i ∈ fz.map (·.1) → i ∉ ids) :
    (∀ i ∈ ids, ∀ b, (pl i).fp b → ¬ R2 cx w σ pl fz b) ∧ ∀ b, R2 cx w σ pl fz b → b < w.heap.size := by
  constructor
  · rintro i hi b hb (h | ⟨p, hp, h⟩)
    · exact h.2.2 i (hlive i hi) hb
    · obtain ⟨t, xs, _, h1 | h1⟩ := hz p hp
      · exact hR.mem.disj p.1 i ⟨_, h1, trivial⟩ (hlive i hi) (fun e => hd p.1 (List.mem_map.2 ⟨p, hp, rfl⟩) (e ▸ hi)) b h hb
      · exact (hR.mem.frozen p.1 t xs h1 b h).2.2 i (hlive i hi) hb
  · rintro b (h | ⟨p, hp, h⟩)
    · exact h.2.1
    · obtain ⟨t, xs, _, h1 | h1⟩ := hz p hp
      · exact (hR.mem.bound p.1 ⟨_, h1, trivial⟩ b h).1
      · exact (hR.mem.frozen p.1 t xs h1 b h).2.1
/-- what makes a call is entered -/
theorem good_callF (hΓ : Γok P cfg.Γ) (hR : Rel cx σ a w pl) (hd : ∀ d, o.dst = some d → d < cx.N) {nb : Nat} {g : Nat} {xs : List Operand}
    (ho : (execOp a.eval o).run P w = (callFunc g (xs.map a.eval).toArray).run P w) (h : (callF cfg nb o.dst g xs).to σ wr) : Good P cx σ a w o wr := by
  unfold callF at h
  cases hl : look cfg.Γ g with
  | none => rw [hl] at h; exact h.elim
  | some c =>
    rw [hl] at h
    simp only at h
    have hV := hΓ g c hl
    obtain ⟨x, ids, fz, h1, hz, hent, hids⟩ := gather_to hR _ _ _ h
    cases hn : nodupN ids with
    | false => rw [hn] at h1; exact h1.elim
    | true =>
    rw [hn] at h1
    simp only at h1
    cases hdj : disjN (fz.map (·.1)) ids with
    | false => rw [hdj] at h1; exact h1.elim
    | true =>
    rw [hdj] at h1
    simp only at h1
    have hnd := nodupN_iff hn
    have hdj := disjN_iff hdj
    have hlive := IdsAre_live _ _ _ hids
    -- how a call of this function goes
    have enter : ∀ (next : Act → World → Prop) (Q : Exit → Act → World → Prop),
        (Calls P g (xs.map a.eval).toArray w fun e w' => ∃ v, e = .returned v ∧ next (a.put o.dst v) w') → o.wp P a w next Q := by
      intro next Q hc
      obtain ⟨fn, e1, e2, e3⟩ := hV.fn
      unfold Oper.wp
      rw [ho]
      have : (callFunc g (xs.map a.eval).toArray).run P w = .ok (.enter g (xs.map a.eval).toArray) w := by
        simp [callFunc, go_sem, e1, show ¬ fn.name = "runtime.NumGoroutine" by simpa using e2, show ¬ fn.body = none from fun h => by rw [h] at e3; cases e3]
      rw [this, Oper.upon_enter]
      refine Calls.mono hc fun e w' he => ?_
      obtain ⟨v, rfl, hv⟩ := he
      exact hv
    cases hf : bothFlat c.outs c.ins with
    | true =>
      rw [hf] at h1
      simp only at h1
      obtain ⟨hfr, h2⟩ := freshes_to h1
      obtain ⟨⟨r, u⟩, hF, rfl⟩ := h2
      rw [clen_eq] at hfr
      have hff : flats c.outs = true ∧ flatR c.ins = true := by
        unfold bothFlat at hf
        cases h3 : flats c.outs with
        | true => rw [h3] at hf; exact ⟨rfl, hf⟩
        | false => rw [h3] at hf; cases hf
      obtain ⟨hb1, hb2⟩ := R2_before hR hz hlive hdj
      intro next Q hnext
      refine enter next Q (Calls.mono (hV.calls w (R2 cx w σ pl fz) _ (ids.map pl) x r u hF ⟨by simpa using hent, ?_, ?_, hb2⟩) ?_)
      · exact Disj_map hnd fun i hi j hj hij => hR.mem.disj i j (hlive i hi) (hlive j hj) hij
      · intro p hp b hb
        obtain ⟨i, hi, rfl⟩ := List.mem_map.1 hp
        exact ⟨(hR.mem.bound i (hlive i hi) b hb).1, hb1 i hi b hb⟩
      · rintro e w' ⟨vs, pls', rpl, rfl, hA⟩
        obtain ⟨pl', hR'⟩ := call_rel hR hids hnd hfr hent (.inl hff) hA (nb := nb) hd
        refine ⟨_, rfl, hnext _ _ pl' ?_⟩
        have e' : (σ.app { sl := putS o.dst (resS (resW nb c.outs r).1), bk := capp (resW nb c.outs r).2 (updW c.ins u ids) } : St O) =
          ⟨capp (putS o.dst (resS (resW nb c.outs r).1)) σ.sl, (resW nb c.outs r).2 ++ (updW c.ins u ids ++ σ.bk)⟩ := by simp [St.app, capp_eq]
        rw [e']
        exact hR'
    | false =>
      rw [hf] at h1
      simp only at h1
      cases hfo : fzOk fz with
      | false => rw [hfo] at h1; exact h1.elim
      | true =>
      rw [hfo] at h1
      simp only at h1
      obtain ⟨hfr, h2⟩ := freshes_to h1
      obtain ⟨⟨r, u⟩, hF, rfl⟩ := h2
      rw [clen_eq] at hfr
      obtain ⟨hR1, hk1, hro⟩ := rel_freeze hR hz (fzOk_mem hfo)
      have hlk : ∀ i ∈ ids, look (fz ++ σ.bk) i = look σ.bk i := fun i hi => by
        rw [look_append, look_not_keys (fun h => hdj i h hi), Option.none_or]
      have hids1 := IdsAre_look _ _ _ hlk hids
      have hlive1 := IdsAre_live _ _ _ hids1
      have hfr1 : ∀ i, nb ≤ i → i < nb + c.outs.length → look (fz ++ σ.bk) i = none ∧ 64 ≤ i := fun i h3 h4 => by
        refine ⟨?_, (hfr i h3 h4).2⟩
        rw [look_append, (hfr i h3 h4).1]
        cases hlf : look fz i with
        | none => rfl
        | some B =>
          obtain ⟨t, ys, _, h5⟩ := hz (i, B) (look_mem hlf)
          simp only at h5
          rw [(hfr i h3 h4).1] at h5
          rcases h5 with h5 | h5 <;> cases h5
      have hent1 : Entry w (RO cx w (fz ++ σ.bk) pl) c.ins x (xs.map a.eval) (ids.map pl) := Entry_R hro _ _ _ _ hent
      intro next Q hnext
      refine enter next Q (Calls.mono (hV.calls w (RO cx w (fz ++ σ.bk) pl) _ (ids.map pl) x r u hF ⟨by simpa using hent1, ?_, ?_, fun b hb => hb.2.1⟩) ?_)
      · exact Disj_map hnd fun i hi j hj hij => hR.mem.disj i j (hlive i hi) (hlive j hj) hij
      · intro p hp b hb
        obtain ⟨i, hi, rfl⟩ := List.mem_map.1 hp
        exact ⟨(hR.mem.bound i (hlive i hi) b hb).1, fun h => h.2.2 i (hlive1 i hi) hb⟩
      · rintro e w' ⟨vs, pls', rpl, rfl, hA⟩
        obtain ⟨pl', hR'⟩ := call_rel hR1 hids1 hnd hfr1 hent1 (.inr fun b hb => hb) hA (nb := nb) hd
        refine ⟨_, rfl, hnext _ _ pl' ?_⟩
        have e' : (σ.app { sl := putS o.dst (resS (resW nb c.outs r).1), bk := capp (resW nb c.outs r).2 (capp (updW c.ins u ids) fz) } : St O) =
          ⟨capp (putS o.dst (resS (resW nb c.outs r).1)) σ.sl, (resW nb c.outs r).2 ++ (updW c.ins u ids ++ (fz ++ σ.bk))⟩ := by simp [St.app, capp_eq]
        rw [e']
        exact hR'
end
end Go.BB
