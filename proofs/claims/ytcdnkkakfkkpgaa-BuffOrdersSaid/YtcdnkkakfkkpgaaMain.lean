/- A symbolic machine for the model's code, and what it shows of this seat's functions. No conditions. -/
import Derived.Test.YtcdnkkakfkkpgaaFin
set_option linter.unusedSimpArgs false
set_option linter.unusedVariables false
namespace Go.BB
open Go
section
variable {O : ObjK} {σ τ : St O} {a : Act} {w : World} {pl : Nat → Pl} {cfg : Cfg O} {P : Program}

theorem Disj_ents {cx : Cx} (hR : Rel cx σ a w pl) : ∀ {E : List REnt}, ROk σ pl E → (rids E).Nodup → Disj (E.map (·.1))
  | [], _, _ => trivial
  | e :: E, hE, hn => by
    have hn' : (rids E).Nodup := by
      unfold rids at hn ⊢
      rw [List.filterMap_cons] at hn
      split at hn
      · exact hn
      · exact (List.nodup_cons.1 hn).2
    refine ⟨fun q hq b hb hb' => ?_, Disj_ents hR (fun f hf => hE f (List.mem_cons_of_mem _ hf)) hn'⟩
    obtain ⟨f, hf, rfl⟩ := List.mem_map.1 hq
    replace hb : e.1.fp b := hb
    have h1 := hE e List.mem_cons_self
    have h2 := hE f (List.mem_cons_of_mem _ hf)
    cases he : e.2 with
    | none => rw [he] at h1; rw [show e.1 = _ from h1] at hb; exact hb
    | some i =>
      cases hf' : f.2 with
      | none => rw [hf'] at h2; rw [show f.1 = _ from h2] at hb'; exact hb'
      | some j =>
        rw [he] at h1
        rw [hf'] at h2
        rw [h1.1] at hb
        rw [h2.1] at hb'
        refine hR.mem.disj i j h1.2 h2.2 (fun e' => ?_) b hb hb'
        subst e'
        unfold rids at hn
        rw [List.filterMap_cons, he] at hn
        exact (List.nodup_cons.1 hn).1 (List.mem_filterMap.2 ⟨f, hf, hf'⟩)
/-- what a function's run shows of it -/
theorem valid_of_run (hm : P.follows .mixedOrders = true) {g : Nat} {f : Func} {c : Code} (hf : P.funcs[g]? = some f) (hname : (f.name == "runtime.NumGoroutine") = false) (hb : f.body = some c)
    (hT : TTok P cfg.tt) (hΓ : Γok P cfg.Γ) {tms : List (List (Nat × SSh O))} {ct : Ctr O}
    (hps : ct.ins.length ≤ 64) (hpn : ct.ins.length ≤ f.ntmps) (hk : ∀ x r u, ct.F x = some (r, u) → Kept ct.ins x u)
    (hrun : ∀ x r u, ct.F x = some (r, u) → ∃ K, runF cfg K f tms ct.ins ct.outs x = some (r, u)) : Valid P g ct := by
  refine ⟨⟨f, hf, hname, by rw [hb]; rfl⟩, fun w R args pls x r u hF hB => ?_⟩
  obtain ⟨K, h⟩ := hrun x r u hF
  unfold runF at h
  rw [hb] at h
  simp only at h
  rw [St.force_eq] at h
  obtain ⟨i1, i2, i3, i4, i5⟩ := initS_to ct.ins x args.toList pls 0 hB.entry
  have hkn := parIds_nodup ct.ins 0
  let Z := (parIds 0 ct.ins).zip pls
  have hZk : Z.map (·.1) = parIds 0 ct.ins := keys_zip i2
  let pl0 : Nat → Pl := fun j => (look Z j).getD .nil
  have plZ : ∀ i p, (i, p) ∈ Z → pl0 i = p := fun i p h => by
    have := look_of_mem (l := Z) (by rw [hZk]; exact hkn) h
    simp only [pl0, this, Option.getD_some]
  have hpl : ∀ i p, look Z i = some p → i < 64 := fun i p h => by
    have h1 : i ∈ Z.map (·.1) := look_keys h
    rw [hZk] at h1
    have := parIds_ge ct.ins 0 i h1
    omega
  let cx : Cx := { N := f.ntmps, w0 := w, R0 := R, WR := fun i b => ∃ p, look Z i = some p ∧ p.fp b, pins := look Z, pinlt := hpl }
  have hsz : args.size = ct.ins.length := by rw [i3]; simp
  let a0 : Act := { tmps := args ++ Array.replicate (f.ntmps - args.size) undef, defers := [] }
  let bk0 := (initSt ct.ins x).bk
  have hbk : ∀ p ∈ (initS 0 ct.ins x).2, look bk0 p.1 = some p.2 := fun p hp => look_of_mem (l := (initS 0 ct.ins x).2) (by rw [i1]; exact hkn) hp
  have hplace : ∀ i, (∃ B, look bk0 i = some B) → ∃ p, (i, p) ∈ Z ∧ pl0 i = p ∧ p ∈ pls := by
    rintro i ⟨B, hB'⟩
    have h1 : i ∈ (initS 0 ct.ins x).2.map (·.1) := look_keys hB'
    rw [i1, ← hZk] at h1
    obtain ⟨p, hp⟩ := look_mem_keys h1
    have hp' := look_mem hp
    exact ⟨p, hp', plZ i p hp', (List.of_mem_zip hp').2⟩
  have hRO0 : ∀ b, R b → RO cx w bk0 pl0 b := by
    intro b hb
    refine ⟨.inl hb, hB.read b hb, fun i hi hbi => ?_⟩
    obtain ⟨B, hB', _⟩ := hi
    obtain ⟨p, _, e, hp⟩ := hplace i ⟨B, hB'⟩
    rw [e] at hbi
    exact (hB.bound p hp b hbi).2 hb
  have hM0 : Mem cx w bk0 pl0 := by
    refine ⟨fun i B hi => ?_, ?_, ?_, Ext.refl _ _, ?_, ?_⟩
    · obtain ⟨p, hp, hq⟩ := i4 i B (look_mem hi)
      refine BQ_BR (BQ_R hRO0 ?_)
      rw [plZ i p hp]; exact hq
    · rintro i j ⟨B, hB1, _⟩ ⟨B', hB2, _⟩ hij b hb hb'
      obtain ⟨p, hp, e, _⟩ := hplace i ⟨B, hB1⟩
      obtain ⟨q, hq, e', _⟩ := hplace j ⟨B', hB2⟩
      rw [e] at hb
      rw [e'] at hb'
      exact Disj_zip hB.disj hkn hp hq hij b hb hb'
    · rintro i ⟨B, hB1, _⟩ b hb
      obtain ⟨p, hp, e, hpp⟩ := hplace i ⟨B, hB1⟩
      rw [e] at hb
      refine ⟨(hB.bound p hpp b hb).1, .inr ⟨?_, p, look_of_mem (by rw [hZk]; exact hkn) hp, hb⟩⟩
      have h1 : i ∈ Z.map (·.1) := List.mem_map.2 ⟨(i, p), hp, rfl⟩
      rw [hZk] at h1
      have := parIds_ge ct.ins 0 i h1
      omega
    · intro i t xs hi
      obtain ⟨p, hp, hq⟩ := i4 i _ (look_mem hi)
      exact hq.elim
    · intro i p B hp hi
      rw [plZ i p (look_mem hp)]
      exact Pl.same_refl _
  have hgetD : ∀ t v, args.toList[t]? = some v → t < a0.tmps.size ∧ a0.tmps.getD t undef = v := by
    intro t v ht
    have hlt : t < args.size := by
      have := (List.getElem?_eq_some_iff.1 ht).1
      simpa using this
    have h1 : a0.tmps.size = args.size + (f.ntmps - args.size) := by simp [a0]
    refine ⟨by omega, ?_⟩
    rw [Array.getD_eq_getD_getElem?]
    show ((args ++ Array.replicate (f.ntmps - args.size) undef)[t]?).getD undef = v
    rw [Array.getElem?_append, if_pos hlt]
    have : args[t]? = some v := by simpa using ht
    rw [this]; rfl
  have hRel0 : Rel cx (initSt ct.ins x) a0 w pl0 := by
    refine ⟨hM0, fun t s hs => ?_, rfl, ?_⟩
    · obtain ⟨v, _, h2, h3⟩ := i5 (RO cx w bk0 pl0) bk0 pl0 hRO0 hbk (fun i p hp => plZ i p hp) t s (look_mem hs)
      obtain ⟨h4, h5⟩ := hgetD t v (by simpa using h2)
      exact ⟨h4, by rw [h5]; exact h3⟩
    · show (args ++ Array.replicate (f.ntmps - args.size) undef).size = f.ntmps
      simp
      omega
  refine calls_of_wp hf hb ?_
  refine run_wp (cfg := { cfg with N := f.ntmps }) (cx := cx) hm hT hΓ rfl c _ 64 _ _ _ _ (r, u) _ h ?_ a0 w pl0 hRel0
  have fin : ∀ σ', finish cfg.tt ct.ins ct.outs f.results.toList σ' = some (r, u) → ∀ a' w' pl', Rel cx σ' a' w' pl' →
      a'.defers = [] ∧ ∃ v, (results f a'.tmps).run P w' = .ok v w' ∧ ∃ vs pls' rpl, Ending.returned v = .returned (resV vs) ∧ After w w' R ct.ins ct.outs x r u vs pls pls' rpl := by
    intro σ' h a' w' pl' hR'
    refine ⟨hR'.defers, ?_⟩
    unfold finish at h
    obtain ⟨y, rd, ow, E, ts', h1, h2, h3, h4, h5, h6⟩ := fins_to hT hR' _ _ _ _ h
    cases hn : nodupN (capp ow (parIds 0 ct.ins)) with
    | false => rw [hn] at h1; cases h1
    | true =>
    rw [hn] at h1
    simp only at h1
    cases hd : disjN rd (capp ow (parIds 0 ct.ins)) with
    | false => rw [hd] at h1; cases h1
    | true =>
    rw [hd] at h1
    simp only at h1
    cases h64 : all64 rd with
    | false => rw [h64] at h1; cases h1
    | true =>
    rw [h64] at h1
    simp only at h1
    obtain ⟨u', g1, g2, g3⟩ := finU_to hR' _ _ _ _ h1
    simp only [Option.some.injEq, Prod.mk.injEq] at g1
    obtain ⟨rfl, rfl⟩ := g1
    have hn := nodupN_iff hn
    have hd := disjN_iff hd
    have h64 := all64_spec h64
    rw [capp_eq] at hn hd
    obtain ⟨n1, n2, n3⟩ := List.nodup_append.1 hn
    let pls' := (parIds 0 ct.ins).map pl'
    let rpl := E.map (·.1)
    -- all places, with their labels
    let F : List REnt := (parIds 0 ct.ins).map fun i => (pl' i, some i)
    have hFm : F.map (·.1) = pls' := by simp [F, pls', List.map_map]
    have hFr : rids F = parIds 0 ct.ins := by
      have : ∀ l : List Nat, rids (l.map fun i => (pl' i, some i)) = l := by
        intro l
        induction l with
        | nil => rfl
        | cons i l ih =>
          show (rids ((pl' i, some i) :: l.map fun i => (pl' i, some i))) = _
          unfold rids at ih ⊢
          rw [List.filterMap_cons]
          simp only [ih]
      exact this _
    have hFok : ROk σ' pl' (F ++ E) := by
      intro e he
      rcases List.mem_append.1 he with he | he
      · obtain ⟨i, hi, rfl⟩ := List.mem_map.1 he
        exact ⟨rfl, g2 i hi⟩
      · exact h3 e he
    have hFn : (rids (F ++ E)).Nodup := by
      rw [rids_append, hFr, ← h2]
      exact List.nodup_append.2 ⟨n2, n1, fun i hi j hj e => n3 j hj i hi e.symm⟩
    have hplace' : ∀ p ∈ pls' ++ rpl, p = .nil ∨ ∃ i, p = pl' i ∧ liveAt σ'.bk i ∧ i ∈ ow ++ parIds 0 ct.ins := by
      intro p hp
      rw [← hFm, ← List.map_append] at hp
      obtain ⟨e, he, rfl⟩ := List.mem_map.1 hp
      have h7 := hFok e he
      cases h8 : e.2 with
      | none => rw [h8] at h7; exact .inl h7
      | some i =>
        rw [h8] at h7
        refine .inr ⟨i, h7.1, h7.2, ?_⟩
        have : i ∈ rids (F ++ E) := List.mem_filterMap.2 ⟨e, he, h8⟩
        rw [rids_append, hFr, ← h2] at this
        simp only [List.mem_append] at this ⊢
        exact this.symm
    have hRR : ∀ b, RO cx w' σ'.bk pl' b → R' w w' R (pls' ++ rpl) b := by
      rintro b ⟨k1, k2, k3⟩
      refine ⟨k1, k2, fun p hp hb => ?_⟩
      rcases hplace' p hp with rfl | ⟨i, rfl, hl, _⟩
      · exact hb
      · exact k3 i hl hb
    have hrd : ∀ i ∈ rd, ∀ b, (pl' i).fp b → R' w w' R (pls' ++ rpl) b := by
      intro i hi b hb
      obtain ⟨t, xs, hl | hl⟩ := h4 i hi
      · have hlv : liveAt σ'.bk i := ⟨_, hl, trivial⟩
        obtain ⟨k1, k2⟩ := hR'.mem.bound i hlv b hb
        refine ⟨?_, k1, fun p hp hpb => ?_⟩
        · rcases k2 with k2 | k2
          · exact .inr k2
          · have := h64 i hi; omega
        · rcases hplace' p hp with rfl | ⟨j, rfl, hlj, hj⟩
          · exact hpb
          · exact hR'.mem.disj i j hlv hlj (fun e => hd i hi (e ▸ hj)) b hb hpb
      · exact hRR b (hR'.mem.frozen i t xs hl b hb)
    have hvs := h6 (R' w w' R (pls' ++ rpl)) hRR hrd
    refine ⟨_, results_run h5, _, pls', rpl, rfl, ?_, ?_, ?_, ?_, ?_, g3 _ hRR, hk x _ _ hF, hvs⟩
    · -- the same places
      have : ∀ (l : List Nat) (ps : List Pl), l.length = ps.length → (∀ i p, (i, p) ∈ l.zip ps → look Z i = some p ∧ liveAt σ'.bk i) → Grown w.heap.size ps (l.map pl') := by
        intro l
        induction l with
        | nil => intro ps hl _; cases ps with | nil => trivial | cons p ps => simp at hl
        | cons i l ih =>
          intro ps hl hz
          cases ps with
          | nil => simp at hl
          | cons p ps =>
            obtain ⟨k1, k2⟩ := hz i p List.mem_cons_self
            have k2' := k2
            obtain ⟨B, hB', _⟩ := k2'
            refine ⟨⟨hR'.mem.pin i p B k1 hB', fun b hb => ?_⟩, ih ps (by simpa using hl) fun j q hq => hz j q (List.mem_cons_of_mem _ hq)⟩
            rcases (hR'.mem.bound i k2 b hb).2 with k3 | ⟨_, q, k3, k4⟩
            · exact .inr k3
            · rw [k1] at k3; cases k3; exact .inl k4
      refine this _ _ i2 fun i p hp => ⟨look_of_mem (by rw [hZk]; exact hkn) hp, g2 i (List.of_mem_zip hp).1⟩
    · refine hR'.mem.ext.mono fun b hb hk' i hi => ?_
      obtain ⟨p, k1, k2⟩ := hi
      exact hk' p (List.of_mem_zip (look_mem k1)).2 k2
    · have := Disj_ents hR' hFok hFn
      rw [List.map_append, hFm] at this
      exact this
    · intro p hp b hb
      rcases hplace' p hp with rfl | ⟨i, rfl, hl, _⟩
      · exact hb.elim
      · exact (hR'.mem.bound i hl b hb).1
    · intro p hp b hb
      obtain ⟨e, he, rfl⟩ := List.mem_map.1 hp
      have h7 := h3 e he
      cases h8 : e.2 with
      | none => rw [h8] at h7; rw [show e.1 = _ from h7] at hb; exact hb.elim
      | some i =>
        rw [h8] at h7
        rw [h7.1] at hb
        rcases (hR'.mem.bound i h7.2 b hb).2 with k3 | ⟨_, q, k3, k4⟩
        · exact k3
        · have hi : i ∈ ow := by rw [h2]; exact List.mem_filterMap.2 ⟨e, he, h8⟩
          have hi' : i ∈ parIds 0 ct.ins := by rw [← hZk]; exact look_keys k3
          exact absurd rfl (n3 i hi i hi')
  exact ⟨fun nx σ' h' a' w' pl' hR' => fin σ' h' a' w' pl' hR', (fun i nx σ' h' => by cases h'), fun σ' h' a' w' pl' hR' => fin σ' h' a' w' pl' hR'⟩
end
end Go.BB
