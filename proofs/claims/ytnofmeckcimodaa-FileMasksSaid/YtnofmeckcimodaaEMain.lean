/- A symbolic machine for the model's code, and what it shows of this seat's functions. No conditions. -/
import Derived.Test.YtnofmeckcimodaaEFin
set_option linter.unusedSimpArgs false
set_option linter.unusedVariables false
namespace Go.BB
open Go
section
variable {O : ObjK} {σ τ : St O} {a : Act} {w : World} {pl : Nat → Pl} {cfg : Cfg O} {P : Program}

/-- what a function's run shows of it -/
theorem valid_of_run (hm : P.follows .mixedOrders = true) {g : Nat} {f : Func} {c : Code} (hf : P.funcs[g]? = some f) (hname : (f.name == "runtime.NumGoroutine") = false) (hb : f.body = some c)
    (hT : TTok P cfg.tt) (hΓ : Γok P cfg.Γ) {tms : List Tm} {ct : Ctr O}
    (hps : ct.ins.length ≤ 61) (hpn : ct.ins.length ≤ f.ntmps) (hk : ∀ x r u, ct.F x = some (r, u) → Kept ct.ins x u)
    (hrun : ∀ x r u, ct.F x = some (r, u) → ∃ K, runF cfg K f tms ct.ins ct.outs x = some (r, u)) : Valid P g ct := by
  refine ⟨⟨f, hf, hname, by rw [hb]; rfl⟩, fun w R args pls x r u hF hB => ?_⟩
  obtain ⟨K, h⟩ := hrun x r u hF
  unfold runF at h
  rw [hb] at h
  simp only at h
  rw [St.force_eq] at h
  obtain ⟨i3, hI⟩ := initS_to ct.ins x args.toList pls 0 64 hB.entry
  have hkn : (initLs 0 64 ct.ins).Nodup := initLs_nodup ct.ins 0 64 (by omega)
  let Z := (initLs 0 64 ct.ins).zip pls
  have hZk : Z.map (·.1) = initLs 0 64 ct.ins := keys_zip hI.len
  let pl0 : Nat → Pl := fun j => (look Z j).getD .nil
  have plZ : ∀ i p, (i, p) ∈ Z → pl0 i = p := fun i p h => by
    have := look_of_mem (l := Z) (by rw [hZk]; exact hkn) h
    simp only [pl0, this, Option.getD_some]
  let pins : Nat → Option Pl := fun i => if i < 61 then look Z i else none
  have hpl : ∀ i p, pins i = some p → i < 61 := fun i p h => by
    simp only [pins] at h
    split at h
    · assumption
    · cases h
  have hpinZ : ∀ i p, pins i = some p → (i, p) ∈ Z := fun i p h => by
    simp only [pins] at h
    split at h
    · exact look_mem h
    · cases h
  have holds : Olds pins 0 ct.ins pls := Olds_of ct.ins x args.toList pls 0 64 hB.entry (fun i p hm hlt => by
    simp only [pins]
    rw [if_pos (by omega)]
    exact look_of_mem (by rw [hZk]; exact hkn) hm) (by omega)
  let cx : Cx := { N := f.ntmps, w0 := w, R0 := R, WR := fun b => ∃ p ∈ pls, p.fp b, pins := pins, priv := fun _ => none, hard := fun _ => False, pinlt := fun i p h => .inl (by have := hpl i p h; omega) }
  have hsz : args.size = ct.ins.length := by rw [i3]; simp
  let a0 : Act := { tmps := args ++ Array.replicate (f.ntmps - args.size) undef, defers := [] }
  let bk0 := (initSt ct.ins x).bk
  have hbk : ∀ p ∈ (initS 0 64 ct.ins x).2, look bk0 p.1 = some p.2 := fun p hp => look_of_mem (l := (initS 0 64 ct.ins x).2) (by rw [hI.keys]; exact hkn) hp
  have hplace : ∀ i, (∃ B, look bk0 i = some B) → ∃ p, (i, p) ∈ Z ∧ pl0 i = p ∧ p ∈ pls := by
    rintro i ⟨B, hB'⟩
    have h1 : i ∈ (initS 0 64 ct.ins x).2.map (·.1) := look_keys hB'
    rw [hI.keys, ← hZk] at h1
    obtain ⟨p, hp⟩ := look_mem_keys h1
    have hp' := look_mem hp
    exact ⟨p, hp', plZ i p hp', (List.of_mem_zip hp').2⟩
  have hRO0 : ∀ b, R b → RO cx w bk0 pl0 b := by
    intro b hb
    refine ⟨.inl hb, hB.read b hb, fun i hi hbi => ?_, rfl⟩
    obtain ⟨B, hB', _⟩ := hi
    obtain ⟨p, _, e, hp⟩ := hplace i ⟨B, hB'⟩
    rw [e] at hbi
    exact (hB.bound p hp b hbi).2 hb
  obtain ⟨i5, i4⟩ := hI.good (RO cx w bk0 pl0) bk0 pl0 hRO0 hbk (fun i p hp => plZ i p hp)
  have hM0 : Mem cx w bk0 pl0 := by
    refine ⟨fun i B hi => i4 (i, B) (look_mem hi), ?_, ?_, Ext.refl _ _, ?_, ?_, fun _ _ _ _ => rfl, (fun b o h => by cases h), (fun i h => h.elim), (fun b o h => by cases h)⟩
    · rintro i j ⟨B, hB1, _⟩ ⟨B', hB2, _⟩ hij b hb hb'
      obtain ⟨p, hp, e, _⟩ := hplace i ⟨B, hB1⟩
      obtain ⟨q, hq, e', _⟩ := hplace j ⟨B', hB2⟩
      rw [e] at hb
      rw [e'] at hb'
      exact Disj_zip hB.disj hkn hp hq hij b hb hb'
    · rintro i ⟨B, hB1, _⟩ b hb
      obtain ⟨p, hp, e, hpp⟩ := hplace i ⟨B, hB1⟩
      rw [e] at hb
      exact ⟨(hB.bound p hpp b hb).1, .inl ⟨p, hpp, hb⟩⟩
    · intro i t xs hi
      exact absurd rfl (hI.notfro _ (look_mem hi) t xs)
    · intro i p B hp hi
      rw [plZ i p (hpinZ i p hp)]
      exact Pl.same_refl _
  have hgetD : ∀ t v, args.toList[t]? = some v → t < a0.tmps.size ∧ a0.tmps.getD t undef = v := by
    intro t v ht
    have hlt : t < args.size := by
      have := (List.getElem?_eq_some_iff.1 ht).1
      simpa using this
    have h1 : a0.tmps.size = args.size + (f.ntmps - args.size) := by simp [a0]
    refine ⟨by omega, ?_⟩
    rw [Array.getD_eq_getD_getElem?]
    show ((args ++ Array.replicate (f.ntmps - args.size) undef)[t]?).getD undef = v
    rw [Array.getElem?_append, if_pos hlt]
    have : args[t]? = some v := by simpa using ht
    rw [this]; rfl
  have hRel0 : Rel cx (initSt ct.ins x) a0 w pl0 := by
    refine ⟨hM0, fun t s hs => ?_, rfl, ?_⟩
    · obtain ⟨v, _, h2, h3⟩ := i5 t s (look_mem hs)
      obtain ⟨h4, h5⟩ := hgetD t v (by simpa using h2)
      exact ⟨h4, by rw [h5]; exact h3⟩
    · show (args ++ Array.replicate (f.ntmps - args.size) undef).size = f.ntmps
      simp
      omega
  refine calls_of_wp hf hb ?_
  refine run_wp (cfg := { cfg with N := f.ntmps }) (cx := cx) hm hT hΓ rfl (fun i h => h) hpl c _ (Nat.add 64 (updN ct.ins)) _ _ _ _ (r, u) _ h ?_ a0 w pl0 hRel0
  have fin : ∀ σ', finish cfg.tt ct.ins ct.outs f.results.toList σ' = some (r, u) → ∀ a' w' pl', Rel cx σ' a' w' pl' →
      a'.defers = [] ∧ ∃ v, (results f a'.tmps).run P w' = .ok v w' ∧ ∃ vs pls' rpl, Ending.returned v = .returned (resV vs) ∧ After w w' R ct.ins ct.outs x r u vs pls pls' rpl := by
    intro σ0 h a' w' pl0' hR0'
    unfold finish at h
    rw [St.force_eq] at h
    obtain ⟨pl', hR'⟩ := close_rel hR0'
    generalize σ0.close = σ' at h hR'
    refine ⟨hR'.defers, ?_⟩
    unfold finish0 at h
    obtain ⟨y, rd, ow, E, ts', h1, h2, h3, h4, h5, h6⟩ := fins_to hT hR' _ _ _ _ h
    obtain ⟨u', rd', is, F, h7, f1, f2, f3, f4⟩ := finU_to hR' _ _ pls _ _ holds h1
    cases hn : nodupN (capp ow (capp (parIds 0 ct.ins) is)) with
    | false => rw [hn] at h7; cases h7
    | true =>
    rw [hn] at h7
    simp only at h7
    cases hd : disjN (capp rd rd') (capp ow (capp (parIds 0 ct.ins) is)) with
    | false => rw [hd] at h7; cases h7
    | true =>
    rw [hd] at h7
    simp only [Option.some.injEq, Prod.mk.injEq] at h7
    obtain ⟨rfl, rfl⟩ := h7
    have hn := nodupN_iff hn
    have hd := disjN_iff hd
    simp only [capp_eq] at hn hd
    obtain ⟨n1, n2, n3⟩ := List.nodup_append.1 hn
    let pls' := F.map (·.1)
    let rpl := E.map (·.1)
    have hFok : ROk σ' pl' (F ++ E) := by
      intro e he
      rcases List.mem_append.1 he with he | he
      · exact f2 e he
      · exact h3 e he
    have hFn : (rids (F ++ E)).Nodup := by
      rw [rids_append, ← h2]
      exact List.nodup_append.2 ⟨f3.nodup_iff.2 n2, n1, fun i hi j hj e => n3 j hj i (f3.mem_iff.1 hi) e.symm⟩
    have hplace' : ∀ p ∈ pls' ++ rpl, ∀ b, p.fp b → ∃ i, p = pl' i ∧ liveAt σ'.bk i ∧ i ∈ ow ++ (parIds 0 ct.ins ++ is) := by
      intro p hp b hb
      rw [← List.map_append] at hp
      obtain ⟨e, he, rfl⟩ := List.mem_map.1 hp
      replace hb : e.1.fp b := hb
      have h7 := hFok e he
      cases h8 : e.2 with
      | none => rw [h8] at h7; rw [show e.1 = _ from h7] at hb; exact hb.elim
      | some i =>
        rw [h8] at h7
        refine ⟨i, h7.1, h7.2, ?_⟩
        have : i ∈ rids (F ++ E) := List.mem_filterMap.2 ⟨e, he, h8⟩
        rw [rids_append, ← h2] at this
        rcases List.mem_append.1 this with h | h
        · exact List.mem_append_right _ (f3.mem_iff.1 h)
        · exact List.mem_append_left _ h
    have hRR : ∀ b, RO cx w' σ'.bk pl' b → R' w w' R pls (pls' ++ rpl) b := by
      rintro b ⟨k1, k2, k3, _⟩
      refine ⟨k1, k2, fun p hp hb => ?_⟩
      obtain ⟨i, rfl, hl, _⟩ := hplace' p hp b hb
      exact k3 i hl hb
    have hrd0 : ∀ rd : List Nat, Rds σ' rd → (∀ i, i ∈ rd → i ∉ ow ++ (parIds 0 ct.ins ++ is)) → ∀ i ∈ rd, ∀ b, (pl' i).fp b → R' w w' R pls (pls' ++ rpl) b := by
      intro rd hrds hd i hi b hb
      obtain ⟨t, xs, hl | hl⟩ := hrds i hi
      · have hlv : liveAt σ'.bk i := ⟨_, hl, trivial⟩
        obtain ⟨k1, k2⟩ := hR'.mem.bound i hlv b hb
        refine ⟨.inr k2, k1, fun p hp hpb => ?_⟩
        obtain ⟨j, rfl, hlj, hj⟩ := hplace' p hp b hpb
        exact hR'.mem.disj i j hlv hlj (fun e => hd i hi (e ▸ hj)) b hb hpb
      · exact hRR b (hR'.mem.frozen i t xs hl b hb)
    have hvs := h6 (R' w w' R pls (pls' ++ rpl)) hRR (hrd0 rd h4 fun i hi => hd i (List.mem_append_left _ hi))
    have hups := f4 (R' w w' R pls (pls' ++ rpl)) hRR (hrd0 rd' f1 fun i hi => hd i (List.mem_append_right _ hi))
    refine ⟨_, results_run h5, _, pls', rpl, rfl, ?_, ?_, ?_, ?_, hups, hk x _ _ hF, hvs⟩
    · exact hR'.mem.ext.mono fun b hb hk' hi => by
        obtain ⟨p, k1, k2⟩ := hi
        exact hk' p k1 k2
    · have := Disj_E hR' hFok hFn
      rw [List.map_append] at this
      exact this
    · intro p hp b hb
      obtain ⟨i, rfl, hl, _⟩ := hplace' p hp b hb
      exact (hR'.mem.bound i hl b hb).1
    · intro p hp b hb
      obtain ⟨i, rfl, hl, _⟩ := hplace' p hp b hb
      exact (hR'.mem.bound i hl b hb).2
  exact ⟨fun nx σ' h' a' w' pl' hR' => fin σ' h' a' w' pl' hR', (fun i nx σ' h' => by cases h'), fun σ' h' a' w' pl' hR' => fin σ' h' a' w' pl' hR'⟩
end
end Go.BB
