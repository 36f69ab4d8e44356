/- A symbolic machine for the model's code, and what it shows of this seat's functions. No conditions. -/
import Derived.Test.YtnofmeckcimodaaBGchain
import Derived.Test.YtnofmeckcimodaaBVchain
import Derived.Test.YtnofmeckcimodaaBVstore
import Derived.Test.YtnofmeckcimodaaBVref
import Derived.Test.YtnofmeckcimodaaBLGc
import Derived.Test.YtnofmeckcimodaaBLawKit
set_option linter.unusedSimpArgs false
set_option linter.unusedVariables false
namespace Go.BB
open Go Go.Proofs
set_option maxRecDepth 100000
/-- ahead of a round of Gc -/
def GcI (s : Sto) (q : Int) (left : List Nat) (x : Sto × Int × Int × Unit) : Prop :=
  left.Nodup ∧ (∀ i ∈ left, i < s.2.2.2.1.length) ∧ ∃ m', x = ((s.1, s.2.1, s.2.2.1, m', ()), q, (chsLen s.2.2.2.1 : Int) - (chsLen m' : Int), ()) ∧ ∀ i, m'[i]? = if i ∈ left then s.2.2.2.1[i]? else s.2.2.2.1[i]?.map fun p => (p.1, trimS p.2 q)
theorem GcI_keys {m m' : Chs} {q : Int} {left : List Nat} (h : ∀ i, m'[i]? = if i ∈ left then m[i]? else m[i]?.map fun p => (p.1, trimS p.2 q)) : m'.map (·.1) = m.map (·.1) := by
  apply List.ext_getElem?
  intro i
  rw [List.getElem?_map, List.getElem?_map, h i]
  split
  · rfl
  · cases m[i]? <;> rfl
theorem GcI_len {m : Chs} {q : Int} : ∀ {m' : Chs}, (∀ i : Nat, m'[i]? = m[i]? ∨ m'[i]? = m[i]?.map fun (p : Key × List Ver) => (p.1, trimS p.2 q)) → chsLen m' ≤ chsLen m := by
  induction m with
  | nil =>
    intro m' h
    cases m' with
    | nil => exact Nat.le_refl _
    | cons a m' =>
      rcases h 0 with h0 | h0 <;> simp at h0
  | cons p m ih =>
    intro m' h
    cases m' with
    | nil => simp [chsLen]
    | cons a m' =>
      have h1 := ih (m' := m') (fun i => by simpa using h (i + 1))
      have h2 : a.2.length ≤ p.2.length := by
        rcases h 0 with h0 | h0
        · simp only [List.getElem?_cons_zero, Option.some.injEq] at h0
          rw [h0]; exact Nat.le_refl _
        · simp only [List.getElem?_cons_zero, Option.map_some, Option.some.injEq] at h0
          rw [h0]; exact trim_len p.2 q
      rw [chsLen_cons, chsLen_cons]
      omega
theorem v_stGc : Valid Try.prog n_stGc c_stGc := by
  refine valid_fn mixed hf_stGc (by kernel_rfl) rfl (ts := tmpsOf f_stGc.results.toList) (by kernel_rfl) (cfg := cfgW g_stGc) tt_ok (Γok_cons v_trim Γok_nil) stGc_tm c_stGc (by kernel_rfl) (fun _ _ _ _ => ⟨⟩) ?_
  rintro ⟨(s : Sto), (q : Int), ⟨⟩⟩ r u h
  obtain ⟨h1, h2⟩ := grd_some h
  simp only [Bool.and_eq_true] at h1
  obtain ⟨hs0, hn⟩ := h1
  have hs := (stoOk_iff s).1 hs0
  rw [nodM_iff] at hn
  simp only at h2
  refine ⟨0, (stGc_rn _ _ _).trans (Eq.trans ?_ (congrArg some h2))⟩
  unfold stGc_P
  have hcl := hs.len
  have hfew := hs.few
  refine rngN_inv (((goneM q s.2.2.2.1, ()), gcS s q, (), ())) (GcI s q) ?_ ?_ _ _ _ (by simp [rangeL]) ⟨List.nodup_range, fun i hi => by have hi' := List.mem_range.1 hi; exact hi', s.2.2.2.1, ?_, fun i => ?_⟩
  · rintro left x ⟨hnd, hlt, m', rfl, hm⟩ j hj rec hrec
    have hjl := hlt j hj
    have hk := GcI_keys hm
    obtain ⟨p, hp⟩ : ∃ p, s.2.2.2.1[j]? = some p := ⟨_, List.getElem?_eq_getElem hjl⟩
    have hp' : m'[j]? = some p := by rw [hm j, if_pos hj]; exact hp
    have hg : m'.getD j ((0, 0), []) = p := by rw [List.getD_eq_getElem?_getD, hp']; rfl
    have hmem := List.mem_of_getElem? hp
    have hrow := hs.rows p hmem
    have hpl := mem_chsLen hmem
    have hm'l : chsLen m' ≤ chsLen s.2.2.2.1 := GcI_len (q := q) fun i => by
      rw [hm i]
      split
      · exact .inl rfl
      · exact .inr rfl
    have htl := trim_len p.2 q
    have hset := chsLen_set hp' (trimS p.2 q)
    have hput : mput m' (some j) (trimS p.2 q) = m'.set j (p.1, trimS p.2 q) := by simp only [mput, hp']
    simp only [stGc_R1, hg]
    rw [bd_grd (and_t (lenOk_of (by omega)) hrow.1)]
    simp only [mk_eta]
    have hix : midx (eqD tKey) m' p.1 = some j := midx_self (by rw [hk]; exact hn) hp'
    refine Eq.trans (br_t (show isIx (midx (eqD tKey) m' p.1) j = true by rw [hix]; exact Nat.beq_refl j)) ?_
    refine hrec _ ⟨hnd.erase j, fun i hi => hlt i (List.mem_of_mem_erase hi), mput m' (some j) (trimS p.2 q), ?_, fun i => ?_⟩
    · refine Prod.ext rfl (Prod.ext rfl (Prod.ext ?_ rfl))
      show IntKind.i64.wrap _ = _
      rw [hput, wrapI (n := (p.2.length : Int) - ((trimS p.2 q).length : Int)) (by omega) (by omega), wrapI (by omega) (by omega)]
      simp only
      omega
    · rw [hput, List.getElem?_set]
      simp only [hnd.mem_erase_iff]
      by_cases e : j = i
      · subst e
        have hlj : j < m'.length := (List.getElem?_eq_some_iff.1 hp').1
        simp [hlj, hp]
      · rw [if_neg e, hm i]
        have e2 : ¬ i = j := fun x => e x.symm
        by_cases hil : i ∈ left
        · rw [if_pos hil, if_pos ⟨e2, hil⟩]
        · rw [if_neg hil, if_neg (fun h => hil h.2)]
  · rintro x ⟨_, _, m', rfl, hm⟩
    have he : m' = gcM q s.2.2.2.1 := by
      apply List.ext_getElem?
      intro i
      rw [hm i, gcM_get]
      simp
    subst he
    have hle := chsLen_gcM q s.2.2.2.1
    simp only [stGc_E2]
    rw [wrapI (by omega) (by omega)]
    rfl
  · simp
  · have : i ∈ rangeL (mlen (MapK.mapS ((Ty.int IntKind.i64).pair (Ty.int IntKind.i64)) ((Ty.int IntKind.u64).pair (Ty.int IntKind.u16))) s.2.2.2.1) ↔ i < List.length s.2.2.2.1 := List.mem_range
    split
    · rfl
    · rename_i hni
      rw [this] at hni
      rw [List.getElem?_eq_none (by omega)]; rfl
theorem v_rstGc : Valid Try.prog n_rstGc c_rstGc := by
  refine valid_fn mixed hf_rstGc (by kernel_rfl) rfl (ts := tmpsOf f_rstGc.results.toList) (by kernel_rfl) (cfg := cfgW g_rstGc) tt_ok (Γok_cons v_rtrim Γok_nil) rstGc_tm c_rstGc (by kernel_rfl) (fun _ _ _ _ => ⟨⟩) ?_
  rintro ⟨(x : Ref), (q : Int), ⟨⟩⟩ r u h
  obtain ⟨h1, h2⟩ := grd_some h
  have hs := (refOk_iff x).1 h1
  simp only at h2
  refine ⟨List.length x.2.2.1 + 1, (rstGc_rn _ _ _).trans (Eq.trans ?_ (congrArg some h2))⟩
  unfold rstGc_P
  have hfew := hs.few
  have hN := hs.rowsN
  obtain ⟨m, hm⟩ : ∃ m : Chs, m = x.2.2.1 := ⟨_, rfl⟩
  have hrows := hs.rows
  have hst : (((x.1, x.2.1, x.2.2.1, ()), q, (0 : Int), (0 : Int), ()) : Ref × Int × Int × Int × Unit) = ((x.1, x.2.1, gcM q (m.take 0) ++ m.drop 0, ()), q, goneM q (m.take 0), ((0 : Nat) : Int), ()) := by rw [← hm]; rfl
  rw [hst, ← hm]
  rw [← hm] at hfew hN hrows
  have hsum : ∀ (a b : Chs), chsLen (a ++ b) = chsLen a + chsLen b := fun a b => by simp [chsLen]
  refine loopN_for (List.length m) (fun i => ((x.1, x.2.1, gcM q (m.take i) ++ m.drop i, ()), q, goneM q (m.take i), (i : Int), ())) (fun i hi rec => ?_) (fun rec => ?_) _ (by omega)
  · have hgl : (gcM q (m.take i)).length = i := by rw [gcM_len, List.length_take]; omega
    have hll : (gcM q (m.take i) ++ m.drop i).length = List.length m := by rw [List.length_append, hgl, List.length_drop]; omega
    have hget : (gcM q (m.take i) ++ m.drop i).getD i ((0, 0), []) = m.getD i ((0, 0), []) := by
      rw [getD_app_ge _ _ _ _ (by omega), hgl, Nat.sub_self, List.getD_eq_getElem?_getD, List.getElem?_drop, Nat.add_zero, ← List.getD_eq_getElem?_getD]
    obtain ⟨p, hp⟩ : ∃ p, m[i]? = some p := ⟨_, List.getElem?_eq_getElem hi⟩
    have hpd : m.getD i ((0, 0), []) = p := by rw [List.getD_eq_getElem?_getD, hp]; rfl
    have hmem := List.mem_of_getElem? hp
    have hrow := hrows p hmem
    have hpl := mem_chsLen hmem
    have htl := trim_len p.2 q
    have ht1 : m.take (i + 1) = m.take i ++ [p] := by rw [List.take_add_one, hp]; rfl
    have hg1 : gcM q (m.take (i + 1)) = gcM q (m.take i) ++ [(p.1, trimS p.2 q)] := by rw [ht1]; simp [gcM]
    have hle := chsLen_gcM q (m.take i)
    have hle2 : chsLen (m.take i) ≤ chsLen m := by
      have := hsum (m.take i) (m.drop i)
      rw [List.take_append_drop] at this
      omega
    have hgone : goneM q (m.take (i + 1)) = goneM q (m.take i) + p.2.length - (trimS p.2 q).length := by
      unfold goneM
      rw [hg1, ht1, hsum, hsum]
      simp [chsLen]
      omega
    have hset : (gcM q (m.take i) ++ m.drop i).set i (p.1, trimS p.2 q) = gcM q (m.take (i + 1)) ++ m.drop (i + 1) := by
      rw [List.set_append_right _ _ (by omega), hgl, Nat.sub_self, drop_cons m i ((0, 0), []) hi, List.set_cons_zero, hg1, List.append_assoc]
      rfl
    have hg0 := goneM_nonneg q (m.take i)
    have hgu : goneM q (m.take i) ≤ 500000 := by unfold goneM; omega
    simp only [rstGc_L1, hll, Int.toNat_natCast, hget, hpd]
    rw [br_dt (by omega), br_dt (by omega), br_dt (by omega), bd_grd (and_t (lenOk_of (by omega)) hrow.2.1)]
    simp only
    rw [br_dt (by omega), br_dt (by omega), br_dt (by omega), br_dt (by omega), hset]
    congr 1
    refine Prod.ext rfl (Prod.ext rfl (Prod.ext ?_ (Prod.ext ?_ rfl)))
    · show IntKind.i64.wrap _ = goneM q (m.take (i + 1))
      rw [wrapI (n := goneM q (m.take i) + (p.2.length : Int)) (by omega) (by omega), wrapI (by omega) (by omega), hgone]
    · show IntKind.i64.wrap _ = _
      rw [wrapI (by omega) (by omega)]
      push_cast; rfl
  · have hll : (gcM q (m.take (List.length m)) ++ m.drop (List.length m)).length = List.length m := by
      rw [List.length_append, gcM_len, List.length_take, List.length_drop]; omega
    simp only [rstGc_L1, hll]
    rw [br_df (by omega), List.take_length, List.drop_length, List.append_nil, hm]
    rfl
end Go.BB
