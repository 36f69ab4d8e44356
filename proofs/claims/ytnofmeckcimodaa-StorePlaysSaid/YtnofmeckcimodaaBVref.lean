/- A symbolic machine for the model's code, and what it shows of this seat's functions. No conditions. -/
import Derived.Test.YtnofmeckcimodaaBGref
import Derived.Test.YtnofmeckcimodaaBVbuff
import Derived.Test.YtnofmeckcimodaaBVstore
import Derived.Test.YtnofmeckcimodaaBLRef
set_option linter.unusedSimpArgs false
set_option linter.unusedVariables false
namespace Go.BB
open Go Go.Proofs
set_option maxRecDepth 100000
theorem v_rstNew : Valid Try.prog n_rstNew c_rstNew := by
  refine valid_fn mixed hf_rstNew (by kernel_rfl) rfl (ts := tmpsOf f_rstNew.results.toList) (by kernel_rfl) (cfg := cfgW g_rstNew) tt_ok Γok_nil rstNew_tm c_rstNew (by kernel_rfl) (fun _ _ _ _ => ⟨⟩) ?_
  rintro ⟨(a : Int), (b : Int), ⟨⟩⟩ r u h
  refine ⟨0, (rstNew_rn _ _ _).trans (Eq.trans ?_ h)⟩
  show rstNew_P 0 a b = some ((rstNewS a b, ()), ((), (), ()))
  unfold rstNew_P rstNewS
  rw [maxI_eq, minI_eq]
theorem v_place : Valid Try.prog n_place c_place := by
  refine valid_fn mixed hf_place (by kernel_rfl) rfl (ts := tmpsOf f_place.results.toList) (by kernel_rfl) (cfg := cfgW g_place) tt_ok (Γok_cons v_rless Γok_nil) place_tm c_place (by kernel_rfl) (fun _ _ _ _ => ⟨⟩) ?_
  rintro ⟨(x : Ref), (k : Key), ⟨⟩⟩ r u h
  obtain ⟨h1, h2⟩ := grd_some h
  simp only [Bool.and_eq_true] at h1
  obtain ⟨q, most, l, ⟨⟩⟩ := x
  simp only at h1 h2
  have hl := lenOk_lt h1.1
  refine ⟨l.length + 1, (place_rn _ _ _).trans (Eq.trans ?_ (congrArg some h2))⟩
  unfold place_P
  have hc := cntR_le l k
  refine loopN_meas (step := place_L1) (fun x => x.2.2.2.1.toNat - x.2.2.1.toNat) (fun x => ∃ (a b : Nat), a ≤ cntR l k ∧ cntR l k ≤ b ∧ b ≤ l.length ∧ x = ((q, most, l, ()), (k.1, k.2, ()), (a : Int), (b : Int), ())) (fun _ => some ((((cntR l k : Nat) : Int), hasR l k, ()), (), (), ())) ?_ _ _ ⟨0, l.length, by omega, by omega, by omega, rfl⟩ (by simp only; omega)
  rintro x ⟨a, b, ha, hb, hbl, rfl⟩ rec hrec
  simp only [place_L1, notf', mk_eta]
  by_cases h : a < b
  · have e : IntKind.i64.wrap ((IntKind.i64.wrap ((a : Int) + b)).tdiv 2) = (((a + b) / 2 : Nat) : Int) := by
      rw [wrapI (n := (a : Int) + b) (by omega) (by omega), Int.tdiv_eq_ediv_of_nonneg (by omega), wrapI (by omega) (by omega)]; omega
    rw [br_dt (by omega), e, br_dt (by omega), br_dt (by omega), Int.toNat_natCast]
    have hi := cntR_iff h1.2 k ((a + b) / 2) ((0, 0), []) (by omega)
    by_cases hv : keyLt (l.getD ((a + b) / 2) ((0, 0), [])).1 k = true
    · rw [br_t hv, wrapI (by omega) (by omega)]
      have := hi.1 hv
      exact hrec _ ⟨(a + b) / 2 + 1, b, by omega, hb, hbl, by simp⟩ (by simp only; omega)
    · rw [br_f (by simpa using hv)]
      have : ¬ (a + b) / 2 < cntR l k := fun h => hv (hi.2 h)
      exact hrec _ ⟨a, (a + b) / 2, ha, by omega, by omega, rfl⟩ (by simp only; omega)
  · have e : a = cntR l k := by omega
    subst e
    rw [br_df (by omega)]
    unfold hasR
    by_cases hlt : cntR l k < l.length
    · rw [br_dt (by omega), br_dt (by omega), br_dt (by omega), Int.toNat_natCast, key_beq, decide_eq_true hlt, Bool.true_and]
    · rw [br_df (by omega), decide_eq_false hlt]; rfl
theorem v_rstRead : Valid Try.prog n_rstRead c_rstRead := by
  refine valid_fn mixed hf_rstRead (by kernel_rfl) rfl (ts := tmpsOf f_rstRead.results.toList) (by kernel_rfl) (cfg := cfgW g_rstRead) tt_ok (Γok_cons v_place (Γok_cons v_rchainAt Γok_nil)) rstRead_tm c_rstRead (by kernel_rfl) (fun _ _ _ _ => ⟨⟩) ?_
  rintro ⟨(x : Ref), (k : Key), (q : Int), ⟨⟩⟩ r u h
  obtain ⟨h1, h2⟩ := grd_some h
  have hx := (refOk_iff _).1 h1
  obtain ⟨g1, g2, g3⟩ := rowOf_ok hx k
  have hsrt := hx.srt
  have hrn := hx.rowsN
  refine ⟨0, (rstRead_rn _ _ _ _).trans (Eq.trans ?_ (congrArg some h2))⟩
  show rstRead_P 0 x k q = some ((atV (rowOf x.2.2.1 k) q, ()), ((), (), (), ()))
  simp only at hsrt hrn g1 g2 g3
  unfold rstRead_P
  rw [bd_grd (by rw [lenOk_of (by omega), hsrt]; rfl)]
  simp only [mk_eta, Int.toNat_natCast]
  cases hh : hasR x.2.2.1 k with
  | false =>
    rw [brF]
    unfold rowOf
    rw [hh]; rfl
  | true =>
    have hlt : cntR x.2.2.1 k < x.2.2.1.length := by
      unfold hasR at hh
      simp only [Bool.and_eq_true, decide_eq_true_eq] at hh
      exact hh.1
    have hr : (x.2.2.1.getD (cntR x.2.2.1 k) ((0, 0), [])).2 = rowOf x.2.2.1 k := by unfold rowOf; rw [hh]; rfl
    rw [brT, br_dt (by omega), br_dt (by omega), hr, bd_grd (lenOk_of (by omega))]
theorem v_rstNewest : Valid Try.prog n_rstNewest c_rstNewest := by
  refine valid_fn mixed hf_rstNewest (by kernel_rfl) rfl (ts := tmpsOf f_rstNewest.results.toList) (by kernel_rfl) (cfg := cfgW g_rstNewest) tt_ok (Γok_cons v_place (Γok_cons v_rnewest Γok_nil)) rstNewest_tm c_rstNewest (by kernel_rfl) (fun _ _ _ _ => ⟨⟩) ?_
  rintro ⟨(x : Ref), (k : Key), ⟨⟩⟩ r u h
  obtain ⟨h1, h2⟩ := grd_some h
  have hx := (refOk_iff _).1 h1
  obtain ⟨g1, g2, g3⟩ := rowOf_ok hx k
  have hsrt := hx.srt
  have hrn := hx.rowsN
  refine ⟨0, (rstNewest_rn _ _ _).trans (Eq.trans ?_ (congrArg some h2))⟩
  show rstNewest_P 0 x k = some ((newS (rowOf x.2.2.1 k), ()), ((), (), ()))
  simp only at hsrt hrn g1 g2 g3
  unfold rstNewest_P
  rw [bd_grd (by rw [lenOk_of (by omega), hsrt]; rfl)]
  simp only [mk_eta, Int.toNat_natCast]
  cases hh : hasR x.2.2.1 k with
  | false =>
    rw [brF]
    unfold rowOf
    rw [hh]; rfl
  | true =>
    have hlt : cntR x.2.2.1 k < x.2.2.1.length := by
      unfold hasR at hh
      simp only [Bool.and_eq_true, decide_eq_true_eq] at hh
      exact hh.1
    have hr : (x.2.2.1.getD (cntR x.2.2.1 k) ((0, 0), [])).2 = rowOf x.2.2.1 k := by unfold rowOf; rw [hh]; rfl
    rw [brT, br_dt (by omega), br_dt (by omega), hr, bd_grd (lenOk_of (by omega))]
theorem chsLen_take_succ (l : List Row) (i : Nat) (h : i < l.length) : chsLen (l.take (i + 1)) = chsLen (l.take i) + (l.getD i ((0, 0), [])).2.length := by
  rw [take_snoc l i ((0, 0), []) h]
  simp [chsLen]
theorem chsLen_take_le (l : List Row) (i : Nat) : chsLen (l.take i) ≤ chsLen l := by
  have h : chsLen l = chsLen (l.take i) + chsLen (l.drop i) := by
    conv => lhs; rw [← List.take_append_drop i l]
    simp only [chsLen, List.map_append, List.sum_append]
  omega
theorem v_rstVersions : Valid Try.prog n_rstVersions c_rstVersions := by
  refine valid_fn mixed hf_rstVersions (by kernel_rfl) rfl (ts := tmpsOf f_rstVersions.results.toList) (by kernel_rfl) (cfg := cfgW g_rstVersions) tt_ok Γok_nil rstVersions_tm c_rstVersions (by kernel_rfl) (fun _ _ _ _ => ⟨⟩) ?_
  rintro ⟨(x : Ref), ⟨⟩⟩ r u h
  obtain ⟨h1, h2⟩ := grd_some h
  simp only [Bool.and_eq_true, decide_eq_true_eq] at h1
  obtain ⟨q, most, l, ⟨⟩⟩ := x
  simp only at h1 h2
  have hl := lenOk_lt h1.1
  refine ⟨l.length + 1, (rstVersions_rn _ _).trans (Eq.trans ?_ (congrArg some h2))⟩
  unfold rstVersions_P
  refine loopN_for (step := rstVersions_L1) l.length (fun i => ((q, most, l, ()), ((chsLen (l.take i) : Nat) : Int), (i : Int), ())) (fun i hi rec => ?_) (fun rec => ?_) (l.length + 1) (by omega)
  · simp only [rstVersions_L1, Int.toNat_natCast]
    have h3 := chsLen_take_succ l i hi
    have h4 := chsLen_take_le l (i + 1)
    rw [br_dt (by omega), br_dt (by omega), br_dt (by omega), wrapI (by omega) (by omega), wrapI (by omega) (by omega)]
    exact congrArg rec (Prod.ext rfl (Prod.ext (by simp only; omega) (Prod.ext (by simp) rfl)))
  · simp only [rstVersions_L1]
    rw [br_df (by omega), List.take_length]
    rfl
theorem v_rcelR : Valid Try.prog n_rcelR c_rcelR := by
  refine valid_fn mixed hf_rcelR (by kernel_rfl) rfl (ts := tmpsOf f_rcelR.results.toList) (by kernel_rfl) (cfg := cfgW g_rcelR) tt_ok Γok_nil rcelR_tm c_rcelR (by kernel_rfl) (fun _ _ _ _ => ⟨⟩) ?_
  rintro ⟨(c : Cel), ⟨⟩⟩ r u h
  refine ⟨0, (rcelR_rn _ _).trans (Eq.trans ?_ h)⟩
  show rcelR_P 0 c = some ((celR c, ()), ((), ()))
  unfold rcelR_P celR keyR isBits
  simp only [br_ite, ge_iff_le]
  by_cases h1 : 0 ≤ c.1.1
  · by_cases h2 : c.1.1 < 4
    · rw [if_pos h1, if_pos (by omega)]
      by_cases h3 : 0 ≤ c.1.2
      · by_cases h4 : c.1.2 < 65536
        · rw [if_pos h3, if_pos h4]
          by_cases h5 : 2 ≤ c.1.1
          · rw [if_pos h5]
            have e0 : (c.1.1 == 0) = false := by simp; omega
            have e1 : (c.1.1 == 1) = false := by simp; omega
            simp [h1, h2, h3, h4, e0, e1]
          · rw [if_neg h5]
            have : c.1.1 = 0 ∨ c.1.1 = 1 := by omega
            have e : (c.1.1 == 0 || c.1.1 == 1) = true := by rcases this with e | e <;> simp [e]
            simp [h1, h2, h3, h4, e]
        · rw [if_pos h3, if_neg h4]; simp [h4]
      · rw [if_neg h3]; simp [h3]
    · rw [if_pos h1, if_neg (by omega)]; simp [h2]
  · rw [if_neg h1]; simp [h1]
theorem foldl_putK_buf (l : List Cel) : ∀ b, bufS b = true → bufS (l.foldl putK b) = true := by
  induction l with
  | nil => intro b h; exact h
  | cons c l ih => intro b h; exact ih _ (by rw [putK_eq]; exact bufS_put c h)
theorem foldl_putK_len (l : List Cel) : ∀ b, (l.foldl putK b).length ≤ b.length + l.length := by
  induction l with
  | nil => intro b; simp
  | cons c l ih =>
    intro b
    have h1 := ih (putK b c)
    have h2 : (putK b c).length ≤ b.length + 1 := by rw [putK_eq]; exact putR_len b c
    simp only [List.foldl_cons, List.length_cons]; omega
theorem getK_foldl (l : List Cel) : ∀ b, bufS b = true → ∀ k, (getR (l.foldl putK b) k).isSome = ((getR b k).isSome || l.any fun c => decide (c.1 = k)) := by
  induction l with
  | nil => intro b _ k; simp
  | cons c l ih =>
    intro b hb k
    rw [List.foldl_cons, ih _ (by rw [putK_eq]; exact bufS_put c hb), putK_eq, getR_put c k hb, List.any_cons]
    by_cases h : k = c.1
    · subst h; simp
    · have : ¬ c.1 = k := fun e => h e.symm
      simp [h, this]
theorem onceGo_snoc : ∀ (l : List Cel) (seen : List Key) (c : Cel), onceGo seen (l ++ [c]) = (onceGo seen l && (celR c && (!(seen.any fun k => decide (k = c.1)) && !(l.any fun d => decide (d.1 = c.1)))))
  | [], seen, c => by simp [onceGo]
  | d :: l, seen, c => by
    rw [List.cons_append, onceGo, onceGo, onceGo_snoc l, List.any_cons, List.any_cons]
    cases celR d <;> cases celR c <;> cases (seen.any fun k => decide (k = d.1)) <;> cases (seen.any fun k => decide (k = c.1)) <;> cases onceGo (d.1 :: seen) l <;> cases (decide (d.1 = c.1)) <;> simp
theorem onceGo_take_false {l : List Cel} {i : Nat} (h : onceGo [] (l.take i) = false) : onceGo [] l = false := by
  cases ho : onceGo [] l with
  | false => rfl
  | true =>
    obtain ⟨h1, h2, h3⟩ := (onceGo_iff _ _).1 ho
    have : onceGo [] (l.take i) = true := (onceGo_iff _ _).2 ⟨fun c hc => h1 c (List.mem_of_mem_take hc), fun c hc => h2 c (List.mem_of_mem_take hc), by
      unfold nodupK at h3 ⊢
      exact h3.sublist ((List.take_sublist i l).map _)⟩
    rw [this] at h; cases h
theorem v_sorted : Valid Try.prog n_sorted c_sorted := by
  refine valid_fnc mixed hf_sorted (by kernel_rfl) rfl (cfg := cfgW g_sorted) tt_ok (Γok_cons v_rcelR (Γok_cons v_rbget (Γok_cons v_rput Γok_nil))) sorted_tm c_sorted (by kernel_rfl) (fun _ _ _ _ => ⟨⟩) ?_
  rintro ⟨(l : List Cel), ⟨⟩⟩ r u h
  obtain ⟨h1, h2⟩ := grd_some h
  have hl : l.length < 1000000 := lenOk_lt h1
  refine ⟨l.length + 1, (sorted_rn _ _).trans (Eq.trans ?_ (congrArg some h2))⟩
  show sorted_P (l.length + 1) l = some (((sortedS l).1, (sortedS l).2, ()), ((), ()))
  unfold sorted_P
  refine loopN_meas (step := sorted_L1) (fun x => l.length - x.2.2.1.toNat) (fun x => ∃ (i : Nat), i ≤ l.length ∧ x = (l, (l.take i).foldl putK [], (i : Int), ()) ∧ onceGo [] (l.take i) = true) (fun _ => some (((sortedS l).1, (sortedS l).2, ()), ((), ()))) ?_ _ _ ⟨0, by omega, rfl, rfl⟩ (by simp only; omega)
  rintro x ⟨i, hi, rfl, ho⟩ rec hrec
  simp only [sorted_L1, Int.toNat_natCast]
  by_cases h : i < l.length
  · have hb := foldl_putK_buf (l.take i) [] rfl
    have hbl := foldl_putK_len (l.take i) []
    rw [List.length_take] at hbl
    simp only [List.length_nil] at hbl
    have hg : (lenOk ((l.take i).foldl putK []) && bufS ((l.take i).foldl putK [])) = true := by rw [lenOk_of (by omega), hb]; rfl
    have hsn := onceGo_snoc (l.take i) [] (l.getD i ((0, 0), 0))
    rw [← take_snoc l i ((0, 0), 0) h, ho] at hsn
    simp only [List.any_nil, Bool.not_false, Bool.true_and] at hsn
    have hbad : onceGo [] (l.take (i + 1)) = false → some ((([] : List Cel), false, ()), (), ()) = some (((sortedS l).1, (sortedS l).2, ()), (), ()) := fun hf => by
      have := onceGo_take_false hf
      unfold sortedS
      rw [this]; rfl
    rw [br_dt (by omega), br_dt (by omega), br_dt (by omega), wrapI (by omega) (by omega)]
    cases hcr : celR (l.getD i ((0, 0), 0)) with
    | false =>
      refine brF.trans ?_
      exact hbad (by rw [hsn, hcr]; rfl)
    | true =>
      refine brT.trans ?_
      rw [br_dt (by omega), br_dt (by omega), bd_grd hg]
      have hget := getK_foldl (l.take i) [] rfl (l.getD i ((0, 0), 0)).1
      have hk := getK_eq ((l.take i).foldl putK []) (l.getD i ((0, 0), 0)).1
      have hk2 : (getK ((l.take i).foldl putK []) (l.getD i ((0, 0), 0)).1).2 = ((l.take i).any fun c => decide (c.1 = (l.getD i ((0, 0), 0)).1)) := by
        rw [hk]
        cases hgr : getR ((l.take i).foldl putK []) (l.getD i ((0, 0), 0)).1 with
        | none => rw [hgr] at hget; simpa [getR] using hget
        | some v => rw [hgr] at hget; simpa [getR] using hget
      rw [hcr, Bool.true_and] at hsn
      cases hany : ((l.take i).any fun c => decide (c.1 = (l.getD i ((0, 0), 0)).1)) with
      | true =>
        rw [hany] at hk2 hsn
        refine (br_t hk2).trans ?_
        exact hbad (by rw [hsn]; rfl)
      | false =>
        rw [hany] at hk2 hsn
        refine (br_f hk2).trans ?_
        rw [br_dt (by omega), br_dt (by omega), bd_grd hg]
        refine hrec _ ⟨i + 1, by omega, ?_, by rw [hsn]; rfl⟩ (by simp only [Int.toNat_natCast]; omega)
        rw [take_snoc l i ((0, 0), 0) h, List.foldl_append]
        exact Prod.ext rfl (Prod.ext rfl (Prod.ext (by simp) rfl))
  · have e : i = l.length := by omega
    subst e
    rw [br_df (by omega)]
    rw [List.take_length] at ho ⊢
    unfold sortedS
    rw [ho]; rfl
theorem v_rstInstall : Valid Try.prog n_rstInstall c_rstInstall := by
  refine valid_fnc mixed hf_rstInstall (by kernel_rfl) rfl (cfg := cfgW g_rstInstall) tt_ok (Γok_cons v_sorted (Γok_cons v_rstVersions (Γok_cons v_place (Γok_cons v_rchainAdd Γok_nil)))) rstInstall_tm c_rstInstall (by kernel_rfl) (fun _ _ _ _ => ⟨⟩) ?_
  rintro ⟨(x : Ref), (l : List Cel), ⟨⟩⟩ r u h
  obtain ⟨h1, h2⟩ := grd_some h
  simp only [Bool.and_eq_true, decide_eq_true_eq] at h1
  have hs := (refOk_iff _).1 h1.1
  have hl : l.length ≤ 100000 := h1.2.2
  refine ⟨l.length + 1, (rstInstall_rn _ _ _).trans (Eq.trans ?_ (congrArg some h2))⟩
  show rstInstall_P (l.length + 1) x l = some (((rinstS x l).1.1, (rinstS x l).1.2, ()), ((rinstS x l).2, (), ()))
  obtain ⟨q, most, m, ⟨⟩⟩ := x
  have hu := hs.u
  have hm := hs.most
  have hf := hs.few
  have hlen := hs.len
  have hsrt := hs.srt
  have hrn := hs.rowsN
  simp only at hu hm hf hlen hsrt hrn
  unfold rstInstall_P rinstS
  simp only
  rw [bd_grd h1.2.1]
  have hso : (sortedS l).2 = onceGo [] l := by unfold sortedS; cases onceGo [] l <;> rfl
  cases hg : onceGo [] l with
  | false =>
    have ho : onceS l = false := by unfold onceS; rw [hg]; rfl
    rw [if_pos ho]
    exact br_t (by show (!(sortedS l).2) = true; rw [hso, hg]; rfl)
  | true =>
  refine (br_f (by show (!(sortedS l).2) = false; rw [hso, hg]; rfl)).trans ?_
  by_cases hnil : l = []
  · subst hnil
    have ho : onceS [] = false := rfl
    rw [if_pos ho]; rfl
  · have ho : onceS l = true := by unfold onceS; rw [hg, decide_eq_true hnil]; rfl
    have hpos : 0 < l.length := by
      cases l with
      | nil => exact absurd rfl hnil
      | cons a l => simp
    rw [br_f (by rw [beq_eq_false_iff_ne]; omega), if_neg (by rw [ho]; simp)]
    by_cases hq : q = 18446744073709551615
    · rw [br_t (beq_iff_eq.2 hq), if_pos hq]
    · rw [br_f (by simpa using hq), if_neg hq, bd_grd (by rw [lenOk_of (by omega), decide_eq_true (by omega)]; rfl)]
      simp only
      rw [wrapI (by omega) (by omega)]
      by_cases hfull : (chsLen m : Int) + l.length > most
      · rw [br_dt hfull, if_pos hfull]
      · rw [br_df hfull, if_neg hfull, wrapU (by omega) (by omega)]
        have hnd : nodupK l := ((onceGo_iff _ _).1 hg).2.2
        refine loopN_for (step := rstInstall_L1) l.length (fun i => ((q + 1, most, laidAllR (q + 1) m (l.take i), ()), l, (i : Int), ())) (fun i hi rec => ?_) (fun rec => ?_) (l.length + 1) (by omega)
        · have hsr := srtR_laidAll (q + 1) (l.take i) m hsrt
          have hle := len_laidAllR (q + 1) (l.take i) m
          have hcl := chsLen_laidAllR (q + 1) (l.take i) m
          have hpart := rowOf_part (q + 1) l m hsrt hnd i hi
          have hrow := rowOf_ok hs (l.getD i ((0, 0), 0)).1
          rw [List.length_take] at hle hcl
          simp only at hrow
          have hgo : ((q + 1, most, laidAllR (q + 1) m (l.take (i + 1)), ()), l, ((i + 1 : Nat) : Int), ()) = (((q + 1, most, laidR (laidAllR (q + 1) m (l.take i)) (l.getD i ((0, 0), 0)).1 (q + 1, (l.getD i ((0, 0), 0)).2), ()), l, ((i : Int) + 1), ()) : Ref × List Cel × Int × Unit) := by
            rw [take_snoc l i ((0, 0), 0) hi, laidAllR_snoc]; simp
          rw [hgo]
          simp only [rstInstall_L1, Int.toNat_natCast]
          generalize laidAllR (q + 1) m (l.take i) = L at hsr hle hcl hpart ⊢
          rw [br_dt (by omega), br_dt (by omega), br_dt (by omega), br_dt (by omega), br_dt (by omega), wrapI (by omega) (by omega), bd_grd (by rw [lenOk_of (by omega), hsr]; rfl)]
          simp only [Int.toNat_natCast]
          have hcle := cntR_le L (l.getD i ((0, 0), 0)).1
          cases hh : hasR L (l.getD i ((0, 0), 0)).1 with
          | true =>
            have hlt : cntR L (l.getD i ((0, 0), 0)).1 < L.length := by
              have hh' := hh
              unfold hasR at hh'
              simp only [Bool.and_eq_true, decide_eq_true_eq] at hh'
              exact hh'.1
            have hr : (L.getD (cntR L (l.getD i ((0, 0), 0)).1) ((0, 0), [])).2 = rowOf m (l.getD i ((0, 0), 0)).1 := by rw [← hpart]; unfold rowOf; rw [hh]; rfl
            refine Eq.trans (br_t rfl) ?_
            refine (br_dt (by omega)).trans ((br_dt (Int.ofNat_lt.2 hlt)).trans ?_)
            have hlo : lenOk (L.getD (cntR L (l.getD i ((0, 0), 0)).1) ((0, 0), [])).2 = true := by rw [hr]; exact lenOk_of (by omega)
            refine (bd_grd hlo).trans ?_
            refine (br_dt (by omega)).trans ((br_dt (Int.ofNat_lt.2 hlt)).trans ?_)
            refine congrArg rec (Prod.ext (Prod.ext rfl (Prod.ext rfl (Prod.ext ?_ rfl))) rfl)
            unfold laidR
            rw [hh]
            have hadd : (addS (L.getD (cntR L (l.getD i ((0, 0), 0)).1) ((0, 0), [])).2 (q + 1, (l.getD i ((0, 0), 0)).2)).1 = (L.getD (cntR L (l.getD i ((0, 0), 0)).1) ((0, 0), [])).2 ++ [(q + 1, (l.getD i ((0, 0), 0)).2)] := by
              unfold addS
              rw [if_neg (by rw [hr]; simp only; omega)]
            rw [if_pos rfl, ← hadd]
          | false =>
            refine Eq.trans (br_f rfl) ?_
            have ht : List.take (cntR L (l.getD i ((0, 0), 0)).1) (List.drop 0 L) = L.take (cntR L (l.getD i ((0, 0), 0)).1) := by rw [List.drop_zero]
            have hd : List.take (L.length - cntR L (l.getD i ((0, 0), 0)).1) (List.drop (cntR L (l.getD i ((0, 0), 0)).1) L) = L.drop (cntR L (l.getD i ((0, 0), 0)).1) := List.take_of_length_le (by rw [List.length_drop]; exact Nat.le_refl _)
            have b1 : (List.take (cntR L (l.getD i ((0, 0), 0)).1) (List.drop 0 L)).length < 1500000 := by rw [ht, List.length_take]; omega
            have b2 : (List.take (cntR L (l.getD i ((0, 0), 0)).1) (List.drop 0 L)).length + [((l.getD i ((0, 0), 0)).1, [(q + 1, (l.getD i ((0, 0), 0)).2)])].length < 1600000 := by simp only [List.length_cons, List.length_nil]; omega
            have b3 : (cat (List.take (cntR L (l.getD i ((0, 0), 0)).1) (List.drop 0 L)) [((l.getD i ((0, 0), 0)).1, [(q + 1, (l.getD i ((0, 0), 0)).2)])]).length + (List.take (L.length - cntR L (l.getD i ((0, 0), 0)).1) (List.drop (cntR L (l.getD i ((0, 0), 0)).1) L)).length < 1999999 := by
              rw [hd, ht]; unfold cat
              simp only [List.length_append, List.length_take, List.length_drop, List.length_cons, List.length_nil]; omega
            refine (br_dt (by omega)).trans ((br_dt (Int.ofNat_le.2 hcle)).trans ((br_dt (lim_mul (Nat.lt_trans b1 (by decide)) (by decide))).trans ((br_dt (lim_le (Nat.lt_trans b1 (by decide)))).trans ?_)))
            refine (br_dt (by omega)).trans ((br_dt (by omega)).trans ((br_dt (lim_mul (Nat.lt_trans b2 (by decide)) (by decide))).trans ((br_dt (lim_le (Nat.lt_trans b2 (by decide)))).trans ?_)))
            refine (br_dt (by omega)).trans ((br_dt (Int.ofNat_le.2 hcle)).trans ((br_dt (lim_mul (Nat.lt_trans b3 (by decide)) (by decide))).trans ((br_dt (lim_le (Nat.lt_trans b3 (by decide)))).trans ?_)))
            refine congrArg rec (Prod.ext (Prod.ext rfl (Prod.ext rfl (Prod.ext ?_ rfl))) rfl)
            show cat (cat _ _) _ = laidR _ _ _
            rw [ht, hd]
            unfold laidR cat
            rw [hh, if_neg (by simp), List.append_assoc]
            rfl
        · simp only [rstInstall_L1]
          rw [br_df (by omega), List.take_length]
end Go.BB
