/- A symbolic machine for the model's code, and what it shows of this seat's functions. No conditions. -/
import Derived.Test.YtnofmeckcimodaaCLFile
import Derived.Test.YtnofmeckcimodaaCGfile2
import Derived.Test.YtnofmeckcimodaaCVfile
import Derived.Test.YtnofmeckcimodaaRows
import Derived.WalkKit
import Derived.ProofKit
set_option linter.unusedSimpArgs false
set_option linter.unusedVariables false
/-! plain lemmas: what was put in order rises -/
namespace Go.BB
open Go
theorem cmp3_lt (a b : Int) : cmp3 a b < 0 ↔ a < b := by unfold cmp3; split <;> (try split) <;> omega
theorem cmp3_ne (a b : Int) : cmp3 a b ≠ 0 ↔ a ≠ b := by unfold cmp3; split <;> (try split) <;> omega
theorem deedCmp_lt (a b : Deed) : deedCmp a b < 0 ↔ a.2.1 < b.2.1 ∨ a.2.1 = b.2.1 ∧ lateS a < lateS b := by
  unfold deedCmp
  by_cases h : cmp3 a.2.1 b.2.1 ≠ 0
  · rw [if_pos h, cmp3_lt]
    have := (cmp3_ne _ _).1 h
    omega
  · rw [if_neg h, cmp3_lt]
    have : a.2.1 = b.2.1 := by
      apply Classical.byContradiction
      intro hc
      exact h ((cmp3_ne _ _).2 hc)
    omega
theorem mem_insD {c x : Deed} : ∀ {r : List Deed}, c ∈ insD x r ↔ c = x ∨ c ∈ r
  | [] => by simp [insD]
  | a :: r => by
    unfold insD
    split
    · rw [List.mem_cons, mem_insD, List.mem_cons]
      constructor
      · rintro (h | h | h)
        · exact .inr (.inl h)
        · exact .inl h
        · exact .inr (.inr h)
      · rintro (h | h | h)
        · exact .inr (.inl h)
        · exact .inl h
        · exact .inr (.inr h)
    · rw [List.mem_cons]
theorem perm_insD (x : Deed) : ∀ (r : List Deed), (insD x r).Perm (x :: r)
  | [] => .refl _
  | a :: r => by
    unfold insD
    split
    · exact ((perm_insD x r).cons a).trans (.swap x a r)
    · exact .refl _
theorem perm_sortD (l : List Deed) : (sortD l).Perm l := by
  have : ∀ (l r : List Deed), (l.foldl (fun r x => insD x r) r).Perm (l ++ r) := by
    intro l
    induction l with
    | nil => intro r; exact .refl _
    | cons a l ih =>
      intro r
      rw [List.foldl_cons]
      exact (ih _).trans (((perm_insD a r).append_left l).trans (List.perm_middle))
  have h := this l []
  rw [List.append_nil] at h
  exact (List.reverse_perm _).trans h
/-- a number of a deed's own -/
def idD (d : Deed) : Int := (d.2.2.2.getD 0 ((0, 0), 0)).2
/-- strictly ahead -/
def aheadD (a b : Deed) : Prop := a.2.1 < b.2.1 ∨ a.2.1 = b.2.1 ∧ (lateS a < lateS b ∨ lateS a = lateS b ∧ idD a < idD b)
theorem insD_rise {x : Deed} : ∀ {r : List Deed}, r.Pairwise (fun a b => aheadD b a) → (∀ a ∈ r, idD a < idD x) → (insD x r).Pairwise (fun a b => aheadD b a)
  | [], _, _ => by simp [insD]
  | a :: r, h, hx => by
    have h' := List.pairwise_cons.1 h
    unfold insD
    by_cases hc : deedCmp x a < 0
    · rw [if_pos hc]
      refine List.pairwise_cons.2 ⟨fun c hcm => ?_, insD_rise h'.2 fun b hb => hx b (List.mem_cons_of_mem _ hb)⟩
      rcases mem_insD.1 hcm with rfl | hcm
      · have := (deedCmp_lt _ _).1 hc
        unfold aheadD
        omega
      · exact h'.1 c hcm
    · rw [if_neg hc]
      have h1 := hx a List.mem_cons_self
      have h2 : aheadD a x := by
        have := mt (deedCmp_lt x a).2 hc
        unfold aheadD
        omega
      refine List.pairwise_cons.2 ⟨fun c hcm => ?_, h⟩
      rcases List.mem_cons.1 hcm with rfl | hcm
      · exact h2
      · have := h'.1 c hcm
        unfold aheadD at this h2 ⊢
        omega
theorem sortD_rise {l : List Deed} (h : l.Pairwise (fun a b => idD a < idD b)) : (sortD l).Pairwise aheadD := by
  have key : ∀ (l r : List Deed), l.Pairwise (fun a b => idD a < idD b) → r.Pairwise (fun a b => aheadD b a) → (∀ a ∈ r, ∀ b ∈ l, idD a < idD b) → (l.foldl (fun r x => insD x r) r).Pairwise (fun a b => aheadD b a) := by
    intro l
    induction l with
    | nil => intro r _ hr _; exact hr
    | cons x l ih =>
      intro r hl hr hx
      have hl' := List.pairwise_cons.1 hl
      rw [List.foldl_cons]
      refine ih _ hl'.2 (insD_rise hr fun a ha => hx a ha x List.mem_cons_self) fun a ha b hb => ?_
      rcases mem_insD.1 ha with rfl | ha
      · exact hl'.1 b hb
      · exact hx a ha b (List.mem_cons_of_mem _ hb)
  have := key l [] h List.Pairwise.nil (fun a ha => nomatch ha)
  exact List.pairwise_reverse.2 this
/-- what rises stays -/
theorem sortD_same {l : List Deed} (h : l.Pairwise aheadD) : sortD l = l := by
  have key : ∀ (l r : List Deed), l.Pairwise aheadD → (∀ a ∈ r, ∀ b ∈ l, aheadD a b) → l.foldl (fun r x => insD x r) r = l.reverse ++ r := by
    intro l
    induction l with
    | nil => intro r _ _; rfl
    | cons x l ih =>
      intro r hl hx
      have hl' := List.pairwise_cons.1 hl
      have e : insD x r = x :: r := by
        cases r with
        | nil => rfl
        | cons a r =>
          have := hx a List.mem_cons_self x List.mem_cons_self
          rw [insD, if_neg]
          rw [deedCmp_lt]
          unfold aheadD at this
          omega
      rw [List.foldl_cons, e, ih _ hl'.2 fun a ha b hb => ?_]
      · simp
      · rcases List.mem_cons.1 ha with rfl | ha
        · exact hl'.1 b hb
        · exact hx a ha b (List.mem_cons_of_mem _ hb)
  have := key l [] h (fun a ha => nomatch ha)
  unfold sortD sortR
  rw [this]
  simp
/-! marks -/
theorem marks_len (ks : List Nat) : ∀ s : List Bool, (ks.foldl (fun s k => s.set k true) s).length = s.length := by
  induction ks with
  | nil => intro s; rfl
  | cons k ks ih => intro s; rw [List.foldl_cons, ih, List.length_set]
theorem marks_not {k : Nat} (ks : List Nat) (h : k ∉ ks) : ∀ s : List Bool, (ks.foldl (fun s k => s.set k true) s).getD k false = s.getD k false := by
  induction ks with
  | nil => intro s; rfl
  | cons j ks ih =>
    intro s
    rw [List.mem_cons] at h
    rw [List.foldl_cons, ih (fun hm => h (.inr hm)), List.getD_eq_getElem?_getD, List.getElem?_set_ne (fun e => h (.inl e.symm)), List.getD_eq_getElem?_getD]
theorem getD_pair {R : Deed → Deed → Prop} {o : List Deed} (h : o.Pairwise R) {i j : Nat} (hij : i < j) (hj : j < o.length) (z : Deed) : R (o.getD i z) (o.getD j z) := by
  rw [List.getD_eq_getElem?_getD, List.getElem?_eq_getElem (by omega), List.getD_eq_getElem?_getD, List.getElem?_eq_getElem hj]
  exact List.pairwise_iff_getElem.1 h i j (by omega) hj hij
end Go.BB
set_option linter.unusedSimpArgs false
set_option linter.unusedVariables false
namespace Go.BB
open Go Go.Proofs
set_option maxRecDepth 100000
theorem brf1 {α : Type} {x y : α} : br false x y = y := rfl
theorem brt1 {α : Type} {x y : α} : br true x y = x := rfl
theorem brNT'' {α : Type} {x y : α} : br (!false) x y = x := rfl
theorem brT'' {α : Type} {x y : α} : br (!true) x y = y := rfl
def mkD (ar : List Int) (k : Nat) : Deed := (digitS (ar.getD k 0) 5 2 == 0, ar.getD k 0 % 5, [], [((0, 0), (k : Int))])
def allD (ar : List Int) : List Deed := (List.range ar.length).map (mkD ar)
theorem allD_len (ar : List Int) : (allD ar).length = ar.length := by simp [allD]
theorem allD_get {ar : List Int} {k : Nat} (h : k < ar.length) (z : Deed) : (allD ar).getD k z = mkD ar k := by
  unfold allD
  rw [List.getD_eq_getElem?_getD, List.getElem?_map, List.getElem?_range h]; rfl
theorem idD_mk (ar : List Int) (k : Nat) : idD (mkD ar k) = (k : Int) := rfl
theorem allD_ids (ar : List Int) : (allD ar).Pairwise (fun a b => idD a < idD b) := by
  unfold allD
  rw [List.pairwise_map]
  refine List.Pairwise.imp ?_ List.pairwise_lt_range
  intro a b h
  rw [idD_mk, idD_mk]
  omega
theorem allD_ok (ar : List Int) (h : ar.length ≤ 20) : ∀ d ∈ allD ar, deedOk d = true := by
  intro d hd
  obtain ⟨k, _, rfl⟩ := List.mem_map.1 hd
  rfl
/-- in order -/
structure OrdD (ar : List Int) (o : List Deed) : Prop where
  n : ar.length ≤ 20
  len : o.length = ar.length
  get : ∀ i, i < o.length → ∃ k, k < ar.length ∧ o.getD i (false, 0, [], []) = mkD ar k
  rise : o.Pairwise aheadD
  nod : (o.map (fun d => (idD d).toNat)).Nodup
theorem ordD {ar : List Int} (h : ar.length ≤ 20) : OrdD ar (sortD (allD ar)) := by
  have hp := perm_sortD (allD ar)
  have hl : (sortD (allD ar)).length = ar.length := by rw [sortD_len, allD_len]
  refine ⟨h, hl, fun i hi => ?_, sortD_rise (allD_ids ar), ?_⟩
  · have hm := hp.mem_iff.1 (mem_getD (z := ((false, 0, [], []) : Deed)) hi)
    obtain ⟨k, hk, e⟩ := List.mem_map.1 hm
    exact ⟨k, List.mem_range.1 hk, e.symm⟩
  · refine ((hp.map _).nodup_iff).2 ?_
    have : (allD ar).map (fun d => (idD d).toNat) = List.range ar.length := by
      unfold allD
      rw [List.map_map]
      conv => rhs; rw [← List.map_id (List.range ar.length)]
      refine List.map_congr_left fun k _ => ?_
      show (idD (mkD ar k)).toNat = k
      rw [idD_mk]; omega
    rw [this]
    exact List.nodup_range
def seenAt (o : List Deed) (i : Nat) : List Bool := (((o.take i).map (fun d => (idD d).toNat))).foldl (fun s k => s.set k true) (List.replicate 20 false)
theorem sorts_L1 {ar : List Int} {o : List Deed} (h : OrdD ar o) (K : Nat) (hK : 20 < K) : loopN lFileSorts_L1 K (allD ar, o, o, List.replicate 20 false, 0, ()) = some ((true, ()), (), ()) := by
  have hn := h.n
  have ho := h.len
  have hal := allD_len ar
  refine loopN_for o.length (fun i => (allD ar, o, o, seenAt o i, (i : Int), ())) (fun i hi rec => ?_) (fun rec => ?_) K (by omega)
  · obtain ⟨k, hk, hd⟩ := h.get i hi
    have hlk := allD_get hk (false, 0, [], [])
    have hseen : (seenAt o i).getD k false = false := by
      unfold seenAt
      rw [marks_not]
      · rw [List.getD_eq_getElem?_getD, List.getElem?_replicate, if_pos (by omega)]; rfl
      · intro hm
        have hnod := h.nod
        have h2 : o = o.take i ++ o.getD i (false, 0, [], []) :: o.drop (i + 1) := by rw [← drop_cons o i _ hi, List.take_append_drop]
        rw [h2, List.map_append, List.map_cons, List.nodup_append] at hnod
        refine hnod.2.2 k hm _ List.mem_cons_self ?_
        rw [hd, idD_mk]; omega
    have hnext : (seenAt o i).set k true = seenAt o (i + 1) := by
      unfold seenAt
      rw [take_snoc o i (false, 0, [], []) hi, List.map_append, List.foldl_append, hd]
      show _ = List.set _ (idD (mkD ar k)).toNat true
      rw [idD_mk, Int.toNat_natCast]
    unfold mkD at hd hlk
    generalize hw : (digitS (ar.getD k 0) 5 2 == 0) = w at hd hlk
    generalize hq : ar.getD k 0 % 5 = q at hd hlk
    have hwr : IntKind.i64.wrap (k : Int) = (k : Int) := wrapI (by omega) (by omega)
    have hcl : ((([((0, 0), (k : Int))] : List Cel).length : Nat) : Int) = 1 := rfl
    have hc0 : ([((0, 0), (k : Int))] : List Cel).getD (Int.toNat 0) ((0, 0), 0) = ((0, 0), (k : Int)) := rfl
    simp only [lFileSorts_L1, Int.toNat_natCast, hd, hcl, hc0, hwr, hlk]
    rw [br_dt (by omega), br_dt (by omega), br_dt (by omega), br_f (by decide), br_dt (by omega), br_dt (by omega), br_f (by decide)]
    rw [br_dt (by omega), br_dt (by omega), br_dt (by omega), br_dt (by omega), br_dt (by omega), br_dt (by omega), br_f (by simp)]
    rw [br_dt (by omega), br_dt (by omega), br_dt (by omega), br_df (by omega), br_dt (by omega), br_dt (by omega)]
    rw [hseen, brf1, br_dt (by omega), br_dt (by omega), br_dt (by omega), br_dt (by omega), br_f (by simp)]
    rw [br_dt (by omega), br_dt (by omega), br_dt (by omega), br_dt (by omega), br_f (by simp), br_dt (by omega), br_dt (by omega)]
    rw [wrapI (n := (i : Int) + 1) (by omega) (by omega), hnext]
    by_cases hi0 : i = 0
    · subst hi0
      rw [br_t (by decide)]
      rfl
    · rw [br_f (beq_eq_false_iff_ne.2 (by omega))]
      have hi1 : IntKind.i64.wrap ((i : Int) - 1) = ((i - 1 : Nat) : Int) := by rw [wrapI (by omega) (by omega)]; omega
      obtain ⟨k', hk', hd'⟩ := h.get (i - 1) (by omega)
      have hr := getD_pair h.rise (show i - 1 < i by omega) hi (false, 0, [], [])
      rw [hd, hd'] at hr
      unfold mkD at hd' hr
      generalize (digitS (ar.getD k' 0) 5 2 == 0) = w' at hd' hr
      generalize ar.getD k' 0 % 5 = q' at hd' hr
      have hcl' : ((([((0, 0), (k' : Int))] : List Cel).length : Nat) : Int) = 1 := rfl
      have hc0' : ([((0, 0), (k' : Int))] : List Cel).getD (Int.toNat 0) ((0, 0), 0) = ((0, 0), (k' : Int)) := rfl
      simp only [hi1, Int.toNat_natCast, hd', hcl', hc0']
      have hr2 : q' < q ∨ q' = q ∧ ((if w' then (0 : Int) else 1) < (if w then (0 : Int) else 1) ∨ (if w' then (0 : Int) else 1) = (if w then (0 : Int) else 1) ∧ (k' : Int) < (k : Int)) := hr
      rw [br_dt (by omega), br_dt (by omega), br_dt (by omega), br_dt (by omega), br_df (by omega)]
      rcases Decidable.em (q' = q) with hqq | hqq
      · rw [br_t (by rw [hqq]; simp)]
        cases w' <;> cases w
        · rw [brNT'', brf1, br_t (by rw [hqq]; simp), br_t (by rfl), br_dt (by omega), br_dt (by omega), br_df (by simp at hr2; omega)]
          rfl
        · simp at hr2; omega
        · rw [brT'', br_t (by rw [hqq]; simp), br_f (by rfl)]
          rfl
        · rw [brT'', br_t (by rw [hqq]; simp), br_t (by rfl), br_dt (by omega), br_dt (by omega), br_df (by simp at hr2; omega)]
          rfl
      · rw [br_f (beq_eq_false_iff_ne.2 hqq), br_f (beq_eq_false_iff_ne.2 hqq)]
        rfl
  · simp only [lFileSorts_L1]
    rw [br_df (by omega)]
theorem lv_FileSorts : Valid Try.prog n_lFileSorts ⟨valsOf [.slice tI], [.val .bool], Fok (tys := [.slice tI]) (fun _ => true) ((), ())⟩ := by
  refine valid_law mixed hf_lFileSorts (by kernel_rfl) rfl (ts := tmpsOf f_lFileSorts.results.toList) (by kernel_rfl) (cfg := cfgW g_lFileSorts) tt_ok
    (Γok_cons v_awake27 (Γok_cons v_within (Γok_cons v_digit (Γok_cons v_forder Γok_nil)))) lFileSorts_tm (by kernel_rfl) ?_
  rintro ⟨(ar : List Int), ⟨⟩⟩ _
  refine ⟨30, (lFileSorts_rn _ _).trans ?_⟩
  unfold lFileSorts_P
  by_cases h1 : (ar.length : Int) > 20
  · rw [br_dt h1]; rfl
  rw [br_df h1, brNT]
  have hn : ar.length ≤ 20 := by omega
  have hal := allD_len ar
  have hO := ordD hn
  have hok := allD_ok ar hn
  refine loopN_for (step := lFileSorts_L2 30) ar.length (fun i => (ar, (List.range i).map (mkD ar), (i : Int), ())) (fun i hi rec => ?_) (fun rec => ?_) 30 (by omega)
  · simp only [lFileSorts_L2, Int.toNat_natCast]
    rw [br_dt (by omega), br_dt (by omega), br_dt (by omega), bd_grd (by decide), br_dt (by omega), br_dt (by omega), bd_grd (by decide)]
    simp only
    have a0 := Int.emod_nonneg (ar.getD i 0) (show (5 : Int) ≠ 0 by decide)
    have a1 := Int.emod_lt_of_pos (ar.getD i 0) (show (0 : Int) < 5 by decide)
    rw [wrapU (by omega) (by omega), wrapW (n := (i : Int)) (by omega) (by omega), wrapI (by omega) (by omega)]
    have hl : ((List.range i).map (mkD ar)).length = i := by simp
    rw [br_dt (by rw [hl]; simp only [List.length_singleton, LIM]; omega), br_dt (by rw [hl]; simp only [List.length_singleton, LIM]; omega)]
    have e : (List.range (i + 1)).map (mkD ar) = cat ((List.range i).map (mkD ar)) [mkD ar i] := by
      rw [List.range_succ, List.map_append]; rfl
    rw [e]
    rfl
  · have e : (List.range ar.length).map (mkD ar) = allD ar := rfl
    rw [e]
    have hsl : (sortD (allD ar)).length = ar.length := hO.len
    have hok2 : (sortD (allD ar)).all deedOk = true := List.all_eq_true.2 fun d hd => hok d ((perm_sortD _).mem_iff.1 hd)
    simp only [lFileSorts_L2]
    rw [br_df (by omega), bd_grd (and_t (decide_eq_true (by omega)) (List.all_eq_true.2 hok))]
    simp only
    rw [bd_grd (and_t (decide_eq_true (by omega)) hok2), sortD_same hO.rise]
    simp only
    rw [hsl, hal, br_f (by simp), br_f (by simp)]
    exact sorts_L1 hO 30 (by omega)
end Go.BB
set_option linter.unusedSimpArgs false
set_option linter.unusedVariables false
namespace Go.Proofs.Ytnofmeckcimodaa
open Go.BB Go.ChangeShapes Go.WideShapes Go.ChangeAt Go.RowKit
namespace Bb
theorem own : ownKnob Try.prog.godebug = none := by kernel_rfl
theorem laidOut : laidOutB Try.prog = true := by kernel_rfl
theorem reads (ts : List Nat) (h : (ts.all fun t => Try.prog.readableRec t && decide (t < Try.prog.types.size)) = true) : ∀ t ∈ ts, Try.prog.readableRec t = true ∧ t < Try.prog.types.size := by
  intro t ht
  have := List.all_eq_true.1 h t ht
  simpa using this
end Bb
namespace fileSorts
set_option maxRecDepth 100000 in
theorem lifted (os : Os) (started : os.Started) (H : Type) (enc : TypeId × Value → H) :
    ReturnsInHanded {} Try.checked os 8 .any (Rows.fileSortsSpec.pre6 enc Try.prog Try.f8 Rows.fileSortsRow.domain false) (Rows.fileSortsSpec.post enc Try.prog Try.f8 false true false false) :=
  law_lifted2 (C := Try.checked) (O := O0) (tys := [.slice tI]) Bb.own started (by kernel_rfl) Try.func8
    (ChangeSpec.witness6 (enc := enc) (C := Try.checked) false ⟨#[], #[.slice none 0 0], []⟩ 8 (by kernel_rfl) (by kernel_rfl) (by kernel_rfl) (by kernel_rfl))
    Bb.laidOut (by kernel_rfl) (Bb.reads _ (by kernel_rfl)) rfl Try.underlying4 rfl (fun ds h => by match ds, h with | [_], _ => rfl) lv_FileSorts (fun x h => ⟨_, grd_t rfl⟩)
theorem over : Rows.fileSortsRow.holds Try.pinned (OpenSpec.ofChange Rows.fileSortsSpec) :=
  OpenClaim.holds_of_wide 8 Try.f8 rfl rfl rfl rfl rfl rfl rfl ⟨rfl, rfl, rfl, rfl, rfl⟩ rfl rfl rfl rfl rfl (by kernel_rfl) Try.func8 (by kernel_rfl)
    (of_decide_eq_true (by kernel_rfl)) (by unfold Func.isWrapper; first | (rw [if_pos (by decide +kernel)]; kernel_rfl) | (rw [if_neg (by decide +kernel)]; exact ⟨rfl, rfl⟩))
    (fun os started H enc _ => lifted os started H enc)
end fileSorts
/-- The row FileSorts. -/
theorem fileSorts_holds : Rows.FileSortsSaid := fileSorts.over
#print axioms fileSorts_holds
end Go.Proofs.Ytnofmeckcimodaa
