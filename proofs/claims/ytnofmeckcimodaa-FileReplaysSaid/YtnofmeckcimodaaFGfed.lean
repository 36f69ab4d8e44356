/- A symbolic machine for the model's code, and what it shows of this seat's functions. No conditions. -/
import Derived.Test.YtnofmeckcimodaaFGfdj
import Derived.Test.YtnofmeckcimodaaFLFile2
import Derived.Test.YtnofmeckcimodaaFGfgb
import Derived.Test.YtnofmeckcimodaaFLFile
import Derived.Test.YtnofmeckcimodaaFN
set_option linter.unusedSimpArgs false
set_option linter.unusedVariables false
namespace Go.BB
open Go Go.Proofs
set_option maxRecDepth 100000
theorem v_rahead : Valid Try.prog n_rahead c_rahead := by
 refine valid_fn mixed hf_rahead (by kernel_rfl) rfl (ts := tmpsOf f_rahead.results.toList) (by kernel_rfl) (cfg := cfgW g_rahead) tt_ok Γok_nil rahead_tm c_rahead (by kernel_rfl) (fun _ _ _ _ => ⟨⟩) ?_
 rintro ⟨(a : Deed), (b : Deed), ⟨⟩⟩ r u h
 refine ⟨0, (rahead_rn _ _ _).trans (Eq.trans ?_ h)⟩
 show rahead_P 0 a b = some ((aheadB a b, ()), ((), (), ()))
 unfold rahead_P aheadB
 by_cases h1 : a.2.1 < b.2.1
 ·rw [br_dt h1, decide_eq_true h1]; rfl
 ·rw [br_df h1, decide_eq_false h1]
  cases a.2.1 == b.2.1 <;> cases a.1 <;> cases b.1 <;> rfl
theorem aheadB_cmp (a b : Deed) : aheadB a b = false ↔ deedCmp b a < 0 := by
 rw [deedCmp_lt]
 obtain ⟨w1, q1, d1⟩ := a
 obtain ⟨w2, q2, d2⟩ := b
 unfold aheadB lateS
 by_cases h1 : q1 < q2
 ·cases w1 <;> cases w2 <;> simp [h1] <;> omega
 ·by_cases h2 : q1 = q2
  ·cases w1 <;> cases w2 <;> simp [h2]
  ·cases w1 <;> cases w2 <;> simp [h1, h2] <;> omega
theorem v_r5sameBits : Valid Try.prog n_r5sameBits c_r5sameBits := by
 refine valid_fn mixed hf_r5sameBits (by kernel_rfl) rfl (ts := tmpsOf f_r5sameBits.results.toList) (by kernel_rfl) (cfg := cfgW g_r5sameBits) tt_ok Γok_nil r5sameBits_tm c_r5sameBits (by kernel_rfl) (fun _ _ _ _ => ⟨⟩) ?_
 rintro ⟨(a : List Bool), (b : List Bool), ⟨⟩⟩ r u h
 obtain ⟨h1, h2⟩ := grd_some h
 simp only at h1 h2
 refine ⟨a.length + 1, (r5sameBits_rn _ a b).trans (Eq.trans ?_ (congrArg some h2))⟩
 have hl : a.length < 1000000 := lenOk_lt h1
 unfold r5sameBits_P
 by_cases hab : a.length = b.length
 ·rw [br_f (by simp [hab])]
  exact same_loop false (fun a b => a == b) (fun a b => by cases a <;> cases b <;> rfl) a b hab (fun _ _ _ _ => rfl) (by omega) _ (by omega)
 ·rw [br_t (by simp; omega)]
  have : sameS a b = false := by
   simp only [sameS, decide_eq_false_iff_not]
   intro e; exact hab (congrArg List.length e)
  rw [this]
  rfl
theorem v_r5sameWords : Valid Try.prog n_r5sameWords c_r5sameWords := by
 refine valid_fn mixed hf_r5sameWords (by kernel_rfl) rfl (ts := tmpsOf f_r5sameWords.results.toList) (by kernel_rfl) (cfg := cfgW g_r5sameWords) tt_ok Γok_nil r5sameWords_tm c_r5sameWords (by kernel_rfl) (fun _ _ _ _ => ⟨⟩) ?_
 rintro ⟨(a : List Int), (b : List Int), ⟨⟩⟩ r u h
 obtain ⟨h1, h2⟩ := grd_some h
 simp only at h1 h2
 refine ⟨a.length + 1, (r5sameWords_rn _ a b).trans (Eq.trans ?_ (congrArg some h2))⟩
 have hl : a.length < 1000000 := lenOk_lt h1
 unfold r5sameWords_P
 by_cases hab : a.length = b.length
 ·rw [br_f (by simp [hab])]
  exact same_loop (0 : Int) (fun a b => a == b) (fun a b => by by_cases h : a = b <;> simp [h]) a b hab (fun _ _ _ _ => rfl) (by omega) _ (by omega)
 ·rw [br_t (by simp; omega)]
  have : sameS a b = false := by
   simp only [sameS, decide_eq_false_iff_not]
   intro e; exact hab (congrArg List.length e)
  rw [this]
  rfl
end Go.BB
set_option linter.unusedSimpArgs false
set_option linter.unusedVariables false
namespace Go.BB
open Go Go.Proofs
set_option maxRecDepth 100000
abbrev zDeed : Deed := (false, 0, [], [])
abbrev OrdRes := Option ((List Deed × Unit) × Unit × Unit)
theorem insD_split {x : Deed} : ∀ {p q : List Deed}, (∀ a ∈ p, deedCmp x a < 0) → (q = [] ∨ ∃ c q', q = c :: q' ∧ ¬ deedCmp x c < 0) → insD x (p ++ q) = p ++ x :: q
 | [], q, _, h => by
  rcases h with rfl | ⟨c, q', rfl, h⟩
  ·rfl
  ·show (if _ then _ else _) = _
   rw [if_neg h]; rfl
 | a :: p, q, hp, h => by
  show (if deedCmp x a < 0 then a :: insD x (p ++ q) else _) = _
  rw [if_pos (hp a List.mem_cons_self), insD_split (fun b hb => hp b (List.mem_cons_of_mem _ hb)) h]; rfl
def ordT (rec1 : List Deed × List Deed × Int × Unit → OrdRes) (l out : List Deed) (i k : Int) : OrdRes :=
 br (decide (0 ≤ k)) (br (decide (k ≤ (↑out.length : Int))) (br (decide ((List.take k.toNat (List.drop (0 : Nat) out)).length * (64 : Nat) ≤ LIM)) (br (decide ((List.take k.toNat (List.drop (0 : Nat) out)).length ≤ LIM)) (br (decide (0 ≤ i)) (br (decide (i < (↑l.length : Int)))
  (br (decide (((List.take k.toNat (List.drop (0 : Nat) out)).length + [l.getD i.toNat zDeed].length) * (64 : Nat) ≤ LIM)) (br (decide ((List.take k.toNat (List.drop (0 : Nat) out)).length + [l.getD i.toNat zDeed].length ≤ LIM)) (br (decide (0 ≤ k)) (br (decide (k ≤ (↑out.length : Int)))
   (br (decide (((cat (List.take k.toNat (List.drop (0 : Nat) out)) [l.getD i.toNat zDeed]).length + (List.take (out.length - k.toNat) (List.drop k.toNat out)).length) * (64 : Nat) ≤ LIM)) (br (decide ((cat (List.take k.toNat (List.drop (0 : Nat) out)) [l.getD i.toNat zDeed]).length + (List.take (out.length - k.toNat) (List.drop k.toNat out)).length ≤ LIM))
    (rec1 (l, cat (cat (List.take k.toNat (List.drop (0 : Nat) out)) [l.getD i.toNat zDeed]) (List.take (out.length - k.toNat) (List.drop k.toNat out)), IntKind.i64.wrap (i + (1 : Int)), ())) none) none) none) none) none) none) none) none) none) none) none) none
theorem ord_L1 (rec1 : List Deed × List Deed × Int × Unit → OrdRes) (rec6 : List Deed × List Deed × Int × Int × Unit → OrdRes) (l out : List Deed) (i k : Int) :
  rorder_L1 rec1 rec6 (l, out, i, k, ()) = br (decide (k > 0)) (br (decide (0 ≤ IntKind.i64.wrap (k - (1 : Int)))) (br (decide (IntKind.i64.wrap (k - (1 : Int)) < (↑out.length : Int))) (br (decide (0 ≤ i)) (br (decide (i < (↑l.length : Int)))
   (br (!aheadB (out.getD (IntKind.i64.wrap (k - (1 : Int))).toNat zDeed) (l.getD i.toNat zDeed)) (rec6 (l, out, i, IntKind.i64.wrap (k - (1 : Int)), ())) (ordT rec1 l out i k)) none) none) none) none) (ordT rec1 l out i k) := by kernel_rfl
theorem ordT_eq (rec1 : List Deed × List Deed × Int × Unit → OrdRes) (l out : List Deed) (i k : Nat) (hi : i < l.length) (hk : k ≤ out.length) (ho : out.length ≤ 1000) (hl : l.length ≤ 1000) :
  ordT rec1 l out i k = rec1 (l, out.take k ++ l.getD i zDeed :: out.drop k, ((i + 1 : Nat) : Int), ()) := by
 have e1 : ((k : Nat) : Int).toNat = k := by omega
 have e2 : ((i : Nat) : Int).toNat = i := by omega
 have h1 : (List.take k (List.drop 0 out)).length = k := by simp; omega
 have h2 : (List.take (out.length - k) (List.drop k out)).length = out.length - k := by simp
 have h3 : ∀ x : Deed, (cat (List.take k (List.drop 0 out)) [x]).length = k + 1 := by intro x; unfold cat; rw [List.length_append, h1]; rfl
 unfold ordT
 simp only [e1, e2, h1, h2, h3, List.length_singleton]
 rw [br_dt (by omega), br_dt (by omega), br_dt (by unfold LIM; omega), br_dt (by unfold LIM; omega), br_dt (by omega), br_dt (by omega), br_dt (by unfold LIM; omega), br_dt (by unfold LIM; omega), br_dt (by omega), br_dt (by omega), br_dt (by unfold LIM; omega), br_dt (by unfold LIM; omega), wrapI (by omega) (by omega)]
 have e3 : List.take (out.length - k) (List.drop k out) = out.drop k := List.take_of_length_le (by simp)
 rw [e3]
 unfold cat
 simp
theorem rorder_in (K : Nat) (rec1 : List Deed × List Deed × Int × Unit → OrdRes) (l : List Deed) (i : Nat) (hi : i < l.length) (hl : l.length ≤ 1000) (r : List Deed) (hr : r.length ≤ 1000) (hK : r.length < K) :
  loopN (rorder_L1 rec1) K (l, r.reverse, (i : Int), ((r.reverse.length : Nat) : Int), ()) = rec1 (l, (insD (l.getD i zDeed) r).reverse, ((i + 1 : Nat) : Int), ()) := by
 refine loopN_meas (fun x => x.2.2.2.1.toNat) (fun x => ∃ p q : List Deed, r = p ++ q ∧ (∀ a ∈ p, deedCmp (l.getD i zDeed) a < 0) ∧ x = (l, r.reverse, (i : Int), ((q.length : Nat) : Int), ())) (fun _ => rec1 (l, (insD (l.getD i zDeed) r).reverse, ((i + 1 : Nat) : Int), ())) ?_ K _ ⟨[], r, rfl, (fun _ h => nomatch h), by rw [List.length_reverse]⟩ (by simp only [List.length_reverse]; omega)
 rintro x ⟨p, q, hr', hp, rfl⟩ rec6 hrec
 rw [ord_L1]
 have hlen : r.reverse.length = p.length + q.length := by rw [List.length_reverse, hr', List.length_append]
 have hlr : r.length = p.length + q.length := by rw [hr', List.length_append]
 have stop : (q = [] ∨ ∃ c q', q = c :: q' ∧ ¬ deedCmp (l.getD i zDeed) c < 0) → ordT rec1 l r.reverse (i : Int) ((q.length : Nat) : Int) = rec1 (l, (insD (l.getD i zDeed) r).reverse, ((i + 1 : Nat) : Int), ()) := by
  intro h
  rw [ordT_eq rec1 l _ i q.length hi (by omega) (by omega) hl]
  have e : insD (l.getD i zDeed) r = p ++ l.getD i zDeed :: q := by rw [hr']; exact insD_split hp h
  have e1 : r.reverse = q.reverse ++ p.reverse := by rw [hr', List.reverse_append]
  rw [e, e1, List.take_left' (by simp), List.drop_left' (by simp)]
  simp
 cases q with
 | nil =>
  rw [br_df (by simp)]
  exact stop (.inl rfl)
 | cons c q =>
  simp only [List.length_cons] at hlen hlr
  have ew : IntKind.i64.wrap ((((c :: q).length : Nat) : Int) - 1) = ((q.length : Nat) : Int) := by
   rw [wrapI (by simp only [List.length_cons]; omega) (by simp only [List.length_cons]; omega)]; simp only [List.length_cons]; omega
  have eg : r.reverse.getD (((q.length : Nat) : Int).toNat) zDeed = c := by
   rw [show ((q.length : Nat) : Int).toNat = q.length by omega, hr', List.reverse_append, List.reverse_cons, List.append_assoc, getD_app_ge _ _ _ _ (by simp)]
   simp
  rw [br_dt (by simp only [List.length_cons]; omega), ew, br_dt (by omega), br_dt (by omega), br_dt (by omega), br_dt (by omega), eg, show ((i : Nat) : Int).toNat = i by omega]
  cases ha : aheadB c (l.getD i zDeed) with
  | false =>
   have hc := (aheadB_cmp _ _).1 ha
   rw [show (!false) = true from rfl, br_t rfl]
   refine hrec _ ⟨p ++ [c], q, by rw [hr']; simp, fun a h => ?_, rfl⟩ (by simp only [List.length_cons]; omega)
   rcases List.mem_append.1 h with h | h
   ·exact hp a h
   ·rw [List.mem_singleton.1 h]; exact hc
  | true =>
   rw [show (!true) = false from rfl, br_f rfl]
   exact stop (.inr ⟨c, q, rfl, fun h => by rw [(aheadB_cmp _ _).2 h] at ha; cases ha⟩)
theorem v_rorder : Valid Try.prog n_rorder c_rorder := by
 refine valid_fn mixed hf_rorder (by kernel_rfl) rfl (ts := tmpsOf f_rorder.results.toList) (by kernel_rfl) (cfg := cfgW g_rorder) tt_ok (Γok_cons v_rahead Γok_nil) rorder_tm c_rorder (by kernel_rfl) (fun _ _ _ _ => ⟨⟩) ?_
 rintro ⟨(l : List Deed), ⟨⟩⟩ r u h
 obtain ⟨h1, h2⟩ := grd_some h
 have hl : l.length ≤ 1000 := of_decide_eq_true h1
 refine ⟨1002, (rorder_rn _ _).trans (Eq.trans ?_ (congrArg some h2))⟩
 show loopN (rorder_L2 1002) 1002 (l, (sortR (l.take 0)).reverse, ((0 : Nat) : Int), ()) = some ((sortD l, ()), (), ())
 refine loopN_for (step := rorder_L2 1002) l.length (fun i => (l, (sortR (l.take i)).reverse, (i : Int), ())) (fun i hi rec => ?_) (fun rec => ?_) 1002 (by omega)
 ·simp only [rorder_L2]
  have hs : (sortR (l.take i)).length = i := by rw [sortR_len]; simp; omega
  rw [br_dt (by omega), rorder_in 1002 rec l i hi hl (sortR (l.take i)) (by omega) (by omega)]
  have e : l.take (i + 1) = l.take i ++ [l.getD i zDeed] := by
   rw [List.take_add_one, List.getD_eq_getElem?_getD, List.getElem?_eq_getElem hi]; rfl
  rw [e, sortR_snoc]
 ·simp only [rorder_L2]
  rw [br_df (by omega), List.take_length]
  rfl

abbrev SameRes := Option ((Bool × Unit) × Unit × Unit × Unit)
theorem br_same {c : Bool} {A : SameRes} {q : Bool} (h0 : c = false → q = false) (h1 : c = true → A = some ((q, ()), (), (), ())) : br c A (some ((false, ()), (), (), ())) = some ((q, ()), (), (), ()) := by
 cases c with
 | false => show some _ = _; rw [h0 rfl]
 | true => exact h1 rfl
theorem br_samen {c : Bool} {A : SameRes} {q : Bool} (h0 : c = false → q = false) (h1 : c = true → A = some ((q, ()), (), (), ())) : br (!c) (some ((false, ()), (), (), ())) A = some ((q, ()), (), (), ()) := by
 cases c with
 | false => show some _ = _; rw [h0 rfl]
 | true => exact h1 rfl
theorem bytes_ext {a b : ByteArray} (h : a.toList = b.toList) : a = b := by
 rw [ByteArray.toList_eq, ByteArray.toList_eq] at h
 cases a; cases b
 simpa using h
theorem objEq (a b : ObjT) : (a.1 == b.1 && ByteArray.toList a.2 == ByteArray.toList b.2) = decide (a = b) := by
 by_cases h : a = b
 ·rw [h]; simp
 ·rw [decide_eq_false h]
  cases h1 : (a.1 == b.1) with
  | false => rfl
  | true =>
   cases h2 : (ByteArray.toList a.2 == ByteArray.toList b.2) with
   | false => rfl
   | true => exact absurd (Prod.ext (eq_of_beq h1) (bytes_ext (eq_of_beq h2))) h
abbrev tObjs (t : TellT) : List ObjT := t.2.2.2.2.2.2.2.2.2.2.2.2.2
abbrev TellU := Int × Int × List Bool × List Int × Int × Int × Int × Int × Int × Int × Int × Bool × Int × List ObjT × Unit
abbrev tellU (a : TellT) : TellU := (a.1, a.2.1, a.2.2.1, a.2.2.2.1, a.2.2.2.2.1, a.2.2.2.2.2.1, a.2.2.2.2.2.2.1, a.2.2.2.2.2.2.2.1, a.2.2.2.2.2.2.2.2.1, a.2.2.2.2.2.2.2.2.2.1, a.2.2.2.2.2.2.2.2.2.2.1, a.2.2.2.2.2.2.2.2.2.2.2.1, a.2.2.2.2.2.2.2.2.2.2.2.2.1, a.2.2.2.2.2.2.2.2.2.2.2.2.2, ())
def tellN (a b : TellT) : SameRes :=
 br (a.1 == b.1) (br (a.2.1 == b.2.1) (bd (grd (lenOk a.2.2.1) ((sameS a.2.2.1 b.2.2.1, ()), (), (), ())) fun (x6 : (Bool × Unit) × Unit × Unit × Unit) => br x6.1.1
  (bd (grd (lenOk a.2.2.2.1) ((sameS a.2.2.2.1 b.2.2.2.1, ()), (), (), ())) fun (x7 : (Bool × Unit) × Unit × Unit × Unit) => br x7.1.1
   (br (a.2.2.2.2.1 == b.2.2.2.2.1) (br (a.2.2.2.2.2.1 == b.2.2.2.2.2.1) (br (a.2.2.2.2.2.2.1 == b.2.2.2.2.2.2.1) (br (a.2.2.2.2.2.2.2.1 == b.2.2.2.2.2.2.2.1) (br (a.2.2.2.2.2.2.2.2.1 == b.2.2.2.2.2.2.2.2.1)
    (br (a.2.2.2.2.2.2.2.2.2.1 == b.2.2.2.2.2.2.2.2.2.1) (br (a.2.2.2.2.2.2.2.2.2.2.1 == b.2.2.2.2.2.2.2.2.2.2.1) (br (a.2.2.2.2.2.2.2.2.2.2.2.1 == b.2.2.2.2.2.2.2.2.2.2.2.1)
     (some ((a.2.2.2.2.2.2.2.2.2.2.2.2.1 == b.2.2.2.2.2.2.2.2.2.2.2.2.1, ()), (), (), ())) (some ((false, ()), (), (), ()))) (some ((false, ()), (), (), ()))) (some ((false, ()), (), (), ()))) (some ((false, ()), (), (), ()))) (some ((false, ()), (), (), ()))) (some ((false, ()), (), (), ()))) (some ((false, ()), (), (), ()))) (some ((false, ()), (), (), ())))
   (some ((false, ()), (), (), ()))) (some ((false, ()), (), (), ()))) (some ((false, ()), (), (), ()))) (some ((false, ()), (), (), ()))
theorem tellN_eq (a b : TellT) (hl : tellLen a = true) (ho : tObjs a = tObjs b) : tellN a b = some ((sameTellB a b, ()), (), (), ()) := by
 have hl' : lenOk a.2.2.1 = true ∧ lenOk a.2.2.2.1 = true := by
  unfold tellLen at hl
  simp only [Bool.and_eq_true] at hl
  exact ⟨hl.1, hl.2.1⟩
 obtain ⟨g1, g2⟩ := hl'
 have ne : ∀ {c : Bool}, (a = b → c = true) → c = false → sameTellB a b = false := fun hc h => decide_eq_false fun e => by rw [hc e] at h; cases h
 unfold tellN
 refine br_same (ne fun e => by rw [e]; exact beq_self_eq_true _) fun k1 => ?_
 refine br_same (ne fun e => by rw [e]; exact beq_self_eq_true _) fun k2 => ?_
 rw [bd_grd g1]
 refine br_same (ne fun e => by rw [e]; exact decide_eq_true rfl) fun k3 => ?_
 rw [bd_grd g2]
 refine br_same (ne fun e => by rw [e]; exact decide_eq_true rfl) fun k4 => ?_
 refine br_same (ne fun e => by rw [e]; exact beq_self_eq_true _) fun k5 => ?_
 refine br_same (ne fun e => by rw [e]; exact beq_self_eq_true _) fun k6 => ?_
 refine br_same (ne fun e => by rw [e]; exact beq_self_eq_true _) fun k7 => ?_
 refine br_same (ne fun e => by rw [e]; exact beq_self_eq_true _) fun k8 => ?_
 refine br_same (ne fun e => by rw [e]; exact beq_self_eq_true _) fun k9 => ?_
 refine br_same (ne fun e => by rw [e]; exact beq_self_eq_true _) fun k10 => ?_
 refine br_same (ne fun e => by rw [e]; exact beq_self_eq_true _) fun k11 => ?_
 refine br_same (ne fun e => by rw [e]; exact beq_self_eq_true _) fun k12 => ?_
 have key : (a.2.2.2.2.2.2.2.2.2.2.2.2.1 == b.2.2.2.2.2.2.2.2.2.2.2.2.1) = sameTellB a b := by
  cases hq : (a.2.2.2.2.2.2.2.2.2.2.2.2.1 == b.2.2.2.2.2.2.2.2.2.2.2.2.1) with
  | false => exact (ne (fun e => by rw [e]; exact beq_self_eq_true _) hq).symm
  | true =>
   refine (decide_eq_true ?_).symm
   exact Prod.ext (eq_of_beq k1) (Prod.ext (eq_of_beq k2) (Prod.ext (of_decide_eq_true k3) (Prod.ext (of_decide_eq_true k4) (Prod.ext (eq_of_beq k5) (Prod.ext (eq_of_beq k6) (Prod.ext (eq_of_beq k7) (Prod.ext (eq_of_beq k8) (Prod.ext (eq_of_beq k9) (Prod.ext (eq_of_beq k10) (Prod.ext (eq_of_beq k11) (Prod.ext (eq_of_beq k12) (Prod.ext (eq_of_beq hq) ho))))))))))))
 rw [key]
theorem tell_L1 (rec1 : TellU × TellU × Int × Unit → SameRes) (a b : TellT) (i : Int) : sameTell_L1 rec1 (tellU a, tellU b, i, ()) =
  br (decide (i < (↑(tObjs a).length : Int))) (br (decide ((0 : Int) ≤ i)) (br (decide (i < (↑(tObjs a).length : Int))) (br (decide ((0 : Int) ≤ i)) (br (decide (i < (↑(tObjs b).length : Int)))
   (br (!(((tObjs a).getD i.toNat ((0 : Int), ByteArray.empty)).1 == ((tObjs b).getD i.toNat ((0 : Int), ByteArray.empty)).1 && ByteArray.toList ((tObjs a).getD i.toNat ((0 : Int), ByteArray.empty)).2 == ByteArray.toList ((tObjs b).getD i.toNat ((0 : Int), ByteArray.empty)).2))
    (some ((false, ()), (), (), ())) (rec1 (tellU a, tellU b, IntKind.i64.wrap (i + (1 : Int)), ()))) none) none) none) none) (tellN a b) := by kernel_rfl
theorem v_sameTell : Valid Try.prog n_sameTell c_sameTell := by
 refine valid_fn mixed hf_sameTell (by kernel_rfl) rfl (ts := tmpsOf f_sameTell.results.toList) (by kernel_rfl) (cfg := cfgW g_sameTell) tt_ok (Γok_cons v_r5sameBits (Γok_cons v_r5sameWords Γok_nil)) sameTell_tm c_sameTell (by kernel_rfl) (fun _ _ _ _ => ⟨⟩) ?_
 rintro ⟨(a : TellT), (b : TellT), ⟨⟩⟩ r u h
 obtain ⟨h1, h2⟩ := grd_some h
 have hl : tellLen a = true := h1
 have hlo : (tObjs a).length < 1000000 := by
  unfold tellLen at hl
  simp only [Bool.and_eq_true] at hl
  exact lenOk_lt hl.2.2
 refine ⟨(tObjs a).length + 1, (sameTell_rn _ a b).trans (Eq.trans ?_ (congrArg some h2))⟩
 have ne : ∀ {c : Bool}, (a = b → c = true) → c = false → sameTellB a b = false := fun hc h => decide_eq_false fun e => by rw [hc e] at h; cases h
 show br ((↑(tObjs a).length : Int) != (↑(tObjs b).length : Int)) (some ((false, ()), (), (), ())) (loopN sameTell_L1 ((tObjs a).length + 1) (tellU a, tellU b, 0, ())) = some ((sameTellB a b, ()), (), (), ())
 by_cases hab : (tObjs a).length = (tObjs b).length
 ·rw [br_f (by simp [hab])]
  refine loopN_meas (fun x => (tObjs a).length - x.2.2.1.toNat) (fun x => ∃ i : Nat, i ≤ (tObjs a).length ∧ x = (tellU a, tellU b, (i : Int), ()) ∧ (tObjs a).take i = (tObjs b).take i) (fun _ => some ((sameTellB a b, ()), (), (), ())) ?_ _ (tellU a, tellU b, 0, ()) ⟨0, by omega, rfl, by simp⟩ (by simp)
  rintro x ⟨i, hi, rfl, ht⟩ rec hrec
  rw [tell_L1]
  have ei : ((i : Nat) : Int).toNat = i := by omega
  by_cases h : i < (tObjs a).length
  ·rw [br_dt (by omega), br_dt (by omega), br_dt (by omega), br_dt (by omega), br_dt (by omega), wrapI (by omega) (by omega), ei, objEq]
   refine br_samen (fun hx => decide_eq_false fun e => ?_) fun hx => ?_
   ·have hx := of_decide_eq_false hx
    exact hx (by rw [e])
   ·have hx := of_decide_eq_true hx
    refine hrec _ ⟨i + 1, by omega, by simp, ?_⟩ (by simp only; omega)
    rw [List.take_add_one, List.take_add_one, ht]
    congr 1
    rw [List.getD_eq_getElem?_getD, List.getD_eq_getElem?_getD, List.getElem?_eq_getElem h, List.getElem?_eq_getElem (by omega : i < (tObjs b).length)] at hx
    rw [List.getElem?_eq_getElem h, List.getElem?_eq_getElem (by omega : i < (tObjs b).length)]
    exact congrArg (fun x => (some x).toList) hx
  ·rw [br_df (by omega)]
   refine tellN_eq a b hl ?_
   rw [List.take_of_length_le (by omega), List.take_of_length_le (by omega)] at ht
   exact ht
 ·rw [br_t (by simp; omega)]
  exact (congrArg (fun q => some ((q, ()), (), (), ())) (decide_eq_false (p := a = b) fun e => hab (by rw [e]))).symm
abbrev zStep : StepT := ((0, 0, 0, 0, 0, 0, [], [], 0, 0, 0, 0), (0, 0, [], [], 0, 0, 0, 0, 0, 0, 0, false, 0, []))
end Go.BB
set_option linter.unusedSimpArgs false
set_option linter.unusedVariables false
namespace Go.BB
open Go Go.Proofs
set_option maxRecDepth 100000
theorem v_toldOf : Valid Try.prog n_toldOf c_toldOf := by
 refine valid_fnc mixed hf_toldOf (by kernel_rfl) rfl (cfg := cfgW g_toldOf) tt_ok Γok_nil toldOf_tm c_toldOf (by kernel_rfl) (fun _ _ _ _ => ⟨⟩) ?_
 rintro ⟨(t : TellT), ⟨⟩⟩ r u h
 exact ⟨0, (toldOf_rn _ t).trans h⟩
theorem same_loop4 {α : Type} [DecidableEq α] (z : α) (e : α → α → Bool) (he : ∀ a b, e a b = decide (a = b)) (a b : List α) (hab : a.length = b.length)
  {step : (List α × List α × Int × Int × Unit → Option ((Bool × Unit) × Unit × Unit × Unit)) → List α × List α × Int × Int × Unit → Option ((Bool × Unit) × Unit × Unit × Unit)}
  (hstep : ∀ rec (y3 y4 : List α) (n y5 : Int), step rec (y3, y4, n, y5, ()) =
   br (decide (y5 < n))
    (br (decide ((0 : Int) ≤ y5))
     (br (decide (y5 < (↑y3.length : Int)))
      (br (decide ((0 : Int) ≤ y5))
       (br (decide (y5 < (↑y4.length : Int)))
        (br (!(e (y3.getD y5.toNat z) (y4.getD y5.toNat z)))
         (some ((false, ()), (), (), ())) (rec (y3, y4, n, IntKind.i64.wrap (y5 + (1 : Int)), ())))
        none)
       none)
      none)
     none)
    (some ((true, ()), (), (), ()))) (hl : a.length < 4611686018427387904) :
  ∀ K, a.length < K → loopN step K (a, b, (a.length : Int), 0, ()) = some ((sameS a b, ()), (), (), ()) := by
 intro K hK
 refine loopN_meas (fun x => a.length - x.2.2.2.1.toNat) (fun x => ∃ i : Nat, i ≤ a.length ∧ x = (a, b, (a.length : Int), (i : Int), ()) ∧ a.take i = b.take i) (fun _ => some ((sameS a b, ()), (), (), ())) ?_ K (a, b, (a.length : Int), 0, ()) ⟨0, by omega, rfl, by simp⟩ (by simpa using hK)
 rintro x ⟨i, hi, rfl, ht⟩ rec hrec
 rw [hstep]
 have ei : ((i : Nat) : Int).toNat = i := by omega
 by_cases h : i < a.length
 ·rw [br_dt (by omega), br_dt (by omega), br_dt (by omega), br_dt (by omega), br_dt (by omega), wrapI (by omega) (by omega), ei, he]
  by_cases hx : a.getD i z = b.getD i z
  ·rw [br_f (by rw [decide_eq_true hx]; rfl)]
   refine hrec _ ⟨i + 1, by omega, by simp, ?_⟩ (by simp only; omega)
   rw [List.take_add_one, List.take_add_one, ht]
   congr 1
   rw [List.getD_eq_getElem?_getD, List.getD_eq_getElem?_getD, List.getElem?_eq_getElem h, List.getElem?_eq_getElem (by omega : i < b.length)] at hx
   rw [List.getElem?_eq_getElem h, List.getElem?_eq_getElem (by omega : i < b.length)]
   simpa using hx
  ·rw [br_t (by simp only [decide_eq_false hx]; rfl)]
   have : sameS a b = false := by
    unfold sameS
    apply decide_eq_false
    rintro rfl
    exact hx rfl
   rw [this]
 ·rw [br_df (by omega)]
  have : sameS a b = true := by
   unfold sameS
   apply decide_eq_true
   rwa [List.take_of_length_le (by omega), List.take_of_length_le (by omega)] at ht
  rw [this]
theorem v_eqBits : Valid Try.prog n_eqBits c_eqBits := by
 refine valid_fn mixed hf_eqBits (by kernel_rfl) rfl (ts := tmpsOf f_eqBits.results.toList) (by kernel_rfl) (cfg := cfgW g_eqBits) tt_ok Γok_nil eqBits_tm c_eqBits (by kernel_rfl) (fun _ _ _ _ => ⟨⟩) ?_
 rintro ⟨(a : List Bool), (b : List Bool), ⟨⟩⟩ r u h
 obtain ⟨h1, h2⟩ := grd_some h
 simp only at h1 h2
 refine ⟨b.length + 1, (eqBits_rn _ a b).trans (Eq.trans ?_ (congrArg some h2))⟩
 have hl : b.length < 1000000 := lenOk_lt h1
 unfold eqBits_P
 by_cases hab : a.length = b.length
 ·rw [br_f (by simp [hab])]
  exact same_loop4 false (fun a b => a == b) (fun a b => by cases a <;> cases b <;> rfl) a b hab (fun _ _ _ _ _ => rfl) (by omega) _ (by omega)
 ·rw [br_t (by simp; omega)]
  have : sameS a b = false := by
   simp only [sameS, decide_eq_false_iff_not]
   intro e; exact hab (congrArg List.length e)
  rw [this]
  rfl
theorem v_eqWords : Valid Try.prog n_eqWords c_eqWords := by
 refine valid_fn mixed hf_eqWords (by kernel_rfl) rfl (ts := tmpsOf f_eqWords.results.toList) (by kernel_rfl) (cfg := cfgW g_eqWords) tt_ok Γok_nil eqWords_tm c_eqWords (by kernel_rfl) (fun _ _ _ _ => ⟨⟩) ?_
 rintro ⟨(a : List Int), (b : List Int), ⟨⟩⟩ r u h
 obtain ⟨h1, h2⟩ := grd_some h
 simp only at h1 h2
 refine ⟨b.length + 1, (eqWords_rn _ a b).trans (Eq.trans ?_ (congrArg some h2))⟩
 have hl : b.length < 1000000 := lenOk_lt h1
 unfold eqWords_P
 by_cases hab : a.length = b.length
 ·rw [br_f (by simp [hab])]
  exact same_loop4 (0 : Int) (fun a b => a == b) (fun a b => by by_cases h : a = b <;> simp [h]) a b hab (fun _ _ _ _ _ => rfl) (by omega) _ (by omega)
 ·rw [br_t (by simp; omega)]
  have : sameS a b = false := by
   simp only [sameS, decide_eq_false_iff_not]
   intro e; exact hab (congrArg List.length e)
  rw [this]
  rfl
theorem v_eqObjs : Valid Try.prog n_eqObjs c_eqObjs := by
 refine valid_fn mixed hf_eqObjs (by kernel_rfl) rfl (ts := tmpsOf f_eqObjs.results.toList) (by kernel_rfl) (cfg := cfgW g_eqObjs) tt_ok Γok_nil eqObjs_tm c_eqObjs (by kernel_rfl) (fun _ _ _ _ => ⟨⟩) ?_
 rintro ⟨(a : List ObjT), (b : List ObjT), ⟨⟩⟩ r u h
 obtain ⟨h1, h2⟩ := grd_some h
 simp only at h1 h2
 refine ⟨b.length + 1, (eqObjs_rn _ a b).trans (Eq.trans ?_ (congrArg some h2))⟩
 have hl : b.length < 1000000 := lenOk_lt h1
 unfold eqObjs_P
 by_cases hab : a.length = b.length
 ·rw [br_f (by simp [hab])]
  exact same_loop4 ((0 : Int), ByteArray.empty) (fun a b => a.1 == b.1 && ByteArray.toList a.2 == ByteArray.toList b.2) objEq a b hab (fun _ _ _ _ _ => rfl) (by omega) _ (by omega)
 ·rw [br_t (by simp; omega)]
  have : sameS a b = false := by
   simp only [sameS, decide_eq_false_iff_not]
   intro e; exact hab (congrArg List.length e)
  rw [this]
  rfl
def eqPlain (x y : PlainT) : Bool := x.1 == y.1 && (x.2.1 == y.2.1 && (x.2.2.1 == y.2.2.1 && (x.2.2.2.1 == y.2.2.2.1 && (x.2.2.2.2.1 == y.2.2.2.2.1 && (x.2.2.2.2.2.1 == y.2.2.2.2.2.1 && (x.2.2.2.2.2.2.1 == y.2.2.2.2.2.2.1 && (x.2.2.2.2.2.2.2.1 == y.2.2.2.2.2.2.2.1 && (x.2.2.2.2.2.2.2.2.1 == y.2.2.2.2.2.2.2.2.1 && (x.2.2.2.2.2.2.2.2.2.1 == y.2.2.2.2.2.2.2.2.2.1 && (x.2.2.2.2.2.2.2.2.2.2 == y.2.2.2.2.2.2.2.2.2.2))))))))))
theorem v_toldSame : Valid Try.prog n_toldSame c_toldSame := by
 refine valid_fn mixed hf_toldSame (by kernel_rfl) rfl (ts := tmpsOf f_toldSame.results.toList) (by kernel_rfl) (cfg := cfgW g_toldSame) tt_ok (Γok_cons v_toldOf (Γok_cons v_eqBits (Γok_cons v_eqWords (Γok_cons v_eqObjs Γok_nil)))) toldSame_tm c_toldSame (by kernel_rfl) (fun _ _ _ _ => ⟨⟩) ?_
 rintro ⟨(a : TellT), (b : TellT), ⟨⟩⟩ r u h
 obtain ⟨h1, h2⟩ := grd_some h
 have hl : tellLen b = true := h1
 obtain ⟨l1, l2, l3⟩ : lenOk b.2.2.1 = true ∧ lenOk b.2.2.2.1 = true ∧ lenOk b.2.2.2.2.2.2.2.2.2.2.2.2.2 = true := by
  unfold tellLen at hl
  simpa only [Bool.and_eq_true] using hl
 refine ⟨0, (toldSame_rn _ a b).trans (Eq.trans ?_ (congrArg some h2))⟩
 show toldSame_P 0 a b = some ((sameTellB a b, ()), (), (), ())
 obtain ⟨p, hP, hp⟩ : ∃ p, toldSame_P 0 a b = br p (br (sameS a.2.2.1 b.2.2.1) (br (sameS a.2.2.2.1 b.2.2.2.1) (some ((sameS a.2.2.2.2.2.2.2.2.2.2.2.2.2 b.2.2.2.2.2.2.2.2.2.2.2.2.2, ()), (), (), ())) (some ((false, ()), (), (), ()))) (some ((false, ()), (), (), ()))) (some ((false, ()), (), (), ())) ∧ (p = true ↔ plainT a = plainT b) := by
  refine ⟨eqPlain (plainT a) (plainT b), ?_, ?_⟩
  ·unfold toldSame_P eqPlain
   rw [bd_grd l1, bd_grd l2, bd_grd l3]
  ·unfold eqPlain
   obtain ⟨x1, x2, x3, x4, x5, x6, x7, x8, x9, x10, x11⟩ := plainT a
   obtain ⟨y1, y2, y3, y4, y5, y6, y7, y8, y9, y10, y11⟩ := plainT b
   simp only [Prod.mk.injEq, Bool.and_eq_true, beq_iff_eq]
 rw [hP]
 obtain ⟨a1, a2, a3, a4, a5, a6, a7, a8, a9, a10, a11, a12, a13, a14⟩ := a
 obtain ⟨b1, b2, b3, b4, b5, b6, b7, b8, b9, b10, b11, b12, b13, b14⟩ := b
 dsimp only
 have fin : ∀ {q : Bool}, q = sameTellB (a1, a2, a3, a4, a5, a6, a7, a8, a9, a10, a11, a12, a13, a14) (b1, b2, b3, b4, b5, b6, b7, b8, b9, b10, b11, b12, b13, b14) → (some ((q, ()), (), (), ()) : SameRes) = some ((sameTellB (a1, a2, a3, a4, a5, a6, a7, a8, a9, a10, a11, a12, a13, a14) (b1, b2, b3, b4, b5, b6, b7, b8, b9, b10, b11, b12, b13, b14), ()), (), (), ()) := fun e => by rw [e]
 have hne : ∀ {c : Prop}, ((a1, a2, a3, a4, a5, a6, a7, a8, a9, a10, a11, a12, a13, a14) = ((b1, b2, b3, b4, b5, b6, b7, b8, b9, b10, b11, b12, b13, b14) : TellT) → c) → ¬ c → false = sameTellB (a1, a2, a3, a4, a5, a6, a7, a8, a9, a10, a11, a12, a13, a14) (b1, b2, b3, b4, b5, b6, b7, b8, b9, b10, b11, b12, b13, b14) := fun hc h => (decide_eq_false fun e => h (hc e)).symm
 by_cases e1 : plainT (a1, a2, a3, a4, a5, a6, a7, a8, a9, a10, a11, a12, a13, a14) = plainT (b1, b2, b3, b4, b5, b6, b7, b8, b9, b10, b11, b12, b13, b14)
 ·rw [br_t (hp.2 e1)]
  by_cases e2 : a3 = b3
  ·rw [br_t (show sameS a3 b3 = true from decide_eq_true e2)]
   by_cases e3 : a4 = b4
   ·rw [br_t (show sameS a4 b4 = true from decide_eq_true e3)]
    refine fin ?_
    unfold plainT at e1
    simp only [Prod.mk.injEq] at e1
    obtain ⟨f1, f2, f3, f4, f5, f6, f7, f8, f9, f10, f11⟩ := e1
    subst f1 f2 f3 f4 f5 f6 f7 f8 f9 f10 f11 e2 e3
    unfold sameS sameTellB
    by_cases e4 : a14 = b14
    ·subst e4
     rw [decide_eq_true (rfl : a14 = a14)]
     exact (decide_eq_true rfl).symm
    ·rw [decide_eq_false e4]
     exact (decide_eq_false fun e => e4 (by simp only [Prod.mk.injEq] at e; exact e.2.2.2.2.2.2.2.2.2.2.2.2.2)).symm
   ·rw [br_f (show sameS a4 b4 = false from decide_eq_false e3)]
    exact fin (hne (fun e => congrArg (fun t : TellT => t.2.2.2.1) e) e3)
  ·rw [br_f (show sameS a3 b3 = false from decide_eq_false e2)]
   exact fin (hne (fun e => congrArg (fun t : TellT => t.2.2.1) e) e2)
 ·rw [br_f (show p = false by cases p with | false => rfl | true => exact absurd (hp.1 rfl) e1)]
  exact fin (hne (fun e => congrArg plainT e) e1)
end Go.BB
set_option linter.unusedVariables false
namespace Go.BB
open Go Go.Proofs
set_option maxRecDepth 100000
set_option exponentiation.threshold 100000
noncomputable section
abbrev g_growSp : List (Nat × Ctr O0) := []
def growSp_tm : List Tm := []
def growSp_P (K : Nat) (a0 : Unit) (a1 : Int) : Option ((List (Int × Int × Int) × Unit) × Unit × Unit × Unit) := br (decide (a1 < (0 : Int))) none (br (decide (IntKind.i64.wrap (a1 - IntKind.i64.wrap ((0 : Int) - (↑(0 : Nat) : Int))) > (0 : Int))) (br (decide ((0 : Int) < IntKind.i64.wrap (a1 - IntKind.i64.wrap ((0 : Int) - (↑(0 : Nat) : Int))))) (br (decide ((IntKind.i64.wrap (a1 - IntKind.i64.wrap ((0 : Int) - (↑(0 : Nat) : Int)))).toNat * (24 : Nat) ≤ LIM)) (br (decide ((IntKind.i64.wrap (a1 - IntKind.i64.wrap ((0 : Int) - (↑(0 : Nat) : Int)))).toNat ≤ LIM)) (br (decide ((0 : Nat) < (List.replicate (IntKind.i64.wrap (a1 - IntKind.i64.wrap ((0 : Int) - (↑(0 : Nat) : Int)))).toNat ((0 : Int), (0 : Int), (0 : Int))).length)) (some ((List.take (↑(0 : Nat) : Int).toNat (List.replicate (IntKind.i64.wrap (a1 - IntKind.i64.wrap ((0 : Int) - (↑(0 : Nat) : Int)))).toNat ((0 : Int), (0 : Int), (0 : Int))), ()), (), (), ())) none) none) none) none) (some (([], ()), (), (), ())))
theorem growSp_rn (K : Nat) (a0 : Unit) (a1 : Int) : runF (cfgW g_growSp) K f_growSp growSp_tm [.fn 0, .val tI] [.own tSpan] (a0, a1, ()) = growSp_P K a0 a1 := by kernel_rfl
abbrev g_concatSp : List (Nat × Ctr O0) := [(n_growSp, c_growSp)]
def concatSp_tm : List Tm := [[((0 : Nat), none, Sh.val ((Ty.int IntKind.i64).pair ((Ty.int IntKind.i64).pair (Ty.int IntKind.i64))).slice.slice), ((3 : Nat), none, Sh.val (Ty.int IntKind.i64)), ((9 : Nat), none, Sh.val ((Ty.int IntKind.i64).pair ((Ty.int IntKind.i64).pair (Ty.int IntKind.i64))).slice.slice), ((10 : Nat), none, Sh.val (Ty.int IntKind.i64)), ((11 : Nat), none, Sh.val (Ty.int IntKind.i64))], [((6 : Nat), none, Sh.own ((Ty.int IntKind.i64).pair ((Ty.int IntKind.i64).pair (Ty.int IntKind.i64)))), ((25 : Nat), none, Sh.val ((Ty.int IntKind.i64).pair ((Ty.int IntKind.i64).pair (Ty.int IntKind.i64))).slice.slice), ((26 : Nat), none, Sh.val (Ty.int IntKind.i64)), ((27 : Nat), none, Sh.val (Ty.int IntKind.i64))]]
def concatSp_L1 (rec9 : List (Int × Int × Int) × List (List (Int × Int × Int)) × Int × Int × Unit → Option ((List (Int × Int × Int) × Unit) × Unit × Unit)) : List (Int × Int × Int) × List (List (Int × Int × Int)) × Int × Int × Unit → Option ((List (Int × Int × Int) × Unit) × Unit × Unit) := fun (y11, y12, y13, y14, ()) => br (decide (y14 < y13)) (br (decide ((0 : Int) ≤ y14)) (br (decide (y14 < (↑y12.length : Int))) (br (decide ((y11.length + List.length (y12.getD y14.toNat [])) * (24 : Nat) ≤ LIM)) (br (decide (y11.length + List.length (y12.getD y14.toNat []) ≤ LIM)) (rec9 (cat y11 (y12.getD y14.toNat []), y12, y13, IntKind.i64.wrap (y14 + (1 : Int)), ())) none) none) none) none) (some ((y11, ()), (), ()))
def concatSp_L2 (K : Nat) (rec1 : List (List (Int × Int × Int)) × Int × List (List (Int × Int × Int)) × Int × Int × Unit → Option ((List (Int × Int × Int) × Unit) × Unit × Unit)) : List (List (Int × Int × Int)) × Int × List (List (Int × Int × Int)) × Int × Int × Unit → Option ((List (Int × Int × Int) × Unit) × Unit × Unit) := fun (y3, y4, y5, y6, y7, ()) => br (decide (y7 < y6)) (br (decide ((0 : Int) ≤ y7)) (br (decide (y7 < (↑y5.length : Int))) (br (decide (IntKind.i64.wrap (y4 + (↑(List.length (y5.getD y7.toNat [])) : Int)) < (0 : Int))) none (rec1 (y3, IntKind.i64.wrap (y4 + (↑(List.length (y5.getD y7.toNat [])) : Int)), y5, y6, IntKind.i64.wrap (y7 + (1 : Int)), ()))) none) none) (bd (grd (decide ((0 : Int) ≤ y4) && decide (y4 ≤ (1000 : Int))) (([], ()), (), (), ())) fun (x8 : (List (Int × Int × Int) × Unit) × Unit × Unit × Unit) => loopN concatSp_L1 K (x8.1.1, y3, (↑y3.length : Int), (0 : Int), ()))
def concatSp_P (K : Nat) (a0 : List (List (Int × Int × Int))) : Option ((List (Int × Int × Int) × Unit) × Unit × Unit) := loopN (concatSp_L2 K) K (a0, (0 : Int), a0, (↑a0.length : Int), (0 : Int), ())
theorem concatSp_rn (K : Nat) (a0 : List (List (Int × Int × Int))) : runF (cfgW g_concatSp) K f_concatSp concatSp_tm [.val (.slice (.slice tSpan))] [.own tSpan] (a0, ()) = concatSp_P K a0 := by kernel_rfl
abbrev g_spanRight : List (Nat × Ctr O0) := []
def spanRight_tm : List Tm := []
def spanRight_P (K : Nat) (a0 : Int × Int × Int) : Option ((Bool × Unit) × Unit × Unit) := br (decide (a0.1 ≥ (0 : Int))) (br (decide (a0.1 < (4 : Int))) (br (decide (a0.2.1 ≥ (0 : Int))) (br (decide (a0.2.2 ≤ (65536 : Int))) (some ((decide (a0.2.1 < a0.2.2), ()), (), ())) (some ((false, ()), (), ()))) (some ((false, ()), (), ()))) (some ((false, ()), (), ()))) (some ((false, ()), (), ()))
theorem spanRight_rn (K : Nat) (a0 : Int × Int × Int) : runF (cfgW g_spanRight) K f_spanRight spanRight_tm [.val tSpan] [.val .bool] (a0, ()) = spanRight_P K a0 := by kernel_rfl
abbrev g_doBeyond : List (Nat × Ctr O0) := [(n_spanRight, c_spanRight)]
def doBeyond_tm : List Tm := []
def doBeyond_P (K : Nat) (a0 : Int × Int × Int) : Option ((Bool × Unit) × Unit × Unit) := some ((!spanR (a0.1, a0.2.1, a0.2.2), ()), (), ())
theorem doBeyond_rn (K : Nat) (a0 : Int × Int × Int) : runF (cfgW g_doBeyond) K f_doBeyond doBeyond_tm [.val tSpan] [.val .bool] (a0, ()) = doBeyond_P K a0 := by kernel_rfl
abbrev g_indexSp : List (Nat × Ctr O0) := [(n_doBeyond, c_doBeyond)]
def indexSp_tm : List Tm := [[((0 : Nat), none, Sh.val ((Ty.int IntKind.i64).pair ((Ty.int IntKind.i64).pair (Ty.int IntKind.i64))).slice), ((1 : Nat), none, Sh.fn (78 : Nat)), ((7 : Nat), none, Sh.val (Ty.int IntKind.i64)), ((8 : Nat), none, Sh.val (Ty.int IntKind.i64))]]
def indexSp_L1 (rec1 : List (Int × Int × Int) × Unit × Int × Int × Unit → Option ((Int × Unit) × Unit × Unit × Unit)) : List (Int × Int × Int) × Unit × Int × Int × Unit → Option ((Int × Unit) × Unit × Unit × Unit) := fun (y3, y4, y5, y6, ()) => br (decide (y6 < y5)) (br (decide ((0 : Int) ≤ y6)) (br (decide (y6 < (↑y3.length : Int))) (br (!spanR ((y3.getD y6.toNat ((0 : Int), (0 : Int), (0 : Int))).1, (y3.getD y6.toNat ((0 : Int), (0 : Int), (0 : Int))).2.1, (y3.getD y6.toNat ((0 : Int), (0 : Int), (0 : Int))).2.2)) (some ((y6, ()), (), (), ())) (rec1 (y3, (), y5, IntKind.i64.wrap (y6 + (1 : Int)), ()))) none) none) (some (((-1 : Int), ()), (), (), ()))
def indexSp_P (K : Nat) (a0 : List (Int × Int × Int)) (a1 : Unit) : Option ((Int × Unit) × Unit × Unit × Unit) := loopN indexSp_L1 K (a0, (), (↑a0.length : Int), (0 : Int), ())
theorem indexSp_rn (K : Nat) (a0 : List (Int × Int × Int)) (a1 : Unit) : runF (cfgW g_indexSp) K f_indexSp indexSp_tm [.val (.slice tSpan), .fn n_doBeyond] [.val tI] (a0, a1, ()) = indexSp_P K a0 a1 := by kernel_rfl
abbrev g_containsSp : List (Nat × Ctr O0) := [(n_indexSp, c_indexSp n_doBeyond)]
def containsSp_tm : List Tm := []
def containsSp_P (K : Nat) (a0 : List (Int × Int × Int)) (a1 : Unit) : Option ((Bool × Unit) × Unit × Unit × Unit) := bd (grd (lenOk a0) ((idxS a0 (0 : Int), ()), (), (), ())) fun (x1 : (Int × Unit) × Unit × Unit × Unit) => some ((decide (x1.1.1 ≥ (0 : Int)), ()), (), (), ())
theorem containsSp_rn (K : Nat) (a0 : List (Int × Int × Int)) (a1 : Unit) : runF (cfgW g_containsSp) K f_containsSp containsSp_tm [.val (.slice tSpan), .fn n_doBeyond] [.val .bool] (a0, a1, ()) = containsSp_P K a0 a1 := by kernel_rfl
end
end Go.BB
