/- A symbolic machine for the model's code, and what it shows of this seat's functions. No conditions. -/
import Derived.Test.YtnofmeckcimodaaBGstore5
import Derived.Test.YtnofmeckcimodaaBVsame
import Derived.Test.YtnofmeckcimodaaBLawStoreK
import Derived.Test.YtnofmeckcimodaaBLawStoreF
import Derived.Test.YtnofmeckcimodaaRows
import Derived.WalkKit
import Derived.ProofKit
set_option linter.unusedSimpArgs false
set_option linter.unusedVariables false
namespace Go.BB
open Go Go.Proofs
set_option maxRecDepth 100000
theorem plays_2 : lStorePlays_L2 = lStorePlays_L1 := by kernel_rfl
theorem plays_3 : lStorePlays_L3 = lStorePlays_L1 := by kernel_rfl
theorem plays_4 : lStorePlays_L4 = lStorePlays_L1 := by kernel_rfl
abbrev PX := List Int × List Cel × List Int × Sto × Ref × Int × Unit
abbrev PR := Option ((Bool × Unit) × Unit × Unit × Unit × Unit × Unit × Unit × Unit × Unit)
/-- one install on both sides -/
def playB (rec : PX → PR) (y4 : List Int) (y5 : List Cel) (y6 : List Int) (y7 : Sto) (y8 : Ref) (y9 : Int) (l : List Cel) : PR :=
  bd (grd (decide (l.length < (1000000 : Nat))) (((lentS (((0 : Int), (0 : Int)), (7 : Int)) l, l.length), ()), (), ()))
  fun (x13 : ((List ((Int × Int) × Int) × Nat) × Unit) × Unit × Unit) =>
  bd (grd (stoOk (y7.1, y7.2.1, y7.2.2.1, y7.2.2.2.1, ()) && lenOk (List.take x13.1.1.2 (List.drop (0 : Nat) x13.1.1.1)))
      (((instS (y7.1, y7.2.1, y7.2.2.1, y7.2.2.2.1, ()) (List.take x13.1.1.2 (List.drop (0 : Nat) x13.1.1.1))).1.1,
          (instS (y7.1, y7.2.1, y7.2.2.1, y7.2.2.2.1, ()) (List.take x13.1.1.2 (List.drop (0 : Nat) x13.1.1.1))).1.2, ()),
        (instS (y7.1, y7.2.1, y7.2.2.1, y7.2.2.2.1, ()) (List.take x13.1.1.2 (List.drop (0 : Nat) x13.1.1.1))).2, (), ()))
  fun (x14 : (Int × Int × Unit) × (Int × Int × Int × List ((Int × Int) × List (Int × Int)) × Unit) × Unit × Unit) =>
  bd (grd (refOk (y8.1, y8.2.1, y8.2.2.1, ()) && (lenOk l && decide (l.length ≤ (100000 : Nat))))
      (((rinstS (y8.1, y8.2.1, y8.2.2.1, ()) l).1.1, (rinstS (y8.1, y8.2.1, y8.2.2.1, ()) l).1.2, ()), (rinstS (y8.1, y8.2.1, y8.2.2.1, ()) l).2, (), ()))
  fun (x15 : (Int × Int × Unit) × (Int × Int × List ((Int × Int) × List (Int × Int)) × Unit) × Unit × Unit) =>
  br (x14.1.1 != x15.1.1) (some ((false, ()), (), (), (), (), (), (), (), ()))
  (br (x14.1.2.1 != x15.1.2.1) (some ((false, ()), (), (), (), (), (), (), (), ()))
  (bd (grd (staysS (((0 : Int), (0 : Int)), (7 : Int)) x13.1.1.1 x13.1.1.2 l && decide (l.length < (1000000 : Nat))) ((true, ()), x13.1.1.1, (), ()))
  fun (x16 : (Bool × Unit) × List ((Int × Int) × Int) × Unit × Unit) =>
  br (!x16.1.1) (some ((false, ()), (), (), (), (), (), (), (), ()))
  (bd (grd (likeB (x14.2.1.1, x14.2.1.2.1, x14.2.1.2.2.1, x14.2.1.2.2.2.1, ()) (x15.2.1.1, x15.2.1.2.1, x15.2.1.2.2.1, ()))
      ((true, ()), (x14.2.1.1, x14.2.1.2.1, x14.2.1.2.2.1, x14.2.1.2.2.2.1, ()), (), (), (), ()))
  fun (x17 : (Bool × Unit) × (Int × Int × Int × List ((Int × Int) × List (Int × Int)) × Unit) × Unit × Unit × Unit × Unit) =>
  br (!x17.1.1) (some ((false, ()), (), (), (), (), (), (), (), ()))
  (rec (y4, y5, y6, (x17.2.1.1, x17.2.1.2.1, x17.2.1.2.2.1, x17.2.1.2.2.2.1, ()), (x15.2.1.1, x15.2.1.2.1, x15.2.1.2.2.1, ()), IntKind.i64.wrap (y9 + (1 : Int)), ())))))
/-- one gc on both sides -/
def playG (rec : PX → PR) (y4 : List Int) (y5 : List Cel) (y6 : List Int) (y7 : Sto) (y8 : Ref) (y9 : Int) (q : Int) : PR :=
  bd (grd (stoOk (y7.1, y7.2.1, y7.2.2.1, y7.2.2.2.1, ()) && nodM y7.2.2.2.1) ((goneM q y7.2.2.2.1, ()), gcS (y7.1, y7.2.1, y7.2.2.1, y7.2.2.2.1, ()) q, (), ()))
  fun (x56 : (Int × Unit) × (Int × Int × Int × List ((Int × Int) × List (Int × Int)) × Unit) × Unit × Unit) =>
  bd (grd (refOk (y8.1, y8.2.1, y8.2.2.1, ())) ((goneM q y8.2.2.1, ()), rgcS (y8.1, y8.2.1, y8.2.2.1, ()) q, (), ()))
  fun (x57 : (Int × Unit) × (Int × Int × List ((Int × Int) × List (Int × Int)) × Unit) × Unit × Unit) =>
  br (x56.1.1 != x57.1.1) (some ((false, ()), (), (), (), (), (), (), (), ()))
  (bd (grd (likeB (x56.2.1.1, x56.2.1.2.1, x56.2.1.2.2.1, x56.2.1.2.2.2.1, ()) (x57.2.1.1, x57.2.1.2.1, x57.2.1.2.2.1, ()))
      ((true, ()), (x56.2.1.1, x56.2.1.2.1, x56.2.1.2.2.1, x56.2.1.2.2.2.1, ()), (), (), (), ()))
  fun (x58 : (Bool × Unit) × (Int × Int × Int × List ((Int × Int) × List (Int × Int)) × Unit) × Unit × Unit × Unit × Unit) =>
  br (!x58.1.1) (some ((false, ()), (), (), (), (), (), (), (), ()))
  (rec (y4, y5, y6, (x58.2.1.1, x58.2.1.2.1, x58.2.1.2.2.1, x58.2.1.2.2.2.1, ()), (x57.2.1.1, x57.2.1.2.1, x57.2.1.2.2.1, ()), IntKind.i64.wrap (y9 + (1 : Int)), ())))
/-- cells of some numbers, or the raw ones -/
def playC (rec : PX → PR) (y4 : List Int) (y5 : List Cel) (y6 : List Int) (y7 : Sto) (y8 : Ref) (y9 : Int) (n : Int) : PR :=
  bd (grd (decide (y4.length ≤ (100000 : Nat))) ((List.take ((1 : Nat) + y4.length % (4 : Nat)) (List.drop (n % ((↑y4.length : Int) + (1 : Int))).toNat y4), ()), (), (), ()))
  fun (x12 : (List Int × Unit) × Unit × Unit × Unit) =>
  br (!false) (br (n.tmod (11 : Int) == (0 : Int)) (playB rec y4 y5 y6 y7 y8 y9 y5) (playB rec y4 y5 y6 y7 y8 y9 (cellsS x12.1.1))) none
def playS (rec : PX → PR) (y4 : List Int) (y5 : List Cel) (y6 : List Int) (y7 : Sto) (y8 : Ref) (y9 : Int) (n : Int) (a : Int) : PR :=
  br (a == (0 : Int)) (playC rec y4 y5 y6 y7 y8 y9 n)
  (br (a == (1 : Int)) (playC rec y4 y5 y6 y7 y8 y9 n)
  (br (a == (2 : Int)) (playC rec y4 y5 y6 y7 y8 y9 n)
  (br (a == (3 : Int)) (playC rec y4 y5 y6 y7 y8 y9 n)
  (br (a == (4 : Int)) (playG rec y4 y5 y6 y7 y8 y9 (IntKind.u64.wrap (y8.1 - IntKind.u64.wrap (n.tmod (7 : Int)))))
  (br (a == (5 : Int)) (playG rec y4 y5 y6 y7 y8 y9 (IntKind.u64.wrap (y8.1 - IntKind.u64.wrap (n.tmod (7 : Int)))))
  (bd (grd (likeB (y7.1, y7.2.1, y7.2.2.1, y7.2.2.2.1, ()) (y8.1, y8.2.1, y8.2.2.1, ())) ((true, ()), (y7.1, y7.2.1, y7.2.2.1, y7.2.2.2.1, ()), (), (), (), ()))
    fun (x62 : (Bool × Unit) × (Int × Int × Int × List ((Int × Int) × List (Int × Int)) × Unit) × Unit × Unit × Unit × Unit) =>
    br (!x62.1.1) (some ((false, ()), (), (), (), (), (), (), (), ()))
    (rec (y4, y5, y6, (x62.2.1.1, x62.2.1.2.1, x62.2.1.2.2.1, x62.2.1.2.2.2.1, ()), (y8.1, y8.2.1, y8.2.2.1, ()), IntKind.i64.wrap (y9 + (1 : Int)), ()))))))))
def playL (rec : PX → PR) : PX → PR := fun (y4, y5, y6, y7, y8, y9, ()) =>
  br (decide (y9 < (↑y6.length : Int)))
  (br (decide ((0 : Int) ≤ y9)) (br (decide (y9 < (↑y6.length : Int)))
    (bd (grd (true && (true && decide ((1000 : Int) < (4611686018427387904 : Int)))) ((digitS (y6.getD y9.toNat (0 : Int)) (6 : Int) (1000 : Int), ()), (), (), (), ()))
      fun (x10 : (Int × Unit) × Unit × Unit × Unit × Unit) =>
      br (!false) (br (decide ((0 : Int) ≤ y9)) (br (decide (y9 < (↑y6.length : Int)))
        (bd (grd (true && decide ((6 : Int) < (4611686018427387904 : Int))) ((y6.getD y9.toNat (0 : Int) % (6 : Int), ()), (), (), ()))
          fun (x11 : (Int × Unit) × Unit × Unit × Unit) => playS rec y4 y5 y6 y7 y8 y9 x10.1.1 x11.1.1) none) none) none) none) none)
  (bd (grd (likeB (y7.1, y7.2.1, y7.2.2.1, y7.2.2.2.1, ()) (y8.1, y8.2.1, y8.2.2.1, ())) ((true, ()), (y7.1, y7.2.1, y7.2.2.1, y7.2.2.2.1, ()), (), (), (), ()))
    fun (x63 : (Bool × Unit) × (Int × Int × Int × List ((Int × Int) × List (Int × Int)) × Unit) × Unit × Unit × Unit × Unit) =>
    some ((x63.1.1, ()), (), (), (), (), (), (), (), ()))
theorem brf0 {α : Type} {x y : α} : br false x y = y := rfl
theorem brt0 {α : Type} {x y : α} : br true x y = x := rfl
theorem plays_1 : lStorePlays_L1 = playL := by kernel_rfl
/-- ahead of a round -/
structure PlI (ks : List Int) (raw : List Cel) (ops : List Int) (y : PX) (i : Nat) (s : Sto) (x : Ref) : Prop where
  eq : y = (ks, raw, ops, s, x, (i : Int), ())
  hi : i ≤ ops.length
  tw : Twin s x
  few : s.2.1 ≤ 20 * (i : Int)
theorem instS_few {s : Sto} (l : List Cel) : (instS s l).2.2.1 ≤ s.2.1 + l.length := by
  unfold instS
  split
  · show s.2.1 ≤ _; omega
  · split
    · show s.2.1 ≤ _; omega
    · split
      · show s.2.1 ≤ _; omega
      · exact Int.le_refl _
theorem rows_chs {l : List Row} (h : ∀ p ∈ l, p.2 ≠ []) : l.length ≤ chsLen l := by
  induction l with
  | nil => exact Nat.le_refl _
  | cons a l ih =>
    rw [chsLen_cons, List.length_cons]
    have := ih fun p hp => h p (List.mem_cons_of_mem _ hp)
    have : 0 < a.2.length := List.length_pos_iff.2 (h a List.mem_cons_self)
    omega
theorem playB_ok {ks : List Int} {raw : List Cel} {ops : List Int} (ho : ops.length ≤ 40) {i : Nat} {s : Sto} {x : Ref} (h : PlI ks raw ops (ks, raw, ops, s, x, (i : Int), ()) i s x) (hi : i < ops.length) {rec : PX → PR}
    (hrec : ∀ y s' x', PlI ks raw ops y (i + 1) s' x' → rec y = some ((true, ()), (), (), (), (), (), (), (), ())) (l : List Cel) (hl : l.length ≤ 20) :
    playB rec ks raw ops s x (i : Int) l = some ((true, ()), (), (), (), (), (), (), (), ()) := by
  have hs := h.tw.sok
  have hx := h.tw.xok
  have hf := h.few
  have e1 := h.tw.like.len
  have e2 := hs.len
  have e3 := rows_chs fun p hp => (hx.rows p hp).1
  have ht := twin_inst h.tw l (by omega) (by omega)
  have hfew := instS_few (s := s) l
  unfold playB
  simp only [stoEta, refEta]
  rw [bd_grd (decide_eq_true (by omega))]
  simp only
  rw [take_drop0, bd_grd (okSt hs (by omega)), bd_grd (and_t ((refOk_iff x).2 hx) (and_t (lenOk_of (by omega)) (decide_eq_true (by omega))))]
  simp only [stoEta, refEta]
  rw [br_f (by rw [ht.1]; simp), br_f (by rw [ht.1]; simp), bd_grd (and_t (staysS_lent _ l) (decide_eq_true (by omega)))]
  rw [brNT, bd_grd (likeB_of ht.2)]
  simp only [stoEta, refEta]
  rw [brNT, wrapI (by omega) (by omega)]
  exact hrec _ _ _ ⟨rfl, by omega, ht.2, by
    have : (instS s l).2.2.1 ≤ s.2.1 + l.length := hfew
    push_cast
    exact Int.le_trans this (by omega)⟩
theorem playG_ok {ks : List Int} {raw : List Cel} {ops : List Int} (ho : ops.length ≤ 40) {i : Nat} {s : Sto} {x : Ref} (h : PlI ks raw ops (ks, raw, ops, s, x, (i : Int), ()) i s x) (hi : i < ops.length) {rec : PX → PR}
    (hrec : ∀ y s' x', PlI ks raw ops y (i + 1) s' x' → rec y = some ((true, ()), (), (), (), (), (), (), (), ())) (q : Int) :
    playG rec ks raw ops s x (i : Int) q = some ((true, ()), (), (), (), (), (), (), (), ()) := by
  have hs := h.tw.sok
  have hx := h.tw.xok
  have hf := h.few
  have ht := twin_gc h.tw q
  have hg := goneM_nonneg q s.2.2.2.1
  unfold playG
  simp only [stoEta, refEta]
  rw [bd_grd (and_t (okSt1 hs) h.tw.nod), bd_grd ((refOk_iff x).2 hx)]
  simp only [stoEta, refEta]
  rw [br_f (by rw [ht.1]; simp), bd_grd (likeB_of ht.2)]
  simp only [stoEta, refEta]
  rw [brNT, wrapI (by omega) (by omega)]
  exact hrec _ _ _ ⟨rfl, by omega, ht.2, by show s.2.1 - goneM q s.2.2.2.1 ≤ _; push_cast; omega⟩
theorem playC_ok {ks : List Int} {raw : List Cel} {ops : List Int} (hk : ks.length ≤ 60) (hr : raw.length ≤ 20) (ho : ops.length ≤ 40) {i : Nat} {s : Sto} {x : Ref} (h : PlI ks raw ops (ks, raw, ops, s, x, (i : Int), ()) i s x) (hi : i < ops.length) {rec : PX → PR}
    (hrec : ∀ y s' x', PlI ks raw ops y (i + 1) s' x' → rec y = some ((true, ()), (), (), (), (), (), (), (), ())) (n : Int) :
    playC rec ks raw ops s x (i : Int) n = some ((true, ()), (), (), (), (), (), (), (), ()) := by
  unfold playC
  rw [bd_grd (decide_eq_true (by omega)), brNT', playB_ok ho h hi hrec raw hr, playB_ok ho h hi hrec _ (cellsS_len _)]
  cases (n.tmod 11 == 0) <;> rfl
theorem plays_ok {ks : List Int} {raw : List Cel} {ops : List Int} (hk : ks.length ≤ 60) (hr : raw.length ≤ 20) (ho : ops.length ≤ 40) (f m : Int) (h0 : 0 ≤ f) (h1 : f ≤ 18446744073709551615) :
    loopN lStorePlays_L1 50 (ks, raw, ops, stNewS f m, rstNewS f m, 0, ()) = some ((true, ()), (), (), (), (), (), (), (), ()) := by
  rw [plays_1]
  refine loopN_meas (fun y => ops.length - y.2.2.2.2.2.1.toNat) (fun y => ∃ i s x, PlI ks raw ops y i s x) (fun _ => some ((true, ()), (), (), (), (), (), (), (), ())) ?_ 50 _
    ⟨0, stNewS f m, rstNewS f m, rfl, by omega, twin_new m h0 h1, by show (0 : Int) ≤ _; omega⟩ (by simp only; omega)
  rintro y ⟨i, s, x, h⟩ rec hrec
  obtain rfl := h.eq
  have hi := h.hi
  have hrec2 : ∀ y s' x', i < ops.length → PlI ks raw ops y (i + 1) s' x' → rec y = some ((true, ()), (), (), (), (), (), (), (), ()) := by
    intro y s' x' hlt hy
    have hy1 := hy.hi
    exact hrec y ⟨_, _, _, hy⟩ (by rw [hy.eq]; simp only; omega)
  simp only [playL, stoEta, refEta]
  by_cases hlt : i < ops.length
  · rw [br_dt (by omega), br_dt (by omega), br_dt (by omega), bd_grd (by decide), brNT', br_dt (by omega), br_dt (by omega), bd_grd (by decide)]
    simp only
    generalize ops.getD (i : Int).toNat 0 = op
    unfold playS
    rw [playG_ok ho h hlt fun y s' x' => hrec2 y s' x' hlt, playC_ok hk hr ho h hlt fun y s' x' => hrec2 y s' x' hlt]
    have a0 := Int.emod_nonneg op (show (6 : Int) ≠ 0 by decide)
    have a1 := Int.emod_lt_of_pos op (show (0 : Int) < 6 by decide)
    generalize op % 6 = a at a0 a1
    have : a = 0 ∨ a = 1 ∨ a = 2 ∨ a = 3 ∨ a = 4 ∨ a = 5 := by omega
    rcases this with rfl | rfl | rfl | rfl | rfl | rfl <;> rfl
  · rw [br_df (by omega), bd_grd (likeB_of h.tw)]
theorem u64_range (n : Int) : 0 ≤ IntKind.u64.wrap n ∧ IntKind.u64.wrap n ≤ 18446744073709551615 := by
  simp [IntKind.wrap, IntKind.signed, IntKind.bits]; omega
theorem lv_StorePlays : Valid Try.prog n_lStorePlays ⟨valsOf [tU, .bool, tI, .bool, .slice tI, .slice tCell, .slice tI], [.val .bool], Fok (tys := [tU, .bool, tI, .bool, .slice tI, .slice tCell, .slice tI]) (fun x => isU x.1) ((), (), (), (), (), (), (), ())⟩ := by
  refine valid_law mixed hf_lStorePlays (by kernel_rfl) rfl (ts := tmpsOf f_lStorePlays.results.toList) (by kernel_rfl) (cfg := cfgW g_lStorePlays) tt_ok
    (Γok_cons v_awake17 (Γok_cons v_within (Γok_cons v_digit (Γok_cons v_stNew (Γok_cons v_rstNew (Γok_cons v_stInstall (Γok_cons v_rstInstall (Γok_cons v_lentCells (Γok_cons v_staysCells (Γok_cons v_stGc (Γok_cons v_rstGc (Γok_cons v_cells (Γok_cons v_someK (Γok_cons v_sameSt Γok_nil)))))))))))))) lStorePlays_tm (by kernel_rfl) ?_
  rintro ⟨(f : Int), (e : Bool), (m : Int), (near : Bool), (ks : List Int), (raw : List Cel), (ops : List Int), ⟨⟩⟩ hu
  have hf := isU_of hu
  dsimp only at hf
  refine ⟨50, (lStorePlays_rn _ _ _ _ _ _ _ _).trans ?_⟩
  unfold lStorePlays_P
  by_cases h1 : (ks.length : Int) > 60
  · rw [br_dt h1]; rfl
  by_cases h2 : (raw.length : Int) > 20
  · rw [br_df h1, br_dt h2]; rfl
  by_cases h3 : (ops.length : Int) > 40
  · rw [br_df h1, br_df h2, br_dt h3]; rfl
  rw [br_df h1, br_df h2, br_df h3, brNT, plays_2, plays_3, plays_4]
  simp only [stoEta, refEta]
  have hp := fun f m h0 h1 => plays_ok (ks := ks) (raw := raw) (ops := ops) (by omega) (by omega) (by omega) f m h0 h1
  have hw := u64_range (18446744073709551615 - f.tmod 40)
  cases near
  · rw [brf0]
    cases e
    · rw [brf0]
      exact hp f m hf.1 hf.2
    · rw [brt0, brNT']
      exact hp _ m hw.1 hw.2
  · rw [brt0, bd_grd (by decide)]
    simp only
    cases e
    · rw [brf0]
      exact hp f _ hf.1 hf.2
    · rw [brt0, brNT']
      exact hp _ _ hw.1 hw.2
end Go.BB
set_option linter.unusedSimpArgs false
set_option linter.unusedVariables false
namespace Go.Proofs.Ytnofmeckcimodaa
open Go.BB Go.ChangeShapes Go.WideShapes Go.ChangeAt Go.RowKit
namespace Bb
theorem own : ownKnob Try.prog.godebug = none := by kernel_rfl
theorem laidOut : laidOutB Try.prog = true := by kernel_rfl
theorem reads (ts : List Nat) (h : (ts.all fun t => Try.prog.readableRec t && decide (t < Try.prog.types.size)) = true) : ∀ t ∈ ts, Try.prog.readableRec t = true ∧ t < Try.prog.types.size := by
  intro t ht
  have := List.all_eq_true.1 h t ht
  simpa using this
end Bb
namespace storeFull
set_option maxRecDepth 100000 in
theorem lifted (os : Os) (started : os.Started) (H : Type) (enc : TypeId × Value → H) :
    ReturnsInHanded {} Try.checked os 5 .any (Rows.storeFullSpec.pre6 enc Try.prog Try.f5 Rows.storeFullRow.domain false) (Rows.storeFullSpec.post enc Try.prog Try.f5 false true false false) :=
  law_lifted2 (C := Try.checked) (O := O0) (tys := [tI, tI]) Bb.own started (by kernel_rfl) Try.func5
    (ChangeSpec.witness6 (enc := enc) (C := Try.checked) false ⟨#[], #[.int .i64 0, .int .i64 0], []⟩ 8 (by kernel_rfl) (by kernel_rfl) (by kernel_rfl) (by kernel_rfl))
    Bb.laidOut (by kernel_rfl) (Bb.reads _ (by kernel_rfl)) rfl Try.underlying4 rfl (fun ds h => by match ds, h with | [_, _], _ => rfl) lv_StoreFull (fun x h => ⟨_, grd_t rfl⟩)
theorem over : Rows.storeFullRow.holds Try.pinned (OpenSpec.ofChange Rows.storeFullSpec) :=
  OpenClaim.holds_of_wide 5 Try.f5 rfl rfl rfl rfl rfl rfl rfl ⟨rfl, rfl, rfl, rfl, rfl⟩ rfl rfl rfl rfl rfl (by kernel_rfl) Try.func5 (by kernel_rfl)
    (of_decide_eq_true (by kernel_rfl)) (by unfold Func.isWrapper; first | (rw [if_pos (by decide +kernel)]; kernel_rfl) | (rw [if_neg (by decide +kernel)]; exact ⟨rfl, rfl⟩))
    (fun os started H enc _ => lifted os started H enc)
end storeFull
/-- The row StoreFull. -/
theorem storeFull_holds : Rows.StoreFullSaid := storeFull.over
#print axioms storeFull_holds
namespace storeKeeps
set_option maxRecDepth 100000 in
theorem lifted (os : Os) (started : os.Started) (H : Type) (enc : TypeId × Value → H) :
    ReturnsInHanded {} Try.checked os 4 .any (Rows.storeKeepsSpec.pre6 enc Try.prog Try.f4 Rows.storeKeepsRow.domain false) (Rows.storeKeepsSpec.post enc Try.prog Try.f4 false true false false) :=
  law_lifted2 (C := Try.checked) (O := O0) (tys := [.slice tI, .slice tI, tI]) Bb.own started (by kernel_rfl) Try.func4
    (ChangeSpec.witness6 (enc := enc) (C := Try.checked) false ⟨#[], #[.slice none 0 0, .slice none 0 0, .int .i64 0], []⟩ 8 (by kernel_rfl) (by kernel_rfl) (by kernel_rfl) (by kernel_rfl))
    Bb.laidOut (by kernel_rfl) (Bb.reads _ (by kernel_rfl)) rfl Try.underlying4 rfl (fun ds h => by match ds, h with | [_, _, _], _ => rfl) lv_StoreKeeps (fun x h => ⟨_, grd_t rfl⟩)
theorem over : Rows.storeKeepsRow.holds Try.pinned (OpenSpec.ofChange Rows.storeKeepsSpec) :=
  OpenClaim.holds_of_wide 4 Try.f4 rfl rfl rfl rfl rfl rfl rfl ⟨rfl, rfl, rfl, rfl, rfl⟩ rfl rfl rfl rfl rfl (by kernel_rfl) Try.func4 (by kernel_rfl)
    (of_decide_eq_true (by kernel_rfl)) (by unfold Func.isWrapper; first | (rw [if_pos (by decide +kernel)]; kernel_rfl) | (rw [if_neg (by decide +kernel)]; exact ⟨rfl, rfl⟩))
    (fun os started H enc _ => lifted os started H enc)
end storeKeeps
/-- The row StoreKeeps. -/
theorem storeKeeps_holds : Rows.StoreKeepsSaid := storeKeeps.over
#print axioms storeKeeps_holds
namespace storePlays
set_option maxRecDepth 100000 in
theorem lifted (os : Os) (started : os.Started) (H : Type) (enc : TypeId × Value → H) :
    ReturnsInHanded {} Try.checked os 6 .any (Rows.storePlaysSpec.pre6 enc Try.prog Try.f6 Rows.storePlaysRow.domain false) (Rows.storePlaysSpec.post enc Try.prog Try.f6 false true false false) :=
  law_lifted2 (C := Try.checked) (O := O0) (tys := [tU, .bool, tI, .bool, .slice tI, .slice tCell, .slice tI]) Bb.own started (by kernel_rfl) Try.func6
    (ChangeSpec.witness6 (enc := enc) (C := Try.checked) false ⟨#[], #[.int .u64 0, .bool false, .int .i64 0, .bool false, .slice none 0 0, .slice none 0 0, .slice none 0 0], []⟩ 8 (by kernel_rfl) (by kernel_rfl) (by kernel_rfl) (by kernel_rfl))
    Bb.laidOut (by kernel_rfl) (Bb.reads _ (by kernel_rfl)) rfl Try.underlying4 rfl (fun ds h => by match ds, h with | [_, _, _, _, _, _, _], _ => rfl) lv_StorePlays (fun x h => ⟨_, grd_t (isU_in h.1)⟩)
theorem over : Rows.storePlaysRow.holds Try.pinned (OpenSpec.ofChange Rows.storePlaysSpec) :=
  OpenClaim.holds_of_wide 6 Try.f6 rfl rfl rfl rfl rfl rfl rfl ⟨rfl, rfl, rfl, rfl, rfl⟩ rfl rfl rfl rfl rfl (by kernel_rfl) Try.func6 (by kernel_rfl)
    (of_decide_eq_true (by kernel_rfl)) (by unfold Func.isWrapper; first | (rw [if_pos (by decide +kernel)]; kernel_rfl) | (rw [if_neg (by decide +kernel)]; exact ⟨rfl, rfl⟩))
    (fun os started H enc _ => lifted os started H enc)
end storePlays
/-- The row StorePlays. -/
theorem storePlays_holds : Rows.StorePlaysSaid := storePlays.over
#print axioms storePlays_holds
end Go.Proofs.Ytnofmeckcimodaa
