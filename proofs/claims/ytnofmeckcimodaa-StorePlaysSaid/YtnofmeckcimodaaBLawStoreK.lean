/- A symbolic machine for the model's code, and what it shows of this seat's functions. No conditions. -/
import Derived.Test.YtnofmeckcimodaaBN
import Derived.Test.YtnofmeckcimodaaBGstore3
import Derived.Test.YtnofmeckcimodaaBSView
set_option linter.unusedSimpArgs false
set_option linter.unusedVariables false
namespace Go.BB
open Go Go.Proofs
set_option maxRecDepth 100000
set_option exponentiation.threshold 100000
noncomputable section
abbrev g_lStoreKeeps : List (Nat × Ctr O0) := [(n_awake17, c_awake17), (n_within, c_within), (n_digit, c_digit), (n_stNew, c_stNew), (n_stInstall, c_stInstall), (n_stLast, c_stLast), (n_stGc, c_stGc), (n_stRead, c_stRead), (n_cells, c_cells), (n_someK, c_someK)]
def lStoreKeeps_tm : List Tm := [[((0 : Nat), none, Sh.val (Ty.int IntKind.i64).slice), ((1 : Nat), none, Sh.val (Ty.int IntKind.i64).slice),
    ((2 : Nat), none, Sh.val (Ty.int IntKind.i64)),
    ((7 : Nat), none,
      ((Sh.val (Ty.int IntKind.u64)).cons
          ((Sh.val (Ty.int IntKind.i64)).cons
            ((Sh.val (Ty.int IntKind.i64)).cons
              ((Sh.map (MapK.mapS ((Ty.int IntKind.i64).pair (Ty.int IntKind.i64)) ((Ty.int IntKind.u64).pair (Ty.int IntKind.u16)))).cons
                Sh.unit)))).ptr),
    ((8 : Nat), none, Sh.val (Ty.int IntKind.u64)), ((9 : Nat), none, Sh.arrp (16 : Nat) (Ty.int IntKind.u16)),
    ((10 : Nat), none, Sh.val (Ty.int IntKind.i64))],
  [((0 : Nat), none, Sh.val (Ty.int IntKind.i64).slice), ((1 : Nat), none, Sh.val (Ty.int IntKind.i64).slice),
    ((2 : Nat), none, Sh.val (Ty.int IntKind.i64)),
    ((7 : Nat), none,
      ((Sh.val (Ty.int IntKind.u64)).cons
          ((Sh.val (Ty.int IntKind.i64)).cons
            ((Sh.val (Ty.int IntKind.i64)).cons
              ((Sh.map (MapK.mapS ((Ty.int IntKind.i64).pair (Ty.int IntKind.i64)) ((Ty.int IntKind.u64).pair (Ty.int IntKind.u16)))).cons
                Sh.unit)))).ptr),
    ((8 : Nat), none, Sh.val (Ty.int IntKind.u64)), ((9 : Nat), none, Sh.arrp (16 : Nat) (Ty.int IntKind.u16)),
    ((10 : Nat), none, Sh.val (Ty.int IntKind.i64)), ((11 : Nat), none, Sh.val (Ty.int IntKind.i64))]]
def lStoreKeeps_L1 (rec2 : List Int ×
    List Int × Int × (Int × Int × Int × List ((Int × Int) × List (Int × Int)) × Unit) × Int × List Int × Int × Unit →
  Option
    ((Bool × Unit) ×
      Unit ×
        Unit ×
          Unit ×
            Unit)) (rec11 : List Int ×
    List Int × Int × (Int × Int × Int × List ((Int × Int) × List (Int × Int)) × Unit) × Int × List Int × Int × Int × Unit →
  Option
    ((Bool × Unit) ×
      Unit ×
        Unit ×
          Unit ×
            Unit)) : List Int ×
    List Int × Int × (Int × Int × Int × List ((Int × Int) × List (Int × Int)) × Unit) × Int × List Int × Int × Int × Unit →
  Option ((Bool × Unit) × Unit × Unit × Unit × Unit) := fun (y13, y14, y15, y16, y17, y18, y19, y20, ()) =>
  br (decide (y20 < (16 : Int)))
  (br (!false)
    (br (!false)
      (br (y19 == y15)
        (bd
          (grd (stoOk (y16.1, y16.2.1, y16.2.2.1, y16.2.2.2.1, ()))
            ((atV (chnOf y16.2.2.2.1 (y20.tmod (4 : Int), IntKind.i64.wrap (y20.tdiv (4 : Int)))) y16.1, ()),
              (y16.1, y16.2.1, y16.2.2.1, y16.2.2.2.1, ()), (), (), ()))
          fun (x21 : (Int × Unit) × (Int × Int × Int × List ((Int × Int) × List (Int × Int)) × Unit) × Unit × Unit × Unit) =>
          br (decide ((0 : Int) ≤ y20))
            (br (decide (y20 < (↑(16 : Nat) : Int)))
              (br (decide (y19 ≥ y15))
                (bd
                  (grd (stoOk (x21.2.1.1, x21.2.1.2.1, x21.2.1.2.2.1, x21.2.1.2.2.2.1, ()))
                    ((atV (chnOf x21.2.1.2.2.2.1 (y20.tmod (4 : Int), IntKind.i64.wrap (y20.tdiv (4 : Int)))) y16.1, ()),
                      (x21.2.1.1, x21.2.1.2.1, x21.2.1.2.2.1, x21.2.1.2.2.2.1, ()), (), (), ()))
                  fun (x22 : (Int × Unit) × (Int × Int × Int × List ((Int × Int) × List (Int × Int)) × Unit) × Unit × Unit × Unit) =>
                  br (decide ((0 : Int) ≤ y20))
                    (br (decide (y20 < (↑(16 : Nat) : Int)))
                      (br (x22.1.1 != (y18.set y20.toNat x21.1.1).getD y20.toNat (0 : Int))
                        (some ((false, ()), (), (), (), ()))
                        (rec11
                          (y13, y14, y15, (x22.2.1.1, x22.2.1.2.1, x22.2.1.2.2.1, x22.2.1.2.2.2.1, ()), y16.1, y18.set y20.toNat x21.1.1, y19,
                            IntKind.i64.wrap (y20 + (1 : Int)), ())))
                      none)
                    none)
                (rec11
                  (y13, y14, y15, (x21.2.1.1, x21.2.1.2.1, x21.2.1.2.2.1, x21.2.1.2.2.2.1, ()), y16.1, y18.set y20.toNat x21.1.1, y19,
                    IntKind.i64.wrap (y20 + (1 : Int)), ())))
              none)
            none)
        (br (decide (y19 ≥ y15))
          (bd
            (grd (stoOk (y16.1, y16.2.1, y16.2.2.1, y16.2.2.2.1, ()))
              ((atV (chnOf y16.2.2.2.1 (y20.tmod (4 : Int), IntKind.i64.wrap (y20.tdiv (4 : Int)))) y17, ()),
                (y16.1, y16.2.1, y16.2.2.1, y16.2.2.2.1, ()), (), (), ()))
            fun (x23 : (Int × Unit) × (Int × Int × Int × List ((Int × Int) × List (Int × Int)) × Unit) × Unit × Unit × Unit) =>
            br (decide ((0 : Int) ≤ y20))
              (br (decide (y20 < (↑(16 : Nat) : Int)))
                (br (x23.1.1 != y18.getD y20.toNat (0 : Int)) (some ((false, ()), (), (), (), ()))
                  (rec11
                    (y13, y14, y15, (x23.2.1.1, x23.2.1.2.1, x23.2.1.2.2.1, x23.2.1.2.2.2.1, ()), y17, y18, y19,
                      IntKind.i64.wrap (y20 + (1 : Int)), ())))
                none)
              none)
          (rec11
            (y13, y14, y15, (y16.1, y16.2.1, y16.2.2.1, y16.2.2.2.1, ()), y17, y18, y19, IntKind.i64.wrap (y20 + (1 : Int)), ()))))
      none)
    none)
  (br (y19 == (↑y14.length : Int)) (some ((true, ()), (), (), (), ()))
    (br (decide ((0 : Int) ≤ y19))
      (br (decide (y19 < (↑y14.length : Int)))
        (bd
          (grd (true && (true && decide ((1000 : Int) < (4611686018427387904 : Int))))
            ((digitS (y14.getD y19.toNat (0 : Int)) (3 : Int) (1000 : Int), ()), (), (), (), ()))
          fun (x24 : (Int × Unit) × Unit × Unit × Unit × Unit) =>
          br (decide ((0 : Int) ≤ y19))
            (br (decide (y19 < (↑y14.length : Int)))
              (bd
                (grd (true && decide ((3 : Int) < (4611686018427387904 : Int)))
                  ((y14.getD y19.toNat (0 : Int) % (3 : Int), ()), (), (), ()))
                fun (x25 : (Int × Unit) × Unit × Unit × Unit) =>
                br (x25.1.1 == (0 : Int))
                  (br (decide (y19 ≥ y15))
                    (br (!false)
                      (bd
                        (grd (stoOk (y16.1, y16.2.1, y16.2.2.1, y16.2.2.2.1, ()) && nodM y16.2.2.2.1)
                          ((goneM (IntKind.u64.wrap (y17 - minI y17 (IntKind.u64.wrap (x24.1.1.tmod (3 : Int))))) y16.2.2.2.1, ()),
                            gcS (y16.1, y16.2.1, y16.2.2.1, y16.2.2.2.1, ())
                              (IntKind.u64.wrap (y17 - minI y17 (IntKind.u64.wrap (x24.1.1.tmod (3 : Int))))),
                            (), ()))
                        fun (x26 : (Int × Unit) × (Int × Int × Int × List ((Int × Int) × List (Int × Int)) × Unit) × Unit × Unit) =>
                        rec2
                          (y13, y14, y15, (x26.2.1.1, x26.2.1.2.1, x26.2.1.2.2.1, x26.2.1.2.2.2.1, ()), y17, y18,
                            IntKind.i64.wrap (y19 + (1 : Int)), ()))
                      none)
                    (bd
                      (grd (stoOk (y16.1, y16.2.1, y16.2.2.1, y16.2.2.2.1, ()) && nodM y16.2.2.2.1)
                        ((goneM y16.1 y16.2.2.2.1, ()), gcS (y16.1, y16.2.1, y16.2.2.1, y16.2.2.2.1, ()) y16.1, (),
                          ()))
                      fun (x27 : (Int × Unit) × (Int × Int × Int × List ((Int × Int) × List (Int × Int)) × Unit) × Unit × Unit) =>
                      rec2
                        (y13, y14, y15, (x27.2.1.1, x27.2.1.2.1, x27.2.1.2.2.1, x27.2.1.2.2.2.1, ()), y17, y18,
                          IntKind.i64.wrap (y19 + (1 : Int)), ())))
                  (bd
                    (grd (decide (y13.length ≤ (100000 : Nat)))
                      ((List.take ((1 : Nat) + y13.length % (4 : Nat)) (List.drop (x24.1.1 % ((↑y13.length : Int) + (1 : Int))).toNat y13),
                          ()),
                        (), (), ()))
                    fun (x28 : (List Int × Unit) × Unit × Unit × Unit) =>
                    bd
                      (grd (stoOk (y16.1, y16.2.1, y16.2.2.1, y16.2.2.2.1, ()) && lenOk (cellsS x28.1.1))
                        (((instS (y16.1, y16.2.1, y16.2.2.1, y16.2.2.2.1, ()) (cellsS x28.1.1)).1.1,
                            (instS (y16.1, y16.2.1, y16.2.2.1, y16.2.2.2.1, ()) (cellsS x28.1.1)).1.2, ()),
                          (instS (y16.1, y16.2.1, y16.2.2.1, y16.2.2.2.1, ()) (cellsS x28.1.1)).2, (), ()))
                      fun (x29 : (Int × Int × Unit) × (Int × Int × Int × List ((Int × Int) × List (Int × Int)) × Unit) × Unit × Unit) =>
                      br (!(x29.1.2.1 == (0 : Int)) == decide ((↑(cellsS x28.1.1).length : Int) > (0 : Int)))
                        (some ((false, ()), (), (), (), ()))
                        (rec2
                          (y13, y14, y15, (x29.2.1.1, x29.2.1.2.1, x29.2.1.2.2.1, x29.2.1.2.2.2.1, ()), y17, y18,
                            IntKind.i64.wrap (y19 + (1 : Int)), ()))))
              none)
            none)
        none)
      none))
def lStoreKeeps_L2 (K : Nat) (rec2 : List Int ×
    List Int × Int × (Int × Int × Int × List ((Int × Int) × List (Int × Int)) × Unit) × Int × List Int × Int × Unit →
  Option
    ((Bool × Unit) ×
      Unit ×
        Unit ×
          Unit ×
            Unit)) : List Int × List Int × Int × (Int × Int × Int × List ((Int × Int) × List (Int × Int)) × Unit) × Int × List Int × Int × Unit →
  Option ((Bool × Unit) × Unit × Unit × Unit × Unit) := fun (y4, y5, y6, y7, y8, y9, y10, ()) =>
  br (decide (y10 ≤ (↑y5.length : Int)))
  (loopN (lStoreKeeps_L1 rec2) K (y4, y5, y6, (y7.1, y7.2.1, y7.2.2.1, y7.2.2.2.1, ()), y8, y9, y10, (0 : Int), ()))
  (some ((true, ()), (), (), (), ()))
def lStoreKeeps_P (K : Nat) (a0 : List Int) (a1 : List Int) (a2 : Int) : Option ((Bool × Unit) × Unit × Unit × Unit × Unit) :=
  br (decide ((↑a0.length : Int) > (60 : Int))) (some ((true, ()), (), (), (), ()))
  (br (decide ((↑a1.length : Int) > (30 : Int))) (some ((true, ()), (), (), (), ()))
    (br (!true) (some ((true, ()), (), (), (), ()))
      (bd
        (grd
          (decide ((0 : Int) < IntKind.i64.wrap ((↑a1.length : Int) + (1 : Int))) &&
            decide (IntKind.i64.wrap ((↑a1.length : Int) + (1 : Int)) < (4611686018427387904 : Int)))
          ((a2 % IntKind.i64.wrap ((↑a1.length : Int) + (1 : Int)), ()), (), (), ()))
        fun (x1 : (Int × Unit) × Unit × Unit × Unit) =>
        loopN (lStoreKeeps_L2 K) K
          (a0, a1, x1.1.1,
            ((stNewS (0 : Int) (1048576 : Int)).1, (stNewS (0 : Int) (1048576 : Int)).2.1, (stNewS (0 : Int) (1048576 : Int)).2.2.1,
              (stNewS (0 : Int) (1048576 : Int)).2.2.2.1, ()),
            (0 : Int),
            [(0 : Int), (0 : Int), (0 : Int), (0 : Int), (0 : Int), (0 : Int), (0 : Int), (0 : Int), (0 : Int), (0 : Int), (0 : Int), (0 : Int),
              (0 : Int), (0 : Int), (0 : Int), (0 : Int)],
            (0 : Int), ()))))
theorem lStoreKeeps_rn (K : Nat) (a0 : List
  Int) (a1 : List
  Int) (a2 : Int) : runF (cfgW g_lStoreKeeps) K f_lStoreKeeps lStoreKeeps_tm [.val (.slice tI), .val (.slice tI), .val tI] [.val .bool] (a0, a1, a2, ()) = lStoreKeeps_P K a0 a1 a2 := by kernel_rfl
end
end Go.BB
set_option linter.unusedSimpArgs false
set_option linter.unusedVariables false
namespace Go.BB
open Go Go.Proofs
set_option maxRecDepth 100000
theorem brNT' {α : Type} {x y : α} : br (!false) x y = x := rfl
/-- the sixteen keys -/
def kk (k : Nat) : Key := ((k : Int).tmod 4, IntKind.i64.wrap ((k : Int).tdiv 4))
def rd16 (s : Sto) (q : Int) (k : Nat) : Int := atV (chnOf s.2.2.2.1 (kk k)) q
structure KpS (s : Sto) (i : Nat) : Prop where
  ok : StoOk s
  nod : nodM s.2.2.2.1 = true
  few : s.2.1 ≤ 20 * (i : Int)
  last : s.1 ≤ (i : Int)
  most : s.2.2.1 = 1048576
/-- ahead of a round -/
structure KpI (ks ops : List Int) (w : Int) (x : List Int × List Int × Int × Sto × Int × List Int × Int × Unit) (i : Nat) (s : Sto) (seq : Int) (was : List Int) : Prop where
  eq : x = (ks, ops, w, s, seq, was, (i : Int), ())
  hi : i ≤ ops.length
  st : KpS s i
  len : was.length = 16
  kept : w < (i : Int) → 0 ≤ seq ∧ seq ≤ s.1 ∧ ∀ k, k < 16 → was.getD k 0 = rd16 s seq k
theorem kp_inst {s : Sto} {i : Nat} (h : KpS s i) (hi : i ≤ 30) (l : List Cel) (hl : l.length ≤ 20) (ho : l ≠ [] → onceS l = true) :
    (!((instS s l).1.2 == 0) == decide ((l.length : Int) > 0)) = false ∧ KpS (instS s l).2 (i + 1) ∧ s.1 ≤ (instS s l).2.1 ∧ ∀ q, q ≤ s.1 → ∀ k, rd16 (instS s l).2 q k = rd16 s q k := by
  have hu := h.ok.u
  have h1 := h.last
  have h2 := h.few
  have h3 := h.most
  by_cases hn : l = []
  · subst hn
    have e : instS s [] = ((0, 1), s) := rfl
    rw [e]
    exact ⟨rfl, ⟨h.ok, h.nod, by push_cast; omega, by push_cast; omega, h3⟩, Int.le_refl _, fun _ _ _ => rfl⟩
  · have hp : 0 < l.length := List.length_pos_iff.2 hn
    have e : instS s l = _ := instS_new (ho hn) (by omega) (by omega)
    have ok := instS_ok h.ok (l := l) (by omega)
    have nod := nodM_inst h.nod l
    rw [e] at ok nod ⊢
    refine ⟨?_, ⟨ok, nod, ?_, ?_, h3⟩, ?_, fun q hq k => ?_⟩
    · show (!((0 : Int) == 0) == decide ((l.length : Int) > 0)) = false
      rw [decide_eq_true (by omega)]; decide
    · show s.2.1 + (l.length : Int) ≤ _
      push_cast; omega
    · show s.1 + 1 ≤ _
      push_cast; omega
    · show s.1 ≤ s.1 + 1
      omega
    · show atV (chnOf (laidAll (s.1 + 1) s.2.2.2.1 l) (kk k)) q = atV (chnOf s.2.2.2.1 (kk k)) q
      rw [chnOf_laidAll _ _ _ _ ((onceS_iff l).1 (ho hn)).2.1]
      have hc := chnOf_ok h.ok (kk k)
      cases l.find? (fun c => decide (c.1 = kk k)) with
      | none => rfl
      | some c =>
        simp only
        rw [atV_snoc hc.1 (by have := hc.2.1; simp only; omega), if_neg (by simp only; omega)]
theorem kp_gc {s : Sto} {i : Nat} (h : KpS s i) (m : Int) : KpS (gcS s m) (i + 1) ∧ ∀ q, m ≤ q → ∀ k, rd16 (gcS s m) q k = rd16 s q k := by
  have h1 := h.last
  have h2 := h.few
  have hg := goneM_nonneg m s.2.2.2.1
  refine ⟨⟨gcS_ok h.ok m, nodM_gc h.nod m, ?_, ?_, h.most⟩, fun q hq k => ?_⟩
  · show s.2.1 - goneM m s.2.2.2.1 ≤ _
    push_cast; omega
  · show s.1 ≤ _
    push_cast; omega
  · show atV (chnOf (gcM m s.2.2.2.1) (kk k)) q = _
    rw [chnOf_gcM, atV_trim _ hq]
    rfl
theorem keeps_L1 {ks ops : List Int} {w : Int} (hk : ks.length ≤ 60) (ho : ops.length ≤ 30) (w0 : 0 ≤ w) (w1 : w ≤ ops.length) (i : Nat) (s : Sto) (seq : Int) (was : List Int)
    (h : KpI ks ops w (ks, ops, w, s, seq, was, (i : Int), ()) i s seq was) (rec : List Int × List Int × Int × Sto × Int × List Int × Int × Unit → Option ((Bool × Unit) × Unit × Unit × Unit × Unit))
    (hrec : ∀ y s' seq' was', KpI ks ops w y (i + 1) s' seq' was' → rec y = some ((true, ()), (), (), (), ())) :
    loopN (lStoreKeeps_L1 rec) 40 (ks, ops, w, s, seq, was, (i : Int), (0 : Int), ()) = some ((true, ()), (), (), (), ()) := by
  have hi := h.hi
  have hs := h.st
  refine loopN_meas (fun x => 16 - x.2.2.2.2.2.2.2.1.toNat) (fun x => ∃ (k : Nat) (sq : Int) (wa : List Int), k ≤ 16 ∧ x = (ks, ops, w, s, sq, wa, (i : Int), (k : Int), ()) ∧ wa.length = 16 ∧
    (w < (i : Int) → 0 ≤ sq ∧ sq ≤ s.1 ∧ ∀ j, j < 16 → wa.getD j 0 = rd16 s sq j) ∧ (w = (i : Int) → (0 < k → sq = s.1) ∧ ∀ j, j < k → wa.getD j 0 = rd16 s s.1 j)) (fun _ => some ((true, ()), (), (), (), ())) ?_ 40 _
    ⟨0, seq, was, by omega, rfl, h.len, h.kept, fun _ => ⟨fun hx => absurd hx (by omega), fun j hj => absurd hj (by omega)⟩⟩ (by simp)
  rintro x ⟨k, sq, wa, hk16, rfl, hl, hA, hB⟩ rec2 hrec2
  simp only [lStoreKeeps_L1, stoEta]
  by_cases hk2 : k < 16
  · have hkk : ((k : Int).tmod 4, IntKind.i64.wrap ((k : Int).tdiv 4)) = kk k := rfl
    rw [br_dt (by omega), brNT', brNT']
    simp only [hkk, Int.toNat_natCast]
    by_cases he : w = (i : Int)
    · obtain ⟨hB1, hB2⟩ := hB he
      rw [br_t (by rw [he]; simp), bd_grd (okSt1 hs.ok), br_dt (by omega), br_dt (by push_cast; omega), br_dt (by omega)]
      simp only [stoEta]
      rw [bd_grd (okSt1 hs.ok), br_dt (by omega), br_dt (by push_cast; omega)]
      simp only [stoEta]
      rw [br_f (by
        rw [List.getD_eq_getElem?_getD, List.getElem?_set_self (by omega)]
        simp), wrapI (by omega) (by omega)]
      refine hrec2 _ ⟨k + 1, s.1, _, by omega, rfl, by rw [List.length_set]; exact hl, fun hw => absurd hw (by omega), fun _ => ⟨fun _ => rfl, fun j hj => ?_⟩⟩ (by simp only; omega)
      rw [List.getD_eq_getElem?_getD]
      by_cases hjk : j = k
      · subst hjk
        rw [List.getElem?_set_self (by omega)]; rfl
      · rw [List.getElem?_set_ne (by omega), ← List.getD_eq_getElem?_getD]
        exact hB2 j (by omega)
    · rw [br_f (beq_eq_false_iff_ne.2 (fun e => he e.symm))]
      by_cases hw : w < (i : Int)
      · obtain ⟨q0, q1, hA2⟩ := hA hw
        rw [br_dt (by omega), bd_grd (okSt1 hs.ok), br_dt (by omega), br_dt (by push_cast; omega)]
        simp only [stoEta]
        rw [hA2 k hk2]
        rw [br_f (by unfold rd16; simp), wrapI (by omega) (by omega)]
        exact hrec2 _ ⟨k + 1, sq, wa, by omega, rfl, hl, hA, fun e => absurd e he⟩ (by simp only; omega)
      · rw [br_df (by omega), wrapI (by omega) (by omega)]
        exact hrec2 _ ⟨k + 1, sq, wa, by omega, rfl, hl, hA, fun e => absurd e he⟩ (by simp only; omega)
  · have hk3 : k = 16 := by omega
    subst hk3
    rw [br_df (by omega)]
    have hC : w ≤ (i : Int) → 0 ≤ sq ∧ sq ≤ s.1 ∧ ∀ j, j < 16 → wa.getD j 0 = rd16 s sq j := by
      intro hw
      by_cases he : w = (i : Int)
      · obtain ⟨hB1, hB2⟩ := hB he
        have e := hB1 (by omega)
        rw [e]
        exact ⟨hs.ok.u.1, Int.le_refl _, hB2⟩
      · exact hA (by omega)
    by_cases hend : i = ops.length
    · rw [br_t (by rw [hend]; simp)]
    have hlt : i < ops.length := by omega
    rw [br_f (beq_eq_false_iff_ne.2 (by omega)), br_dt (by omega), br_dt (by omega), bd_grd (by decide), br_dt (by omega), br_dt (by omega), bd_grd (by decide)]
    simp only [Int.toNat_natCast]
    generalize ops.getD i 0 = op
    have hd := digitS_range op 3 (n := 1000) (by decide)
    generalize digitS op 3 1000 = n at hd
    by_cases hz : op % 3 = 0
    · rw [br_t (by rw [hz]; rfl)]
      by_cases hw : w ≤ (i : Int)
      · obtain ⟨q0, q1, hA2⟩ := hC hw
        have hl1 := hs.last
        have ht : n.tmod 3 = n % 3 := Int.tmod_eq_emod_of_nonneg hd.1
        rw [br_dt (by omega), brNT', ht, wrapU (n := n % 3) (by omega) (by omega), minI_eq, wrapU (by omega) (by omega), bd_grd (and_t (okSt1 hs.ok) hs.nod), wrapI (by omega) (by omega)]
        generalize hm : sq - min sq (n % 3) = m
        have hg := kp_gc hs m
        refine hrec _ (gcS s m) sq wa ⟨rfl, hlt, hg.1, hl, fun _ => ⟨q0, q1, fun k hk => ?_⟩⟩
        rw [hg.2 sq (by omega) k]
        exact hA2 k hk
      · rw [br_df (by omega), bd_grd (and_t (okSt1 hs.ok) hs.nod), wrapI (by omega) (by omega)]
        exact hrec _ (gcS s s.1) sq wa ⟨rfl, hlt, (kp_gc hs _).1, hl, fun hw2 => absurd hw2 (by push_cast; omega)⟩
    · rw [br_f (beq_eq_false_iff_ne.2 hz), bd_grd (decide_eq_true (by omega))]
      simp only
      generalize hL : (ks.drop (n % ((ks.length : Int) + 1)).toNat).take (1 + ks.length % 4) = kl
      have hb := cellsS_len kl
      have ho1 : cellsS kl ≠ [] → onceS (cellsS kl) = true := onceS_cells
      have hins := kp_inst hs (by omega) (cellsS kl) hb ho1
      rw [bd_grd (okSt hs.ok (by omega))]
      simp only
      rw [br_f hins.1, wrapI (by omega) (by omega)]
      refine hrec _ (instS s (cellsS kl)).2 sq wa ⟨rfl, hlt, hins.2.1, hl, fun hw => ?_⟩
      obtain ⟨q0, q1, hA2⟩ := hC (by push_cast at hw; omega)
      refine ⟨q0, Int.le_trans q1 hins.2.2.1, fun k hk => ?_⟩
      rw [hins.2.2.2 sq q1 k]
      exact hA2 k hk
theorem lv_StoreKeeps : Valid Try.prog n_lStoreKeeps ⟨valsOf [.slice tI, .slice tI, tI], [.val .bool], Fok (tys := [.slice tI, .slice tI, tI]) (fun _ => true) ((), (), (), ())⟩ := by
  refine valid_law mixed hf_lStoreKeeps (by kernel_rfl) rfl (ts := tmpsOf f_lStoreKeeps.results.toList) (by kernel_rfl) (cfg := cfgW g_lStoreKeeps) tt_ok
    (Γok_cons v_awake17 (Γok_cons v_within (Γok_cons v_digit (Γok_cons v_stNew (Γok_cons v_stInstall (Γok_cons v_stLast (Γok_cons v_stGc (Γok_cons v_stRead (Γok_cons v_cells (Γok_cons v_someK Γok_nil)))))))))) lStoreKeeps_tm (by kernel_rfl) ?_
  rintro ⟨(ks : List Int), (ops : List Int), (w : Int), ⟨⟩⟩ _
  refine ⟨40, (lStoreKeeps_rn _ _ _ _).trans ?_⟩
  unfold lStoreKeeps_P
  by_cases h1 : (ks.length : Int) > 60
  · rw [br_dt h1]; rfl
  by_cases h2 : (ops.length : Int) > 30
  · rw [br_df h1, br_dt h2]; rfl
  rw [br_df h1, br_df h2, brNT, wrapI (n := (ops.length : Int) + 1) (by omega) (by omega), bd_grd (and_t (decide_eq_true (by omega)) (decide_eq_true (by omega)))]
  simp only [stoEta]
  have a0 := Int.emod_nonneg w (show (ops.length : Int) + 1 ≠ 0 by omega)
  have a1 := Int.emod_lt_of_pos w (show (0 : Int) < (ops.length : Int) + 1 by omega)
  generalize w % ((ops.length : Int) + 1) = w at a0 a1
  refine loopN_meas (fun x => ops.length - x.2.2.2.2.2.2.1.toNat) (fun x => ∃ i s seq was, KpI ks ops w x i s seq was) (fun _ => some ((true, ()), (), (), (), ())) ?_ 40 _
    ⟨0, stNewS 0 1048576, 0, _, ⟨rfl, by omega, ⟨stNewS_ok _ (by decide) (by decide), nodM_nil, by decide, by decide, by decide⟩, rfl, fun hw => absurd hw (by push_cast; omega)⟩⟩ (by simp only; omega)
  rintro x ⟨i, s, seq, was, h⟩ rec hrec
  obtain rfl := h.eq
  have hi := h.hi
  simp only [lStoreKeeps_L2, stoEta]
  rw [br_dt (by omega)]
  refine keeps_L1 (by omega) (by omega) a0 (by omega) i s seq was h rec fun y s' seq' was' hy => ?_
  have hy1 := hy.hi
  exact hrec y ⟨_, _, _, _, hy⟩ (by rw [hy.eq]; simp only; omega)
end Go.BB
