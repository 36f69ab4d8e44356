/- A symbolic machine for the model's code, and what it shows of this seat's functions. No conditions. -/
import Derived.Test.YtnofmeckcimodaaAGstoreo
import Derived.Test.YtnofmeckcimodaaAVstore
import Derived.Test.YtnofmeckcimodaaAVbuff2
import Derived.Test.YtnofmeckcimodaaASGc
import Derived.Test.YtnofmeckcimodaaALMore
import Derived.Test.YtnofmeckcimodaaRows
import Derived.WalkKit
import Derived.ProofKit
set_option linter.unusedSimpArgs false
set_option linter.unusedVariables false
namespace Go.BB
open Go Go.Proofs
set_option maxRecDepth 100000
theorem v_awake17 : Valid Try.prog n_awake17 c_awake17 := by
  refine valid_fn mixed hf_awake17 (by kernel_rfl) rfl (ts := tmpsOf f_awake17.results.toList) (by kernel_rfl) (cfg := cfgW g_awake17) tt_ok (Γok_cons v_stNew (Γok_cons v_stInstall (Γok_cons v_stRead (Γok_cons v_stVersions Γok_nil)))) [] c_awake17 (by kernel_rfl) (fun _ _ _ _ => ⟨⟩) ?_
  rintro ⟨⟩ r u h
  exact ⟨3, awake17_rn.trans h⟩
theorem stoEta (s : Sto) : ((s.1, s.2.1, s.2.2.1, s.2.2.2.1, ()) : Sto) = s := rfl
theorem okSt {α : Type} {s : Sto} {l : List α} (h : StoOk s) (hl : l.length < 1000000) : (stoOk s && lenOk l) = true := and_t ((stoOk_iff s).2 h) (decide_eq_true hl)
theorem okSt1 {s : Sto} (h : StoOk s) : stoOk s = true := (stoOk_iff s).2 h
theorem atV_one (a v q : Int) : atV [(a, v)] q = if a ≤ q then v else 0 := by unfold atV cnt; split <;> simp [cnt]
/-- turned -/
def turnS (r : Nat) (l : List Cel) : List Cel := l.drop r ++ l.take r
theorem turnS_perm (r : Nat) (l : List Cel) : (turnS r l).Perm l := by
  unfold turnS
  exact List.perm_append_comm.trans (by rw [List.take_append_drop])
theorem turnS_get (t : Int) (l : List Cel) (i : Nat) (hi : i < l.length) (z : Cel) : (turnS (t % 20 % (l.length : Int)).toNat l).getD i z = l.getD ((t % 20 + (i : Int)) % (l.length : Int)).toNat z := by
  have h0 := Int.emod_nonneg (t % 20) (show (l.length : Int) ≠ 0 by omega)
  have h1 := Int.emod_lt_of_pos (t % 20) (show (0 : Int) < l.length by omega)
  have h2 : (t % 20 + (i : Int)) % (l.length : Int) = (t % 20 % (l.length : Int) + i) % (l.length : Int) := by simp
  rw [h2]
  generalize t % 20 % (l.length : Int) = r at h0 h1
  unfold turnS
  by_cases h : i < l.length - r.toNat
  · rw [Int.emod_eq_of_lt (by omega) (by omega), getD_app_lt _ _ _ _ (by rw [List.length_drop]; omega)]
    rw [List.getD_eq_getElem?_getD, List.getElem?_drop, List.getD_eq_getElem?_getD, show r.toNat + i = (r + (i : Int)).toNat by omega]
  · have : (r + (i : Int)) % (l.length : Int) = r + i - l.length := by
      rw [← Int.sub_emod_right, Int.emod_eq_of_lt (by omega) (by omega)]
    rw [this, getD_app_ge _ _ _ _ (by rw [List.length_drop]; omega), List.length_drop]
    rw [List.getD_eq_getElem?_getD, List.getElem?_take, if_pos (by omega), List.getD_eq_getElem?_getD, show i - (l.length - r.toNat) = (r + (i : Int) - l.length).toNat by omega]
theorem onceS_perm {a b : List Cel} (h : a.Perm b) (hb : onceS b = true) : onceS a = true := by
  rw [onceS_iff] at hb ⊢
  refine ⟨fun c hc => hb.1 c (h.mem_iff.1 hc), ?_, fun e => hb.2.2 ?_⟩
  · unfold nodupK at hb ⊢
    exact ((h.map (·.1)).nodup_iff).2 hb.2.1
  · subst e; exact List.nil_perm.1 h
theorem onceS_more {m : List Cel} {x : Cel} (h : x ∈ m ∨ celR x = false) : onceS (m ++ [x]) = false := by
  rw [← Bool.not_eq_true, onceS_iff]
  rintro ⟨h1, h2, _⟩
  rcases h with h | h
  · unfold nodupK at h2
    rw [List.map_append, List.nodup_append] at h2
    exact h2.2.2 x.1 (List.mem_map.2 ⟨x, h, rfl⟩) x.1 (by simp) rfl
  · have := h1 x (by simp)
    rw [h] at this; cases this
def ordSt (l : List Cel) : Sto := (1, (l.length : Int), 100, laidAll 1 [] l, ())
theorem ord_inst {l : List Cel} (h : onceS l = true) (hl : l.length ≤ 20) : instS (stNewS 0 100) l = ((1, 0), ordSt l) ∧ StoOk (ordSt l) := by
  have e1 : instS (stNewS 0 100) l = ((1, 0), ordSt l) := by
    rw [instS_new h (by decide) (by show (l.length : Int) ≤ 100 - 0; omega)]
    unfold stNewS ordSt
    congr 1
    congr 1
    congr 1
    show (0 : Int) + (l.length : Int) = _
    omega
  have e2 := instS_ok (stNewS_ok (f := 0) 100 (by decide) (by decide)) (l := l) (by show (0 : Int) + l.length ≤ 500000; omega)
  rw [e1] at e2
  exact ⟨e1, e2⟩
theorem ord_read {l : List Cel} (h : nodupK l) {c : Cel} (hc : c ∈ l) : atV (chnOf (ordSt l).2.2.2.1 c.1) 1 = c.2 := by
  show atV (chnOf (laidAll 1 [] l) c.1) 1 = _
  rw [chnOf_laidAll _ _ _ _ h, find_mem h hc]
  simp only [chnOf_nil, List.nil_append]
  rw [atV_one]; rfl
theorem memD {l : List Cel} {i : Nat} (h : i < l.length) : l.getD i ((0, 0), 0) ∈ l := by
  rw [List.getD_eq_getElem?_getD, List.getElem?_eq_getElem h]; exact List.getElem_mem h
theorem celEta (c : Cel) : ((c.1.1, c.1.2), c.2) = c := rfl
theorem keyEta (c : Cel) : (c.1.1, c.1.2) = c.1 := rfl
theorem ord_L1 {l m : List Cel} (hp : m.Perm l) (ho : onceS l = true) (hl : l.length ≤ 20) (K : Nat) (hK : 20 < K) : loopN lStoreOrders_L1 K (l, ordSt l, ordSt m, 0, ()) = some ((true, ()), (), (), (), ()) := by
  have hlen := hp.length_eq
  have ok1 := (ord_inst ho hl).2
  have ok2 := (ord_inst (onceS_perm hp ho) (by omega)).2
  have n1 := ((onceS_iff l).1 ho).2.1
  have n2 := ((onceS_iff m).1 (onceS_perm hp ho)).2.1
  refine loopN_for l.length (fun i => (l, ordSt l, ordSt m, (i : Int), ())) (fun i hi rec => ?_) (fun rec => ?_) K (by omega)
  · have hm := memD hi
    have e1 := ord_read n1 hm
    have e2 := ord_read n2 (hp.mem_iff.2 hm)
    simp only [lStoreOrders_L1, stoEta, Int.toNat_natCast]
    generalize l.getD i ((0, 0), 0) = c at hm e1 e2
    simp only [keyEta]
    rw [br_dt (by omega), br_dt (by omega), br_dt (by omega), bd_grd (okSt1 ok1), br_dt (by omega), br_dt (by omega)]
    simp only [e1]
    rw [br_f (by simp), br_dt (by omega), br_dt (by omega), bd_grd (okSt1 ok2), br_dt (by omega), br_dt (by omega)]
    simp only [e2]
    rw [br_f (by simp), wrapI (by omega) (by omega)]
    rfl
  · simp only [lStoreOrders_L1, stoEta]
    rw [br_df (by omega)]
    have : (ordSt m).2.1 = (l.length : Int) := by show (m.length : Int) = _; omega
    rw [this]
    have : (ordSt l).2.1 = (l.length : Int) := rfl
    rw [this, br_t (by simp)]
    simp
theorem lv_StoreOrders : Valid Try.prog n_lStoreOrders ⟨valsOf [.slice tI, tI, tI], [.val .bool], Fok (tys := [.slice tI, tI, tI]) (fun _ => true) ((), (), (), ())⟩ := by
  refine valid_law mixed hf_lStoreOrders (by kernel_rfl) rfl (ts := tmpsOf f_lStoreOrders.results.toList) (by kernel_rfl) (cfg := cfgW g_lStoreOrders) tt_ok
    (Γok_cons v_awake17 (Γok_cons v_cells (Γok_cons v_within (Γok_cons v_stNew (Γok_cons v_stInstall (Γok_cons v_stLast (Γok_cons v_stVersions (Γok_cons v_stKeys (Γok_cons v_stRead Γok_nil))))))))) lStoreOrders_tm (by kernel_rfl) ?_
  rintro ⟨(ks : List Int), (turn : Int), (bad : Int), ⟨⟩⟩ _
  refine ⟨30, (lStoreOrders_rn _ _ _ _).trans ?_⟩
  unfold lStoreOrders_P
  by_cases h1 : (ks.length : Int) < 1
  · rw [br_dt h1]; rfl
  by_cases h2 : (ks.length : Int) > 20
  · rw [br_df h1, br_dt h2]; rfl
  rw [br_df h1, br_df h2, brNT]
  have hl := cellsS_len ks
  have hb := cellsS_buf ks
  have hne : cellsS ks ≠ [] := cellsS_ne1 (by omega)
  have ho := onceS_cells hne
  generalize cellsS ks = l at hl hb hne ho
  have hp0 : 0 < l.length := List.length_pos_iff.2 hne
  simp only [stoEta]
  have t0 := Int.emod_nonneg turn (show (20 : Int) ≠ 0 by decide)
  have t1 := Int.emod_lt_of_pos turn (show (0 : Int) < 20 by decide)
  have hp := turnS_perm (turn % 20 % (l.length : Int)).toNat l
  have hget := turnS_get turn l
  generalize turnS (turn % 20 % (l.length : Int)).toNat l = m at hp hget
  have hlen := hp.length_eq
  have hstep : ∀ i, i < l.length → ∀ rec, lStoreOrders_L2 30 rec (turn, bad, l, stNewS 0 100, stNewS 0 100, m.take i, (i : Int), ()) = rec (turn, bad, l, stNewS 0 100, stNewS 0 100, m.take (i + 1), ((i + 1 : Nat) : Int), ()) := by
    intro i hi rec
    simp only [lStoreOrders_L2, stoEta, celEta]
    rw [br_dt (by omega), bd_grd (by decide)]
    simp only
    rw [bd_grd (and_t (decide_eq_true (by omega)) (decide_eq_true (by omega))), wrapI (by omega) (by omega)]
    simp only
    have a0 := Int.emod_nonneg (turn % 20 + (i : Int)) (show (l.length : Int) ≠ 0 by omega)
    have a1 := Int.emod_lt_of_pos (turn % 20 + (i : Int)) (show (0 : Int) < l.length by omega)
    have hti : (m.take i).length = i := by rw [List.length_take]; omega
    rw [br_dt (by omega), br_dt (by omega), ← hget i hi, br_dt (by rw [hti]; simp only [List.length_singleton, LIM]; omega), br_dt (by rw [hti]; simp only [List.length_singleton, LIM]; omega), wrapI (by omega) (by omega)]
    rw [take_snoc m i ((0, 0), 0) (by omega)]
    rfl
  refine loopN_for (step := lStoreOrders_L2 30) l.length (fun i => (turn, bad, l, stNewS 0 100, stNewS 0 100, m.take i, (i : Int), ())) hstep (fun rec => ?_) 30 (by omega)
  rw [← hlen, List.take_length]
  simp only [lStoreOrders_L2, stoEta, celEta]
  have ok0 := stNewS_ok (f := 0) 100 (by decide) (by decide)
  obtain ⟨e1, _⟩ := ord_inst ho hl
  obtain ⟨e2, _⟩ := ord_inst (onceS_perm hp ho) (by omega)
  rw [br_df (by omega), bd_grd (okSt ok0 (by omega)), e1]
  simp only
  rw [br_dt (by omega), bd_grd (by decide)]
  simp only
  have b0 := Int.emod_nonneg bad (show (5 : Int) ≠ 0 by decide)
  have b1 := Int.emod_lt_of_pos bad (show (0 : Int) < 5 by decide)
  have hx : ∀ x : Cel, (x = [m.getD (Int.toNat 0) ((0, 0), 0), ((4, 0), 0), ((-1, 0), 0), ((2, 65536), 0), ((1, 300), 2)].getD (bad % 5).toNat ((0, 0), 0)) → onceS (m ++ [x]) = false := by
    intro x hx
    refine onceS_more ?_
    have hb5 : (bad % 5).toNat < 5 := by omega
    generalize (bad % 5).toNat = b at hx hb5
    have hm0 : m.getD (Int.toNat 0) ((0, 0), 0) ∈ m := memD (i := 0) (by omega)
    generalize m.getD (Int.toNat 0) ((0, 0), 0) = m0 at hx hm0
    match b, hb5 with
    | 0, _ => exact .inl (by rw [hx]; exact hm0)
    | 1, _ => exact .inr (by rw [hx]; rfl)
    | 2, _ => exact .inr (by rw [hx]; rfl)
    | 3, _ => exact .inr (by rw [hx]; rfl)
    | 4, _ => exact .inr (by rw [hx]; rfl)
  generalize hxx : [m.getD (Int.toNat 0) ((0, 0), 0), ((4, 0), 0), ((-1, 0), 0), ((2, 65536), 0), ((1, 300), 2)].getD (bad % 5).toNat ((0, 0), 0) = x
  have hx1 := hx x hxx.symm
  have e3 : instS (stNewS 0 100) (cat m [x]) = ((0, 1), stNewS 0 100) := by
    show instS (stNewS 0 100) (m ++ [x]) = _
    unfold instS
    rw [hx1]; rfl
  have hc : (cat m [x]).length = m.length + 1 := by show (m ++ [x]).length = _; simp
  rw [br_dt (by omega), br_dt (by push_cast; omega), br_dt (by simp only [LIM]; omega), br_dt (by simp only [LIM]; omega), br_dt (by simp only [List.length_singleton, LIM]; omega), br_dt (by simp only [List.length_singleton, LIM]; omega), bd_grd (okSt ok0 (by omega)), e3]
  simp only
  rw [br_f (by decide), br_f (by decide), br_f (by decide), br_f (by decide)]
  have ok0' : StoOk ((stNewS 0 100).1, (stNewS 0 100).2.1, (stNewS 0 100).2.2.1, (stNewS 0 100).2.2.2.1, ()) := ok0
  rw [bd_grd (okSt ok0 (by omega)), e2]
  simp only
  rw [br_f (by decide), br_f (by decide), br_f (by decide), br_f (by decide)]
  exact ord_L1 hp ho hl 30 (by omega)
end Go.BB
set_option linter.unusedSimpArgs false
set_option linter.unusedVariables false
namespace Go.Proofs.Ytnofmeckcimodaa
open Go.BB Go.ChangeShapes Go.WideShapes Go.ChangeAt Go.RowKit
namespace Bb
theorem own : ownKnob Try.prog.godebug = none := by kernel_rfl
theorem laidOut : laidOutB Try.prog = true := by kernel_rfl
theorem reads (ts : List Nat) (h : (ts.all fun t => Try.prog.readableRec t && decide (t < Try.prog.types.size)) = true) : ∀ t ∈ ts, Try.prog.readableRec t = true ∧ t < Try.prog.types.size := by
  intro t ht
  have := List.all_eq_true.1 h t ht
  simpa using this
end Bb
namespace storeOrders
set_option maxRecDepth 100000 in
theorem lifted (os : Os) (started : os.Started) (H : Type) (enc : TypeId × Value → H) :
    ReturnsInHanded {} Try.checked os 3 .any (Rows.storeOrdersSpec.pre6 enc Try.prog Try.f3 Rows.storeOrdersRow.domain false) (Rows.storeOrdersSpec.post enc Try.prog Try.f3 false true false false) :=
  law_lifted2 (C := Try.checked) (O := O0) (tys := [.slice tI, tI, tI]) Bb.own started (by kernel_rfl) Try.func3
    (ChangeSpec.witness6 (enc := enc) (C := Try.checked) false ⟨#[], #[.slice none 0 0, .int .i64 0, .int .i64 0], []⟩ 8 (by kernel_rfl) (by kernel_rfl) (by kernel_rfl) (by kernel_rfl))
    Bb.laidOut (by kernel_rfl) (Bb.reads _ (by kernel_rfl)) rfl Try.underlying4 rfl (fun ds h => by match ds, h with | [_, _, _], _ => rfl) lv_StoreOrders (fun x h => ⟨_, grd_t rfl⟩)
theorem over : Rows.storeOrdersRow.holds Try.pinned (OpenSpec.ofChange Rows.storeOrdersSpec) :=
  OpenClaim.holds_of_wide 3 Try.f3 rfl rfl rfl rfl rfl rfl rfl ⟨rfl, rfl, rfl, rfl, rfl⟩ rfl rfl rfl rfl rfl (by kernel_rfl) Try.func3 (by kernel_rfl)
    (of_decide_eq_true (by kernel_rfl)) (by unfold Func.isWrapper; first | (rw [if_pos (by decide +kernel)]; kernel_rfl) | (rw [if_neg (by decide +kernel)]; exact ⟨rfl, rfl⟩))
    (fun os started H enc _ => lifted os started H enc)
end storeOrders
/-- The row StoreOrders. -/
theorem storeOrders_holds : Rows.StoreOrdersSaid := storeOrders.over
#print axioms storeOrders_holds
end Go.Proofs.Ytnofmeckcimodaa
