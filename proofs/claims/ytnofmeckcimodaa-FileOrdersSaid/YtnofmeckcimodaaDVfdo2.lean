/- A symbolic machine for the model's code, and what it shows of this seat's functions. No conditions. -/
import Derived.Test.YtnofmeckcimodaaDGfdf
import Derived.Test.YtnofmeckcimodaaDVbuff
import Derived.Test.YtnofmeckcimodaaDGfda
set_option linter.unusedSimpArgs false
set_option linter.unusedVariables false
namespace Go.BB
open Go Go.Proofs
set_option maxRecDepth 100000
theorem layFrom_len (t : Int) : ∀ (ws : List Int) (a : Int), (layFrom t a ws).length = ws.length
  | [], a => rfl
  | w :: ws, a => by unfold layFrom; rw [List.length_cons, layFrom_len t ws, List.length_cons]
theorem layFrom_snoc (t w : Int) : ∀ (ws : List Int) (a : Int), layFrom t a (ws ++ [w]) = layFrom t a ws ++ [((t, a + ws.length), w)]
  | [], a => by simp [layFrom]
  | x :: ws, a => by
    rw [List.cons_append]
    unfold layFrom
    rw [layFrom_snoc t w ws (a + 1), List.cons_append, List.length_cons]
    rw [show a + 1 + (ws.length : Int) = a + ((ws.length + 1 : Nat) : Int) by push_cast; omega]
theorem v_rlay : Valid Try.prog n_rlay c_rlay := by
  refine valid_fn mixed hf_rlay (by kernel_rfl) rfl (ts := tmpsOf f_rlay.results.toList) (by kernel_rfl) (cfg := cfgW g_rlay) tt_ok Γok_nil rlay_tm c_rlay (by kernel_rfl) (fun _ _ _ _ => ⟨⟩) ?_
  rintro ⟨(⟨t, at1⟩ : Key), (ws : List Int), ⟨⟩⟩ r u h
  obtain ⟨h1, h2⟩ := grd_some h
  simp only [Bool.and_eq_true, decide_eq_true_eq] at h1
  obtain ⟨g1, g2, g3⟩ := h1
  have hl := lenOk_lt g1
  refine ⟨ws.length + 1, (rlay_rn _ _ _).trans (Eq.trans ?_ (congrArg some h2))⟩
  show rlay_P (ws.length + 1) (t, at1) ws = some ((layFrom t at1 ws, ()), ((), (), ()))
  unfold rlay_P
  refine loopN_for (step := rlay_L1) ws.length (fun i => (ws, (t, at1, ()), layFrom t at1 (ws.take i), (i : Int), ())) (fun i hi rec => ?_) (fun rec => ?_) (ws.length + 1) (by omega)
  · simp only [rlay_L1, Int.toNat_natCast]
    have e : (layFrom t at1 (ws.take i)).length = i := by rw [layFrom_len, List.length_take]; omega
    rw [br_dt (by omega), br_dt (by omega), br_dt (by omega), br_dt (by rw [e]; simp only [List.length_singleton, LIM]; omega), br_dt (by rw [e]; simp only [List.length_singleton, LIM]; omega), wrapI (n := (i : Int) + 1) (by omega) (by omega), wrapI (n := at1 + (i : Int)) (by omega) (by omega)]
    rw [take_snoc ws i 0 hi, layFrom_snoc, show ((ws.take i).length : Int) = (i : Int) by rw [List.length_take]; omega]
    rfl
  · simp only [rlay_L1]
    rw [br_df (by omega), List.take_length]
theorem v_shown : Valid Try.prog n_shown c_shown := by
  refine valid_fnc mixed hf_shown (by kernel_rfl) rfl (cfg := cfgW g_shown) tt_ok Γok_nil shown_tm c_shown (by kernel_rfl) (fun _ _ _ _ => ⟨⟩) ?_
  rintro ⟨(a : AskT), (l : List Int), ⟨⟩⟩ r u h
  obtain ⟨h1, h2⟩ := grd_some h
  have hl := lenOk_lt h1
  dsimp only at hl
  refine ⟨l.length + 1, (shown_rn _ _ _).trans (Eq.trans ?_ (congrArg some h2))⟩
  show shown_P (l.length + 1) a l = some ((shownA a l, ()), ((), (), ()))
  have hloop1 : loopN shown_L1 (l.length + 1) (l, (0, 0, (), (), 0, 0, 0, 0, 0, 0, 0, false, 0, (), ()), (a.1, 0, [], (), 0, 0, 0, 0, 0, 0, 0, false, 0, (), ()), 0, ()) = some (((a.1, 0, l.map (fun v => v != 0), [], 0, 0, 0, 0, 0, 0, 0, false, 0, []), ()), (), (), ()) := by
    refine loopN_for (step := shown_L1) l.length (fun i => (l, (0, 0, (), (), 0, 0, 0, 0, 0, 0, 0, false, 0, (), ()), (a.1, 0, (l.take i).map (fun v => v != 0), (), 0, 0, 0, 0, 0, 0, 0, false, 0, (), ()), (i : Int), ())) (fun i hi rec => ?_) (fun rec => ?_) (l.length + 1) (by omega)
    · simp only [shown_L1, Int.toNat_natCast]
      have e : ((l.take i).map (fun v => v != 0)).length = i := by rw [List.length_map, List.length_take]; omega
      rw [br_dt (by omega), br_dt (by omega), br_dt (by omega), br_dt (by rw [e]; simp only [List.length_singleton, LIM]; omega), br_dt (by rw [e]; simp only [List.length_singleton, LIM]; omega), wrapI (by omega) (by omega)]
      rw [take_snoc l i 0 hi, List.map_append]
      rfl
    · simp only [shown_L1]
      rw [br_df (by omega), List.take_length]
  unfold shown_P shownA
  by_cases f1 : a.1 = 1
  · rw [br_f (by rw [f1]; rfl), if_pos (.inl f1)]
    exact hloop1
  · rw [br_t (by simpa using f1)]
    by_cases f2 : a.1 = 2
    · rw [br_f (by rw [f2]; rfl), if_pos (.inr f2)]
      exact hloop1
    · rw [br_t (by simpa using f2), br_dt (lim_mul (by omega) (by decide)), br_dt (lim_le (by omega)), if_neg (by rintro (h | h); exact f1 h; exact f2 h)]
theorem v_rfget : Valid Try.prog n_rfget c_rfget := by
  refine valid_fn mixed hf_rfget (by kernel_rfl) rfl (ts := tmpsOf f_rfget.results.toList) (by kernel_rfl) (cfg := cfgW g_rfget) tt_ok (Γok_cons v_rbget Γok_nil) rfget_tm c_rfget (by kernel_rfl) (fun _ _ _ _ => ⟨⟩) ?_
  rintro ⟨(⟨m, ⟨⟩⟩ : List Cel × Unit), (k : Key), ⟨⟩⟩ r u h
  obtain ⟨h1, h2⟩ := grd_some h
  refine ⟨0, (rfget_rn _ _ _).trans (Eq.trans ?_ (congrArg some h2))⟩
  show rfget_P 0 (m, ()) k = some (((getK m k).1, ()), ((m, ()), (), ()))
  unfold rfget_P
  rw [bd_grd h1]
theorem setR_ok : ∀ (l m : List Cel), bufS m = true → bufS (setR m l) = true ∧ (setR m l).length ≤ m.length + l.length
  | [], m, h => ⟨h, by show m.length ≤ _; omega⟩
  | c :: l, m, h => by
    show bufS (setR (if keyR c.1 then putK m c else m) l) = true ∧ (setR (if keyR c.1 then putK m c else m) l).length ≤ _
    rw [List.length_cons]
    cases keyR c.1 with
    | true =>
      have h2 : bufS (putK m c) = true := by rw [putK_eq]; exact bufS_put c h
      have h3 : (putK m c).length ≤ m.length + 1 := by rw [putK_eq]; exact putR_len m c
      have := setR_ok l (putK m c) h2
      exact ⟨this.1, Nat.le_trans this.2 (by omega)⟩
    | false =>
      have := setR_ok l m h
      exact ⟨this.1, Nat.le_trans this.2 (by omega)⟩
theorem keyR_4 {α : Type} (k : Key) (x y : α) : br (decide (k.1 ≥ 0)) (br (decide (k.1 ≤ 3)) (br (decide (k.2 ≥ 0)) (br (decide (k.2 < 65536)) x y) y) y) y = br (keyR k) x y := by
  unfold keyR
  by_cases h1 : k.1 ≥ 0
  · by_cases h2 : k.1 ≤ 3
    · by_cases h3 : k.2 ≥ 0
      · by_cases h4 : k.2 < 65536
        · rw [br_dt h1, br_dt h2, br_dt h3, br_dt h4, br_t (by simp; omega)]
        · rw [br_dt h1, br_dt h2, br_dt h3, br_df h4, br_f (by simp; omega)]
      · rw [br_dt h1, br_dt h2, br_df h3, br_f (by simp; omega)]
    · rw [br_dt h1, br_df h2, br_f (by simp; omega)]
  · rw [br_df h1, br_f (by simp; omega)]
theorem v_rfset : Valid Try.prog n_rfset c_rfset := by
  refine valid_fn mixed hf_rfset (by kernel_rfl) rfl (ts := tmpsOf f_rfset.results.toList) (by kernel_rfl) (cfg := cfgW g_rfset) tt_ok (Γok_cons v_rput Γok_nil) rfset_tm c_rfset (by kernel_rfl) (fun _ _ _ _ => ⟨⟩) ?_
  rintro ⟨(⟨m, ⟨⟩⟩ : List Cel × Unit), (l : List Cel), ⟨⟩⟩ r u h
  obtain ⟨h1, h2⟩ := grd_some h
  simp only [Bool.and_eq_true, decide_eq_true_eq] at h1
  obtain ⟨g1, g2, g3⟩ := h1
  refine ⟨l.length + 1, (rfset_rn _ _ _).trans (Eq.trans ?_ (congrArg some h2))⟩
  show rfset_P (l.length + 1) (m, ()) l = some ((), ((setR m l, ()), (), ()))
  unfold rfset_P
  refine loopN_for (step := rfset_L1) l.length (fun i => ((setR m (l.take i), ()), l, (i : Int), ())) (fun i hi rec => ?_) (fun rec => ?_) (l.length + 1) (by omega)
  · simp only [rfset_L1, Int.toNat_natCast]
    obtain ⟨k1, k2⟩ := setR_ok (l.take i) m g2
    have k3 : (l.take i).length ≤ l.length := by rw [List.length_take]; omega
    rw [br_dt (show (i : Int) < (l.length : Int) by omega), br_dt (show (0 : Int) ≤ (i : Int) by omega), br_dt (show (i : Int) < (l.length : Int) by omega), wrapI (by omega) (by omega), take_snoc l i ((0, 0), 0) hi]
    simp only [br_dt (show (i : Int) < (l.length : Int) by omega), br_dt (show (0 : Int) ≤ (i : Int) by omega)]
    have e : ∀ c : Cel, setR m (l.take i ++ [c]) = if keyR c.1 then putK (setR m (l.take i)) c else setR m (l.take i) := by intro c; simp [setR]
    rw [e]
    refine (keyR_4 (l.getD i ((0, 0), 0)).1 _ _).trans ?_
    rw [bd_grd (and_t (lenOk_of (by omega)) k1)]
    cases hk : keyR (l.getD i ((0, 0), 0)).1 with
    | true => rw [br_t rfl, if_pos rfl]; rfl
    | false => rw [br_f rfl, if_neg (by decide)]; rfl
  · simp only [rfset_L1]
    rw [br_df (by omega), List.take_length]
end Go.BB
