/- A symbolic machine for the model's code, and what it shows of this seat's functions. No conditions. -/
import Derived.Test.YtiaidfgioecdiaaVbits
import Derived.Test.YtiaidfgioecdiaaLaw2
set_option linter.unusedSimpArgs false
set_option linter.unusedVariables false
namespace Go.BB
open Go Go.Proofs
set_option maxRecDepth 100000
theorem take_drop0 {α : Type} (l : List α) (m : α) : List.take l.length (List.drop (0 : Nat) (lentS m l)) = l := by
  simp [lentS]
theorem staysS_lent {α : Type} [DecidableEq α] (m : α) (l : List α) : staysS m (lentS m l) l.length l = true := by
  simp [staysS, lentS]
theorem sameS_self {α : Type} [DecidableEq α] (l : List α) : sameS l l = true := by simp [sameS]
theorem brNT {α : Type} {x y : α} : br (!true) x y = y := rfl
abbrev Fok {tys : List Ty} (g : dens (O := O0) (valsOf tys) → Bool) (u : upds (O := O0) (valsOf tys)) : dens (O := O0) (valsOf tys) → Option (rdens (O := O0) [.val .bool] × upds (O := O0) (valsOf tys)) := fun x => grd (g x) ((true, ()), u)
theorem valid_law {P : Program} (hm : P.follows .mixedOrders = true) {n : Nat} {f : Func} {c : Code} {ts : List Tmp} (hf : P.funcs[n]? = some f) (hname : (f.name == "runtime.NumGoroutine") = false) (hb : f.body = some c)
    (hres : f.results.toList = ts.map .tmp) {cfg : Cfg O0} (hT : TTok P cfg.tt) (hΓ : Γok P cfg.Γ) (tms : List (List (Nat × SSh O0))) {tys : List Ty} {g : dens (O := O0) (valsOf tys) → Bool} {u : upds (O := O0) (valsOf tys)}
    (hps : Nat.ble (clen (valsOf (O := O0) tys)) (min 64 f.ntmps) = true) (hrun : ∀ x, g x = true → ∃ K, runF cfg K f tms (valsOf tys) [.val .bool] x = some ((true, ()), u)) :
    Valid (O := O0) P n ⟨valsOf tys, [.val .bool], Fok g u⟩ :=
  valid_fn hm hf hname hb hres hT hΓ tms _ hps (fun x _ u _ => Kept_vals tys x u) fun x r u' h => by
    have h' : grd (g x) (((true, ()), u) : rdens (O := O0) [.val .bool] × upds (O := O0) (valsOf tys)) = some (r, u') := h
    obtain ⟨h1, h2⟩ := grd_some h'
    obtain ⟨K, hK⟩ := hrun x h1
    exact ⟨K, hK.trans (congrArg some h2)⟩
theorem lv_BitsPacks : Valid Try.prog n_lBitsPacks ⟨valsOf [.slice .bool], [.val .bool], Fok (tys := [.slice .bool]) (fun _ => true) ((), ())⟩ := by
  refine valid_law mixed hf_lBitsPacks (by kernel_rfl) rfl (ts := tmpsOf f_lBitsPacks.results.toList) (by kernel_rfl) (cfg := cfgW g_lBitsPacks) tt_ok
    (Γok_cons v_awake2 (Γok_cons v_lentBits (Γok_cons v_pack (Γok_cons v_unpack (Γok_cons v_rpack (Γok_cons v_sameBits (Γok_cons v_staysBits Γok_nil))))))) lBitsPacks_tm (by kernel_rfl) ?_
  rintro ⟨(l : List Bool), ⟨⟩⟩ _
  refine ⟨0, (lBitsPacks_rn _ _).trans ?_⟩
  unfold lBitsPacks_P
  by_cases hl : (l.length : Int) > 200
  · rw [br_dt hl]; rfl
  · rw [br_df hl, brNT, bd_grd (by simp; omega)]
    simp only [take_drop0]
    rw [bd_grd (by simp; omega)]
    simp only [unpack_pkS]
    rw [bd_grd (by rw [pkS_eq, allB_pkN, pkN_len, isN_mk (by omega) (by omega)]; simp; omega), bd_grd (by simp; omega), br_t (by simp), br_t rfl, bd_grd (by simp; omega), br_t (sameS_self _), bd_grd (by rw [staysS_lent]; simp; omega)]
    rfl
theorem bytesOf_len (l : List Int) : True := trivial
theorem unpackB_len (b : List Int) (n : Int) (h : b.length ≤ 1000) : (unpackB b n).1.length < 100000 := by
  unfold unpackB
  split
  · simp
  · rename_i hn
    simp only [List.length_map, List.length_range]
    have : (b.length : Int) = bytesS n := by
      apply Classical.byContradiction
      intro hb; exact hn (.inr hb)
    unfold bytesS at this
    split at this <;> omega
theorem lv_BitsUnpacks : Valid Try.prog n_lBitsUnpacks ⟨valsOf [.slice tB, tI], [.val .bool], Fok (tys := [.slice tB, tI]) (fun (x : List Int × Int × Unit) => allB x.1 && isN x.2.1) ((), (), ())⟩ := by
  refine valid_law mixed hf_lBitsUnpacks (by kernel_rfl) rfl (ts := tmpsOf f_lBitsUnpacks.results.toList) (by kernel_rfl) (cfg := cfgW g_lBitsUnpacks) tt_ok
    (Γok_cons v_awake2 (Γok_cons v_lentBytes (Γok_cons v_unpack (Γok_cons v_runpack (Γok_cons v_sameBits (Γok_cons v_bytes (Γok_cons v_rbytes (Γok_cons v_staysBytes Γok_nil)))))))) lBitsUnpacks_tm (by kernel_rfl) ?_
  rintro ⟨(b : List Int), (n : Int), ⟨⟩⟩ h1
  simp only [Bool.and_eq_true] at h1
  refine ⟨0, (lBitsUnpacks_rn _ _ _).trans ?_⟩
  unfold lBitsUnpacks_P
  by_cases hl : (b.length : Int) > 300
  · rw [br_dt hl]; rfl
  · rw [br_df hl, brNT, bd_grd (by simp; omega)]
    simp only [take_drop0]
    have hul := unpackB_len b n (by omega)
    rw [bd_grd (by simp [h1.1, h1.2]; omega), bd_grd (by simp [h1.1, h1.2]; omega), br_t (by simp), bd_grd (by simp; omega), br_t (sameS_self _), bd_grd h1.2, bd_grd h1.2, br_t (by simp), bd_grd (by rw [staysS_lent]; simp; omega)]
    rfl
theorem toList_bytesOf (xs : List Int) : (bytesOf xs).toList = xs.map fun n => UInt8.ofNat n.toNat := by
  unfold bytesOf
  have key : ∀ (xs : List Int) (s : ByteArray), (xs.foldl (fun s n => s.push (UInt8.ofNat n.toNat)) s).data.toList = s.data.toList ++ xs.map fun n => UInt8.ofNat n.toNat := by
    intro xs
    induction xs with
    | nil => intro s; simp
    | cons x xs ih => intro s; rw [List.foldl_cons, ih]; simp [ByteArray.push]
  have := key xs ByteArray.empty
  rw [ByteArray.toList_eq]
  simpa using this
theorem bytesOf_append (xs ys : List Int) : (bytesOf xs ++ bytesOf ys).toList = (bytesOf (xs ++ ys)).toList := by
  have h : (bytesOf xs ++ bytesOf ys).toList = (bytesOf xs).toList ++ (bytesOf ys).toList := by
    rw [ByteArray.toList_eq, ByteArray.toList_eq, ByteArray.toList_eq]; simp
  rw [h, toList_bytesOf, toList_bytesOf, toList_bytesOf, List.map_append]
theorem bytesOf_size (xs : List Int) : (bytesOf xs).size = xs.length := by
  have := congrArg List.length (toList_bytesOf xs)
  rw [ByteArray.toList_eq] at this
  simpa using this
theorem lv_BitsParts : Valid Try.prog n_lBitsParts ⟨valsOf [.slice .bool, .slice .bool], [.val .bool], Fok (tys := [.slice .bool, .slice .bool]) (fun _ => true) ((), (), ())⟩ := by
  refine valid_law mixed hf_lBitsParts (by kernel_rfl) rfl (ts := tmpsOf f_lBitsParts.results.toList) (by kernel_rfl) (cfg := cfgW g_lBitsParts) tt_ok
    (Γok_cons v_awake2 (Γok_cons v_pack Γok_nil)) lBitsParts_tm (by kernel_rfl) ?_
  rintro ⟨(a : List Bool), (b : List Bool), ⟨⟩⟩ _
  refine ⟨0, (lBitsParts_rn _ _ _).trans ?_⟩
  unfold lBitsParts_P
  by_cases hl : (a.length : Int) > 100
  · rw [br_dt hl]; rfl
  · rw [br_df hl]
    by_cases hl2 : (b.length : Int) > 100
    · rw [br_dt hl2]; rfl
    · rw [br_df hl2, brNT, notf]
      have e : IntKind.i64.wrap (IntKind.i64.wrap ((a.length : Int).tdiv 8) * 8) = ((a.length / 8 * 8 : Nat) : Int) := by
        rw [Int.tdiv_eq_ediv_of_nonneg (by omega), wrapI (n := (a.length : Int) / 8) (by omega) (by omega), wrapI (by omega) (by omega)]
        omega
      simp only [e, Int.toNat_natCast, cat, List.length_append, List.length_take, bytesOf_size, pkS_len]
      rw [br_dt (by omega), br_dt (by omega), br_dt (lim_mul (by omega) (by decide)), br_dt (lim_le (by omega)), br_dt (lim_mul (by omega) (by decide)), br_dt (lim_le (by omega))]
      rw [bd_grd (by simp; omega), bd_grd (by simp; omega), bd_grd (by simp; omega)]
      simp only [bytesOf_size, pkS_len, List.length_take]
      rw [br_dt (by omega), bytesS_append _ _ (by simp; omega), bytesOf_append]
      simp
      rfl
theorem lv_BitsSets : Valid Try.prog n_lBitsSets ⟨valsOf [.slice tB, tI, .bool, .bool, tI], [.val .bool], Fok (tys := [.slice tB, tI, .bool, .bool, tI]) (fun (x : List Int × Int × Bool × Bool × Int × Unit) => allB x.1 && isN x.2.1) ((), (), (), (), (), ())⟩ := by
  refine valid_law mixed hf_lBitsSets (by kernel_rfl) rfl (ts := tmpsOf f_lBitsSets.results.toList) (by kernel_rfl) (cfg := cfgW g_lBitsSets) tt_ok
    (Γok_cons v_awake2 (Γok_cons v_within (Γok_cons v_lentBytes (Γok_cons v_set (Γok_cons v_rset (Γok_cons v_staysBytes (Γok_cons v_get (Γok_cons v_rbit Γok_nil)))))))) lBitsSets_tm (by kernel_rfl) ?_
  rintro ⟨(b : List Int), (i : Int), (near : Bool), (v : Bool), (k : Int), ⟨⟩⟩ h1
  simp only [Bool.and_eq_true] at h1
  refine ⟨0, (lBitsSets_rn _ _ _ _ _ _).trans ?_⟩
  unfold lBitsSets_P
  by_cases hl : (b.length : Int) > 100
  · rw [br_dt hl]; rfl
  · rw [br_df hl, brNT]
    have e8 : IntKind.i64.wrap ((8 : Int) * (b.length : Int)) = 8 * (b.length : Int) := wrapI (by omega) (by omega)
    have e82 : IntKind.i64.wrap ((8 : Int) * (b.length : Int) + 2) = 8 * (b.length : Int) + 2 := wrapI (by omega) (by omega)
    simp only [e8, e82, take_drop0]
    have fin : ∀ j : Int, isN j = true → ∀ q : Int, isN q = true → (q = j → bitS (setS b j v) q = (v && decide (0 ≤ j ∧ j / 8 < b.length))) ∧ (q ≠ j → bitS (setS b j v) q = bitS b q) := by
      intro j hj q hq
      rw [bit_setS h1.1]
      refine ⟨fun e => ?_, fun e => by simp [e]⟩
      subst e
      by_cases h : 0 ≤ q ∧ q / 8 < (b.length : Int)
      · simp [h]
      · simp only [true_and, h, if_false, decide_false, Bool.and_false]
        unfold bitS
        by_cases h0 : 0 ≤ q
        · have : ¬ q / 8 < (b.length : Int) := fun h' => h ⟨h0, h'⟩
          simp [this]
        · simp [h0]
    have hm := Int.emod_nonneg k (show (8 * (b.length : Int) + 2) ≠ 0 by omega)
    have hm2 := Int.emod_lt_of_pos k (show 0 < (8 * (b.length : Int) + 2) by omega)
    have hk : isN (k % (8 * (b.length : Int) + 2)) = true := isN_mk (by omega) (by omega)
    cases near with
    | true =>
      rw [br_t rfl, bd_grd (by simp; omega)]
      simp only
      have hi1 := Int.emod_nonneg i (show (8 * (b.length : Int) + 2) ≠ 0 by omega)
      have hi2 := Int.emod_lt_of_pos i (show 0 < (8 * (b.length : Int) + 2) by omega)
      have hj : isN (i % (8 * (b.length : Int) + 2)) = true := isN_mk (by omega) (by omega)
      rw [bd_grd (by simp; omega)]
      simp only [take_drop0]
      rw [bd_grd (by simp [h1.1, hj]; omega), bd_grd (by simp [h1.1, hj]; omega), br_f (by simp), bd_grd (by rw [staysS_lent]; simp; omega), br_f (by simp), bd_grd (by simp [h1.1, hj]), bd_grd (by simp [h1.1, hj]), br_f (by simp), bd_grd (by simp; omega)]
      simp only
      by_cases hq : k % (8 * (b.length : Int) + 2) = (i % (8 * (b.length : Int) + 2))
      · rw [br_t (by simp [hq]), bd_grd (by simp [allB_setS h1.1, hk])]
        simp only
        rw [((fin (i % (8 * (b.length : Int) + 2)) hj _ hk).1 hq)]
        have hj0 : 0 ≤ (i % (8 * (b.length : Int) + 2)) := by omega
        have : decide (0 ≤ (i % (8 * (b.length : Int) + 2)) ∧ (i % (8 * (b.length : Int) + 2)) / 8 < (b.length : Int)) = decide ((i % (8 * (b.length : Int) + 2)) < 8 * (b.length : Int)) := by
          apply decide_eq_decide.2
          omega
        rw [this]
        cases v <;> simp [br] <;> rfl
      · rw [br_f (by simpa using hq), bd_grd (by simp [allB_setS h1.1, hk]), bd_grd (by simp [h1.1, hk])]
        simp only
        rw [((fin (i % (8 * (b.length : Int) + 2)) hj _ hk).2 hq)]
        simp
        rfl
    | false =>
      rw [br_f rfl]
      rw [bd_grd (by simp; omega)]
      simp only [take_drop0]
      rw [bd_grd (by simp [h1.1, h1.2]; omega), bd_grd (by simp [h1.1, h1.2]; omega), br_f (by simp), bd_grd (by rw [staysS_lent]; simp; omega), br_f (by simp), bd_grd (by simp [h1.1, h1.2]), bd_grd (by simp [h1.1, h1.2]), br_f (by simp), bd_grd (by simp; omega)]
      simp only
      by_cases hq : k % (8 * (b.length : Int) + 2) = i
      · rw [br_t (by simp [hq]), bd_grd (by simp [allB_setS h1.1, hk])]
        simp only
        rw [((fin i h1.2 _ hk).1 hq)]
        have hj0 : 0 ≤ i := by omega
        have : decide (0 ≤ i ∧ i / 8 < (b.length : Int)) = decide (i < 8 * (b.length : Int)) := by
          apply decide_eq_decide.2
          omega
        rw [this]
        cases v <;> simp [br] <;> rfl
      · rw [br_f (by simpa using hq), bd_grd (by simp [allB_setS h1.1, hk]), bd_grd (by simp [h1.1, hk])]
        simp only
        rw [((fin i h1.2 _ hk).2 hq)]
        simp
        rfl
theorem lv_BitsSpare : Valid Try.prog n_lBitsSpare ⟨valsOf [.slice .bool, tB], [.val .bool], Fok (tys := [.slice .bool, tB]) (fun _ => true) ((), (), ())⟩ := by
  refine valid_law mixed hf_lBitsSpare (by kernel_rfl) rfl (ts := tmpsOf f_lBitsSpare.results.toList) (by kernel_rfl) (cfg := cfgW g_lBitsSpare) tt_ok
    (Γok_cons v_awake2 (Γok_cons v_pack (Γok_cons v_bytes (Γok_cons v_get (Γok_cons v_set (Γok_cons v_unpack (Γok_cons v_sameBits Γok_nil))))))) lBitsSpare_tm (by kernel_rfl) ?_
  rintro ⟨(l : List Bool), (x : Int), ⟨⟩⟩ _
  refine ⟨9, (lBitsSpare_rn _ _ _).trans ?_⟩
  unfold lBitsSpare_P
  by_cases h0 : (l.length : Int) = 0
  · rw [br_t (by simp [h0])]; rfl
  by_cases hl : (l.length : Int) > 100
  · rw [br_f (by simpa using h0), br_dt hl]; rfl
  rw [br_f (by simpa using h0), br_df hl, brNT, bd_grd (by simp; omega), bd_grd (isN_mk (by omega) (by omega))]
  simp only [bytesS_len, pkS_len]
  rw [br_f (by simp)]
  -- all that is so of the bytes
  let ok : List Int → Prop := fun b => allB b = true ∧ b.length = (l.length + 7) / 8 ∧ ∀ q : Nat, q < l.length → bitS b q = l.getD q false
  refine loopN_meas (step := lBitsSpare_L1) (fun y => 8 * ((l.length + 7) / 8) - y.2.2.2.1.toNat) (fun y => ∃ (b : List Int) (i : Nat), y = (l, x, b, (i : Int), ()) ∧ ok b ∧ l.length ≤ i ∧ ∀ q : Nat, i ≤ q → bitS b q = false) (fun _ => some ((true, ()), (), (), ())) ?_ 9 _
    ⟨pkS l, l.length, rfl, ⟨by rw [pkS_eq]; exact allB_pkN _ _, pkS_len l, fun q hq => bit_pkS l q hq⟩, Nat.le_refl _, fun q hq => ?_⟩ (by simp only [Int.toNat_natCast]; omega)
  · rintro y ⟨b, i, rfl, ⟨hb1, hb2, hb3⟩, hi, hz⟩ rec hrec
    simp only [lBitsSpare_L1, hb2]
    have e8 : IntKind.i64.wrap ((8 : Int) * (((l.length + 7) / 8 : Nat) : Int)) = ((8 * ((l.length + 7) / 8) : Nat) : Int) := (wrapI (by omega) (by omega)).trans (by omega)
    rw [e8]
    by_cases hlt : i < 8 * ((l.length + 7) / 8)
    · rw [br_dt (by omega), bd_grd (by simp [hb1, isN_mk (n := (i : Int)) (by omega) (by omega)])]
      simp only
      have em : IntKind.u64.wrap ((i : Int).tmod 8) = ((i % 8 : Nat) : Int) := by
        rw [Int.tmod_eq_emod_of_nonneg (by omega)]; exact (wrapU (by omega) (by omega)).trans (by omega)
      rw [br_f (hz i (Nat.le_refl _)), notf, em, br_dt (by omega), wrapI (by omega) (by omega)]
      generalize (IntKind.u8.wrap _ == (1 : Int)) = c
      cases c with
      | true =>
        rw [br_t rfl, bd_grd (by simp [hb1, isN_mk (n := (i : Int)) (by omega) (by omega)]; omega)]
        refine hrec _ ⟨setS b i true, i + 1, by simp, ⟨allB_setS hb1 _ _, by rw [setS_len]; exact hb2, fun q hq => ?_⟩, by omega, fun q hq => ?_⟩ (by simp only [Int.toNat_natCast]; omega)
        · rw [bit_setS hb1, if_neg (by omega)]; exact hb3 q hq
        · rw [bit_setS hb1, if_neg (by omega)]; exact hz q (by omega)
      | false =>
        rw [br_f rfl]
        exact hrec _ ⟨b, i + 1, by simp, ⟨hb1, hb2, hb3⟩, by omega, fun q hq => hz q (by omega)⟩ (by simp only [Int.toNat_natCast]; omega)
    · have hu : unpackB b (l.length : Int) = (l, true) := by
        unfold unpackB
        rw [if_neg (by rw [bytesS_len, hb2]; omega)]
        congr 1
        apply List.ext_getElem
        · simp
        intro j h1 h2
        simp only [List.getElem_map, List.getElem_range]
        rw [hb3 j h2]
        simp [List.getD_eq_getElem?_getD, h2]
      rw [br_df (by omega), bd_grd (by simp [hb1, isN_mk (n := (l.length : Int)) (by omega) (by omega)]; omega)]
      simp only [hu]
      rw [br_t rfl, bd_grd (by simp; omega), sameS_self]
  · have e1 : (q : Int) / 8 = ((q / 8 : Nat) : Int) := by omega
    have e2 : ((q : Int) % 8).toNat = q % 8 := by omega
    unfold bitS
    rw [pkS_len, e1, e2, Int.toNat_natCast]
    by_cases h : q / 8 < (l.length + 7) / 8
    · rw [pkS_eq, pkN_get _ _ _ h, byteN_bit _ _ _ (by omega), List.getD_eq_getElem?_getD, List.getElem?_drop, List.getElem?_eq_none (by omega)]
      simp
    · have : ¬ ((q / 8 : Nat) : Int) < (((l.length + 7) / 8 : Nat) : Int) := by omega
      rw [decide_eq_false this, Bool.and_false, Bool.false_and]
end Go.BB
namespace Go.BB
open Go
theorem grd_t {α : Type} {b : Bool} {v : α} (h : b = true) : grd b v = some v := by subst h; rfl
theorem allB_of {xs : List Int} (h : InR2 (.slice (.int .u8)) xs) : allB xs = true := by
  simp only [allB, List.all_eq_true]
  intro x hx
  have := h x hx
  simp only [InR2, Lit.wf] at this
  simp only [IntKind.min, IntKind.max, IntKind.signed, IntKind.bits] at this
  simp at this ⊢
  omega
theorem isN_of_in {n : Int} (h : InR2 (.int .i64) n) : isN n = true := by
  simp only [InR2, Lit.wf] at h
  simp only [IntKind.min, IntKind.max, IntKind.signed, IntKind.bits] at h
  simp [isN] at h ⊢
  omega
end Go.BB
namespace Go.BB
theorem and_t {a b : Bool} (h1 : a = true) (h2 : b = true) : (a && b) = true := by rw [h1, h2]; rfl
end Go.BB
