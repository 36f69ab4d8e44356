/- A symbolic machine for the model's code, and what it shows of this seat's functions. No conditions. -/
import Derived.Test.YtiaidfgioecdiaaGbits
import Derived.Test.YtiaidfgioecdiaaVcom
import Derived.Test.YtiaidfgioecdiaaLBits2
set_option linter.unusedSimpArgs false
set_option linter.unusedVariables false
namespace Go.BB
open Go Go.Proofs
set_option maxRecDepth 100000
theorem lim_mul' {n : Nat} (h : n < 20000000) : n * 1 ≤ LIM := Nat.le_trans (Nat.mul_le_mul_right 1 (Nat.le_of_lt h)) (by decide)
theorem lim_le' {n : Nat} (h : n < 20000000) : n ≤ LIM := Nat.le_trans (Nat.le_of_lt h) (by decide)
theorem isN_of {n : Int} (h : isN n = true) : -9223372036854775808 ≤ n ∧ n ≤ 9223372036854775807 := by simpa [isN] using h
theorem isN_mk {n : Int} (h1 : -9223372036854775808 ≤ n) (h2 : n ≤ 9223372036854775807) : isN n = true := by simp [isN, h1, h2]
theorem notf {α : Type} {x y : α} : br (!false) x y = x := rfl
theorem v_bytes : Valid Try.prog n_bytes c_bytes := by
  refine valid_fn mixed hf_bytes (by kernel_rfl) rfl (ts := tmpsOf f_bytes.results.toList) (by kernel_rfl) (cfg := cfgW g_bytes) tt_ok Γok_nil bytes_tm c_bytes (by kernel_rfl) (fun _ _ _ _ => ⟨⟩) ?_
  rintro ⟨(n : Int), ⟨⟩⟩ r u h
  obtain ⟨h1, h2⟩ := grd_some h
  simp only at h1 h2
  have hn := isN_of h1
  refine ⟨0, (bytes_rn _ _).trans (Eq.trans ?_ (congrArg some h2))⟩
  unfold bytes_P bytesS
  by_cases h : n < 1
  · rw [br_dt h, if_pos h]; rfl
  · rw [br_df h, if_neg h, wrapI (n := n - 1) (by omega) (by omega), sh3, wrapI (by omega) (by omega)]; rfl
theorem v_rbytes : Valid Try.prog n_rbytes c_rbytes := by
  refine valid_fn mixed hf_rbytes (by kernel_rfl) rfl (ts := tmpsOf f_rbytes.results.toList) (by kernel_rfl) (cfg := cfgW g_rbytes) tt_ok Γok_nil rbytes_tm c_rbytes (by kernel_rfl) (fun _ _ _ _ => ⟨⟩) ?_
  rintro ⟨(n : Int), ⟨⟩⟩ r u h
  obtain ⟨h1, h2⟩ := grd_some h
  simp only at h1 h2
  have hn := isN_of h1
  refine ⟨0, (rbytes_rn _ _).trans (Eq.trans ?_ (congrArg some h2))⟩
  unfold rbytes_P bytesS
  by_cases h : n < 1
  · rw [br_dt h, if_pos h]; rfl
  · rw [br_df h, if_neg h, notf, wrapI (n := n - 1) (by omega) (by omega), Int.tdiv_eq_ediv_of_nonneg (by omega), wrapI (n := (n - 1) / 8) (by omega) (by omega), wrapI (by omega) (by omega)]; rfl
theorem v_power : Valid Try.prog n_power c_power := by
  refine valid_fn mixed hf_power (by kernel_rfl) rfl (ts := tmpsOf f_power.results.toList) (by kernel_rfl) (cfg := cfgW g_power) tt_ok Γok_nil power_tm c_power (by kernel_rfl) (fun _ _ _ _ => ⟨⟩) ?_
  rintro ⟨(n : Int), ⟨⟩⟩ r u h
  obtain ⟨h1, h2⟩ := grd_some h
  simp only [Bool.and_eq_true, decide_eq_true_eq] at h1 h2
  refine ⟨9, (power_rn _ _).trans (Eq.trans ?_ (congrArg some h2))⟩
  obtain ⟨k, rfl⟩ : ∃ k : Nat, n = k := ⟨n.toNat, by omega⟩
  have : k < 8 := by omega
  match k, this with
  | 0, _ => rfl
  | 1, _ => rfl
  | 2, _ => rfl
  | 3, _ => rfl
  | 4, _ => rfl
  | 5, _ => rfl
  | 6, _ => rfl
  | 7, _ => rfl
theorem v_get : Valid Try.prog n_get c_get := by
  refine valid_fn mixed hf_get (by kernel_rfl) rfl (ts := tmpsOf f_get.results.toList) (by kernel_rfl) (cfg := cfgW g_get) tt_ok Γok_nil get_tm c_get (by kernel_rfl) (fun _ _ _ _ => ⟨⟩) ?_
  rintro ⟨(b : List Int), (i : Int), ⟨⟩⟩ r u h
  obtain ⟨h1, h2⟩ := grd_some h
  simp only [Bool.and_eq_true] at h1 h2
  have hn := isN_of h1.2
  refine ⟨0, (get_rn _ _ _).trans (Eq.trans ?_ (congrArg some h2))⟩
  unfold get_P bitS
  simp only [sh3, and7]
  by_cases h0 : 0 ≤ i
  · rw [br_dt h0]
    by_cases h3 : i / 8 < (b.length : Int)
    · rw [br_dt h3, br_dt (by omega), br_dt h3, br_dt (by omega)]
      obtain ⟨y, hy⟩ := byte_fin (allB_get h1.1 (i / 8).toNat)
      rw [← hy, (byte_ops y ⟨(i % 8).toNat, by omega⟩).2.2.1]
      simp [h0, h3]
      rfl
    · rw [br_df h3]; simp [h3]; rfl
  · rw [br_df (by omega)]; simp [h0]; rfl
theorem v_rbit : Valid Try.prog n_rbit c_rbit := by
  refine valid_fn mixed hf_rbit (by kernel_rfl) rfl (ts := tmpsOf f_rbit.results.toList) (by kernel_rfl) (cfg := cfgW g_rbit) tt_ok (Γok_cons v_power Γok_nil) rbit_tm c_rbit (by kernel_rfl) (fun _ _ _ _ => ⟨⟩) ?_
  rintro ⟨(b : List Int), (i : Int), ⟨⟩⟩ r u h
  obtain ⟨h1, h2⟩ := grd_some h
  simp only [Bool.and_eq_true] at h1 h2
  have hn := isN_of h1.2
  refine ⟨0, (rbit_rn _ _ _).trans (Eq.trans ?_ (congrArg some h2))⟩
  unfold rbit_P bitS
  by_cases h0 : 0 ≤ i
  · have e1 : IntKind.i64.wrap (i.tdiv 8) = i / 8 := by rw [Int.tdiv_eq_ediv_of_nonneg h0]; exact wrapI (by omega) (by omega)
    have e2 : i.tmod 8 = i % 8 := Int.tmod_eq_emod_of_nonneg h0
    simp only [e1, e2]
    rw [br_df (by omega), notf]
    by_cases h3 : i / 8 < (b.length : Int)
    · obtain ⟨y, hy⟩ := byte_fin (allB_get h1.1 (i / 8).toNat)
      rw [br_df (by omega), notf, br_dt (by omega), br_dt h3, notf, bd_grd (by simp; omega)]
      have hp : (2 : Int) ^ (i % 8).toNat ≠ 0 := by have := Int.pow_pos (n := 2) (m := (i % 8).toNat) (by decide); omega
      rw [br_t (by simp [hp]), notf, ← hy, (byte_ops y ⟨(i % 8).toNat, by omega⟩).2.2.2.2.2.2.2.1]
      simp [h0, h3]
      rfl
    · rw [br_dt (by omega)]; simp [h3]; rfl
  · rw [br_dt (by omega)]; simp [h0]; rfl
theorem pk_step (n : Nat) (l : List Bool) (i : Nat) (hi : i < l.length) (hn : l.length / 8 ≤ n) (hn2 : l.length < 8 * n + 1) : pkN n (l.take (i + 1)) = if l.getD i false = true then (pkN n (l.take i)).set (i / 8) (setByte ((pkN n (l.take i)).getD (i / 8) 0) (i % 8) true) else pkN n (l.take i) := by
  have e : l.take (i + 1) = l.take i ++ [l.getD i false] := by
    rw [List.take_add_one, List.getD_eq_getElem?_getD, List.getElem?_eq_getElem hi]; rfl
  have hl : (l.take i).length = i := by simp; omega
  rw [e, pkN_snoc _ _ _ (by rw [hl]; omega), hl, pkN_get _ _ _ (by omega)]
  have hb := byteN_short 8 ((l.take i).drop (8 * (i / 8)))
  have hb0 := (byteN_lt 8 ((l.take i).drop (8 * (i / 8)))).1
  rw [List.length_drop, hl, show i - 8 * (i / 8) = i % 8 by omega] at hb
  have : setByte (byteN 8 ((l.take i).drop (8 * (i / 8)))) (i % 8) true = byteN 8 ((l.take i).drop (8 * (i / 8))) + 2 ^ (i % 8) := by
    unfold setByte
    rw [Int.ediv_eq_zero_of_lt hb0 hb]
    simp
  rw [this]
theorem pk_bit0 (n : Nat) (l : List Bool) (i : Nat) (hi : i < l.length) (hn : l.length < 8 * n + 1) : ((pkN n (l.take i)).getD (i / 8) 0 / 2 ^ (i % 8)) % 2 = 0 := by
  have hl : (l.take i).length = i := by simp; omega
  rw [pkN_get _ _ _ (by omega), byteN_bit _ _ _ (by omega)]
  rw [List.getD_eq_getElem?_getD, List.getElem?_drop, List.getElem?_eq_none (by rw [hl]; omega)]
  rfl
theorem v_pack : Valid Try.prog n_pack c_pack := by
  refine valid_fn mixed hf_pack (by kernel_rfl) rfl (ts := tmpsOf f_pack.results.toList) (by kernel_rfl) (cfg := cfgW g_pack) tt_ok (Γok_cons v_bytes Γok_nil) pack_tm c_pack (by kernel_rfl) (fun _ _ _ _ => ⟨⟩) ?_
  rintro ⟨(l : List Bool), ⟨⟩⟩ r u h
  obtain ⟨h1, h2⟩ := grd_some h
  simp only at h1 h2
  have hl := of_decide_eq_true h1
  refine ⟨l.length + 1, (pack_rn _ _).trans (Eq.trans ?_ (congrArg some h2))⟩
  unfold pack_P
  rw [bd_grd (isN_mk (by omega) (by omega))]
  simp only [bytesS_len]
  rw [br_dt (by omega), br_dt (by omega), br_dt (lim_mul (by omega) (by decide)), br_dt (lim_le (by omega)), Int.toNat_natCast, pkS_eq, ← pkN_nil]
  have := loopN_for (step := pack_L1) l.length (fun i => (pkN ((l.length + 7) / 8) (l.take i), l, (l.length : Int), (i : Int), ())) (res := some ((pkN ((l.length + 7) / 8) l, ()), (), ())) (fun i hi rec => ?_) (fun rec => ?_) (l.length + 1) (by omega)
  · rw [List.take_zero] at this; exact this
  · simp only [pack_L1, sh3, and7]
    have e1 : (i : Int) / 8 = ((i / 8 : Nat) : Int) := by omega
    have e2 : ((i : Int) % 8).toNat = i % 8 := by omega
    rw [br_dt (by omega), br_dt (by omega), br_dt (by omega), Int.toNat_natCast, e1, pkN_len, wrapI (by omega) (by omega), pk_step _ _ _ hi (by omega) (by omega)]
    by_cases hb : l.getD i false = true
    · rw [br_t hb, br_dt (by omega), br_dt (by omega), br_dt (by omega), br_dt (by omega), br_dt (by omega), if_pos hb, Int.toNat_natCast, e2]
      obtain ⟨y, hy⟩ := byte_fin (allB_get (allB_pkN ((l.length + 7) / 8) (l.take i)) (i / 8))
      rw [← hy, (byte_ops y ⟨i % 8, by omega⟩).1]
      simp
    · rw [br_f (by simpa using hb), if_neg hb]
      simp
  · simp only [pack_L1]
    rw [br_df (by omega), List.take_length]
theorem v_rpack : Valid Try.prog n_rpack c_rpack := by
  refine valid_fn mixed hf_rpack (by kernel_rfl) rfl (ts := tmpsOf f_rpack.results.toList) (by kernel_rfl) (cfg := cfgW g_rpack) tt_ok (Γok_cons v_rbytes (Γok_cons v_power Γok_nil)) rpack_tm c_rpack (by kernel_rfl) (fun _ _ _ _ => ⟨⟩) ?_
  rintro ⟨(l : List Bool), ⟨⟩⟩ r u h
  obtain ⟨h1, h2⟩ := grd_some h
  simp only at h1 h2
  have hl := of_decide_eq_true h1
  refine ⟨l.length + 1, (rpack_rn _ _).trans (Eq.trans ?_ (congrArg some h2))⟩
  unfold rpack_P
  rw [bd_grd (isN_mk (by omega) (by omega))]
  simp only [bytesS_len]
  rw [br_dt (by omega), br_dt (by omega), br_dt (lim_mul (by omega) (by decide)), br_dt (lim_le (by omega)), Int.toNat_natCast, pkS_eq, ← pkN_nil]
  have := loopN_for (step := rpack_L1) l.length (fun i => (l, pkN ((l.length + 7) / 8) (l.take i), (i : Int), ())) (res := some ((pkN ((l.length + 7) / 8) l, ()), (), ())) (fun i hi rec => ?_) (fun rec => ?_) (l.length + 1) (by omega)
  · rw [List.take_zero] at this; exact this
  · have e1 : IntKind.i64.wrap ((i : Int).tdiv 8) = ((i / 8 : Nat) : Int) := by rw [Int.tdiv_eq_ediv_of_nonneg (by omega)]; exact (wrapI (by omega) (by omega)).trans (by omega)
    have e2 : (i : Int).tmod 8 = ((i % 8 : Nat) : Int) := by rw [Int.tmod_eq_emod_of_nonneg (by omega)]; omega
    simp only [rpack_L1, e1, e2, pkN_len, Int.toNat_natCast, notf]
    rw [br_dt (by omega), br_dt (by omega), br_dt (by omega), wrapI (by omega) (by omega), pk_step _ _ _ hi (by omega) (by omega)]
    by_cases hb : l.getD i false = true
    · rw [br_t hb, br_dt (by omega), br_dt (by omega), bd_grd (by simp; omega), br_dt (by omega), br_dt (by omega), if_pos hb]
      have h0 := pk_bit0 ((l.length + 7) / 8) l i hi (by omega)
      obtain ⟨y, hy⟩ := byte_fin (allB_get (allB_pkN ((l.length + 7) / 8) (l.take i)) (i / 8))
      rw [← hy] at h0 ⊢
      rw [((byte_ops y ⟨i % 8, by omega⟩).2.2.2.2.2.1 h0).1]
      simp
    · rw [br_f (by simpa using hb), if_neg hb]
      simp
  · simp only [rpack_L1]
    rw [br_df (by omega), List.take_length]
theorem v_set : Valid Try.prog n_set c_set := by
  refine valid_fn mixed hf_set (by kernel_rfl) rfl (ts := tmpsOf f_set.results.toList) (by kernel_rfl) (cfg := cfgW g_set) tt_ok (Γok_cons v_cloneBytes Γok_nil) set_tm c_set (by kernel_rfl) (fun _ _ _ _ => ⟨⟩) ?_
  rintro ⟨(b : List Int), (i : Int), (v : Bool), ⟨⟩⟩ r u h
  obtain ⟨h1, h2⟩ := grd_some h
  simp only [Bool.and_eq_true, decide_eq_true_eq] at h1 h2
  have hn := isN_of h1.2.1
  refine ⟨0, (set_rn _ _ _ _).trans (Eq.trans ?_ (congrArg some h2))⟩
  unfold set_P setS
  rw [bd_grd (by simpa using h1.2.2)]
  simp only [sh3, and7, List.length_set]
  by_cases h0 : 0 ≤ i
  · rw [br_df (by omega)]
    by_cases h3 : i / 8 < (b.length : Int)
    · rw [br_df (by omega), br_dt (by omega), br_dt (by omega), br_dt h3, br_dt (by omega), br_dt h3, if_pos ⟨h0, h3⟩]
      obtain ⟨y, hy⟩ := byte_fin (allB_get h1.1 (i / 8).toNat)
      have eg : ∀ x : Int, (b.set (i / 8).toNat x).getD (i / 8).toNat 0 = x := fun x => by rw [List.getD_eq_getElem?_getD, List.getElem?_set_self (by omega)]; rfl
      rw [br_dt (by omega), br_dt h3, br_dt (by omega), br_dt h3, ← hy, (byte_ops y ⟨(i % 8).toNat, by omega⟩).2.1, eg, List.set_set]
      cases v with
      | false => rfl
      | true =>
        obtain ⟨z, hz⟩ := byte_fin (setByte_range (x := (y.val : Int)) (by omega) (k := (i % 8).toNat) (by omega) false)
        rw [show ((⟨(i % 8).toNat, by omega⟩ : Fin 8)).val = (i % 8).toNat from rfl, ← hz, (byte_ops z ⟨(i % 8).toNat, by omega⟩).1, hz, (byte_ops y ⟨(i % 8).toNat, by omega⟩).2.2.2.1]
        rfl
    · rw [br_dt (by omega), if_neg (fun h => h3 h.2)]; rfl
  · rw [br_dt (by omega), if_neg (fun h => h0 h.1)]; rfl
theorem v_rset : Valid Try.prog n_rset c_rset := by
  refine valid_fn mixed hf_rset (by kernel_rfl) rfl (ts := tmpsOf f_rset.results.toList) (by kernel_rfl) (cfg := cfgW g_rset) tt_ok (Γok_cons v_rbit (Γok_cons v_power Γok_nil)) rset_tm c_rset (by kernel_rfl) (fun _ _ _ _ => ⟨⟩) ?_
  rintro ⟨(b : List Int), (i : Int), (v : Bool), ⟨⟩⟩ r u h
  obtain ⟨h1, h2⟩ := grd_some h
  simp only [Bool.and_eq_true, decide_eq_true_eq] at h1 h2
  have hn := isN_of h1.2.1
  refine ⟨0, (rset_rn _ _ _ _).trans (Eq.trans ?_ (congrArg some h2))⟩
  unfold rset_P setS
  rw [br_dt (lim_mul (by omega) (by decide)), br_dt (lim_le (by omega))]
  by_cases h0 : 0 ≤ i
  · have e1 : IntKind.i64.wrap (i.tdiv 8) = i / 8 := by rw [Int.tdiv_eq_ediv_of_nonneg h0]; exact wrapI (by omega) (by omega)
    have e2 : i.tmod 8 = i % 8 := Int.tmod_eq_emod_of_nonneg h0
    simp only [e1, e2, notf]
    rw [br_df (by omega)]
    by_cases h3 : i / 8 < (b.length : Int)
    · rw [br_df (by omega), bd_grd (by simp [h1.1, h1.2.1]), if_pos ⟨h0, h3⟩]
      have hbit : bitS b i = ((b.getD (i / 8).toNat 0 / 2 ^ (i % 8).toNat) % 2 == 1) := by simp [bitS, h0, h3]
      simp only [hbit]
      obtain ⟨y, hy⟩ := byte_fin (allB_get h1.1 (i / 8).toNat)
      have hset : b.set (i / 8).toNat (b.getD (i / 8).toNat 0) = b := by
        apply List.ext_getElem
        · simp
        intro j q1 q2
        rw [List.getElem_set]
        split
        · rename_i e; subst e; rw [List.getD_eq_getElem?_getD, List.getElem?_eq_getElem q2]; rfl
        · rfl
      have ops := byte_ops y ⟨(i % 8).toNat, by omega⟩
      simp only at ops
      rw [← hy] at hset ⊢
      have hp : ((y.val : Int) / 2 ^ (i % 8).toNat) % 2 = 0 ∨ ((y.val : Int) / 2 ^ (i % 8).toNat) % 2 = 1 := by omega
      rcases hp with hp | hp
      · rw [hp]
        cases v with
        | false => rw [br_t (by decide), (ops.2.2.2.2.2.1 hp).2, hset]; rfl
        | true => rw [br_f (by decide), br_t rfl, br_dt (by omega), br_dt h3, bd_grd (by simp; omega), br_dt (by omega), br_dt h3, (ops.2.2.2.2.2.1 hp).1]; rfl
      · rw [hp]
        cases v with
        | true => rw [br_t (by decide), (ops.2.2.2.2.2.2.1 hp).2, hset]; rfl
        | false => rw [br_f (by decide), br_f rfl, br_dt (by omega), br_dt h3, bd_grd (by simp; omega), br_dt (by omega), br_dt h3, (ops.2.2.2.2.2.2.1 hp).1]; rfl
    · rw [br_dt (by omega), if_neg (fun h => h3 h.2)]; rfl
  · rw [br_dt (by omega), if_neg (fun h => h0 h.1)]; rfl
theorem range_set (n : Nat) (b : List Int) (i : Nat) (hi : i < n) : ((List.range i).map (fun (j : Nat) => bitS b (j : Int)) ++ List.replicate (n - i) false).set i (bitS b (i : Int)) = (List.range (i + 1)).map (fun (j : Nat) => bitS b (j : Int)) ++ List.replicate (n - (i + 1)) false := by
  rw [List.set_append_right _ _ (by simp), List.range_succ, List.map_append]
  simp only [List.length_map, List.length_range, Nat.sub_self, List.append_assoc]
  congr 1
  rw [show n - i = (n - (i + 1)) + 1 by omega, List.replicate_succ]
  rfl
theorem v_unpack : Valid Try.prog n_unpack c_unpack := by
  refine valid_fn mixed hf_unpack (by kernel_rfl) rfl (ts := tmpsOf f_unpack.results.toList) (by kernel_rfl) (cfg := cfgW g_unpack) tt_ok (Γok_cons v_bytes (Γok_cons v_get Γok_nil)) unpack_tm c_unpack (by kernel_rfl) (fun _ _ _ _ => ⟨⟩) ?_
  rintro ⟨(b : List Int), (n : Int), ⟨⟩⟩ r u h
  obtain ⟨h1, h2⟩ := grd_some h
  simp only [Bool.and_eq_true, decide_eq_true_eq] at h1 h2
  have hn := isN_of h1.2.1
  refine ⟨n.toNat + 1, (unpack_rn _ _ _).trans (Eq.trans ?_ (congrArg some h2))⟩
  unfold unpack_P unpackB
  by_cases h0 : n < 0
  · rw [br_dt h0, if_pos (.inl h0)]; rfl
  · rw [br_df h0, bd_grd h1.2.1]
    simp only
    by_cases hb : (b.length : Int) = bytesS n
    · rw [br_f (by simp [hb]), if_neg (by simp [h0, hb])]
      have hs : n < 8000008 := by
        unfold bytesS at hb
        split at hb <;> omega
      rw [br_dt (by omega), br_dt (by omega), br_dt (lim_mul' (by omega)), br_dt (lim_le' (by omega)), List.length_replicate]
      refine loopN_for (step := unpack_L1) n.toNat (fun i => (b, (List.range i).map (fun (j : Nat) => bitS b (j : Int)) ++ List.replicate (n.toNat - i) false, (n.toNat : Int), (i : Int), ())) (fun i hi rec => ?_) (fun rec => ?_) (n.toNat + 1) (by omega)
      · simp only [unpack_L1]
        rw [br_dt (by omega), bd_grd (by simp [h1.1, isN_mk (n := (i : Int)) (by omega) (by omega)]), br_dt (by omega), br_dt (by simp; omega), wrapI (by omega) (by omega), Int.toNat_natCast, range_set _ _ _ hi]
        simp
      · simp only [unpack_L1]
        rw [br_df (by omega)]
        simp
        rfl
    · rw [br_t (by simp [hb]), if_pos (.inr hb)]; rfl
theorem v_runpack : Valid Try.prog n_runpack c_runpack := by
  refine valid_fn mixed hf_runpack (by kernel_rfl) rfl (ts := tmpsOf f_runpack.results.toList) (by kernel_rfl) (cfg := cfgW g_runpack) tt_ok (Γok_cons v_rbytes (Γok_cons v_rbit Γok_nil)) runpack_tm c_runpack (by kernel_rfl) (fun _ _ _ _ => ⟨⟩) ?_
  rintro ⟨(b : List Int), (n : Int), ⟨⟩⟩ r u h
  obtain ⟨h1, h2⟩ := grd_some h
  simp only [Bool.and_eq_true, decide_eq_true_eq] at h1 h2
  have hn := isN_of h1.2.1
  refine ⟨n.toNat + 1, (runpack_rn _ _ _).trans (Eq.trans ?_ (congrArg some h2))⟩
  unfold runpack_P unpackB
  by_cases h0 : n < 0
  · rw [br_dt h0, if_pos (.inl h0)]; rfl
  · rw [br_df h0, bd_grd h1.2.1]
    simp only
    by_cases hb : (b.length : Int) = bytesS n
    · rw [br_f (by simp [hb]), if_neg (by simp [h0, hb])]
      have hs : n < 8000008 := by
        unfold bytesS at hb
        split at hb <;> omega
      refine loopN_for (step := runpack_L1) n.toNat (fun i => (b, n, (List.range i).map (fun (j : Nat) => bitS b (j : Int)), (i : Int), ())) (fun i hi rec => ?_) (fun rec => ?_) (n.toNat + 1) (by omega)
      · simp only [runpack_L1]
        rw [br_dt (by omega), bd_grd (by simp [h1.1, isN_mk (n := (i : Int)) (by omega) (by omega)]), wrapI (by omega) (by omega)]
        rw [br_dt (lim_mul' (by simp; omega)), br_dt (lim_le' (by simp; omega)), List.range_succ, List.map_append]
        rfl
      · simp only [runpack_L1]
        rw [br_df (by omega)]
        rfl
    · rw [br_t (by simp [hb]), if_pos (.inr hb)]; rfl
theorem v_awake2 : Valid Try.prog n_awake2 c_awake2 := by
  refine valid_fn mixed hf_awake2 (by kernel_rfl) rfl (ts := tmpsOf f_awake2.results.toList) (by kernel_rfl) (cfg := cfgW g_awake2) tt_ok (Γok_cons v_pack (Γok_cons v_unpack (Γok_cons v_bytes Γok_nil))) awake2_tm c_awake2 (by kernel_rfl) (fun _ _ _ _ => ⟨⟩) ?_
  rintro ⟨⟩ r u h
  exact ⟨0, (awake2_rn _).trans (Eq.trans (by kernel_rfl) h)⟩
end Go.BB
