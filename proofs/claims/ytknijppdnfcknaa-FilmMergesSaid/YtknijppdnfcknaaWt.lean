/- The walks of layer 1 (round), third part: a whole number times a power of two, as a float. -/
import Derived.Test.YtknijppdnfcknaaWs
namespace Go.Proofs.Ytknijppdnfcknaa
open Go.RowKit FF

set_option maxRecDepth 100000 in
theorem normalize_q (x : Nat) (h : x < 18446744073709551616) (hn : nn x) (h2 : 4503599627370496 ≤ rg x) : Qt 103 #[.float .f64 x] (.tuple #[.float .f64 x, .int .i64 0]) := by
  intro w
  have hlt : (FloatKind.f64.format.order (rg x) 4503599627370496 == some .lt) = false := by
    rw [show FloatKind.f64.format = Ieee.double from rfl, lt_num (by unfold nn; rw [rg_rg]; exact hn) (by decide)]
    have := @V_le 4503599627370496 (rg x)
    rw [I_rg, show I 4503599627370496 = V 4503599627370496 from I_rg 4503599627370496]
    simp; omega
  clear h2 hn
  go_enter Try.func103, Try.ntmps103
  go_wp2_with ((with_reducible refine ((abs_q _ h).at _).mono ?_); rintro e w' ⟨rfl, rfl⟩)
  go_ret2
  exact ⟨rfl, rfl⟩

/-- what 'ldexp' asks of its float: its kind -/
def LdFacts (x : Nat) : Prop := (FloatKind.f64.format.order x 0 == some .eq) = false ∧ (FloatKind.f64.format.order x 0 == some .lt) = false ∧
  Qt 103 #[.float .f64 x] (.tuple #[.float .f64 x, .int .i64 0]) ∧ Qt 71 #[.float .f64 x, .int .i64 0] (.bool false) ∧ Qt 76 #[.float .f64 x] (.bool false)
theorem ldFacts (x : Nat) (h : x < 9223372036854775808) (hf : fin x) (h2 : 4503599627370496 ≤ x) : LdFacts x := by
  have hr : rg x = x := Nat.mod_eq_of_lt h
  refine ⟨?_, ?_, normalize_q x (by omega) hf.nn (by omega), ?_, ?_⟩
  · rw [show FloatKind.f64.format = Ieee.double from rfl, eq_num hf.nn (by decide), I_zero]
    have := mt (@I_eq_zero x).1 (by omega)
    simp [this]
  · rw [show FloatKind.f64.format = Ieee.double from rfl, lt_num hf.nn (by decide), I_zero]
    have := I_rg x; rw [hr] at this
    rw [this]; simp
  · have hi : decide (rg x = 9218868437227405312) = false := by simp; exact ((fin_iff x).1 hf).2
    rw [← hi]; exact isInf_q x (by omega)
  · have hN : decide (¬ nn x) = false := by simp [hf.nn]
    rw [← hN]; exact isNaN_q x
set_option maxRecDepth 100000 in
theorem ldexp_hi (x : Nat) (hx : x < 9223372036854775808) (F : LdFacts x) (E : Int) (L : Nat) (hL : L ≤ 53) (hq : bits BinOp.and IntKind.i64 ((x : Int) / 4503599627370496) 2047 = (L : Int) + 1023) (e1 : -100000 ≤ E) (e2 : E ≤ 100000) (h : 1023 < E + L) :
    Qt 100 #[.float .f64 x, .int .i64 E] (.float .f64 9218868437227405312) := by
  intro w
  obtain ⟨hz, hl, c1, c2, c3⟩ := F
  have C1 := Lib.hid c1; have C2 := Lib.hid c2; have C3 := Lib.hid c3
  clear c1 c2 c3
  go_enter Try.func100, Try.ntmps100
  go_wp2_with (first | ((with_reducible refine ((C1.out).at _).mono ?_); rintro e w' ⟨rfl, rfl⟩) | ((with_reducible refine ((C2.out).at _).mono ?_); rintro e w' ⟨rfl, rfl⟩) | ((with_reducible refine ((C3.out).at _).mono ?_); rintro e w' ⟨rfl, rfl⟩) | ((with_reducible refine (inf_q.at _).mono ?_); rintro e w' ⟨rfl, rfl⟩))
  go_ret
  exact ⟨rfl, rfl⟩
theorem ld_clear (x : Nat) (hx : x < 9223372036854775808) : bits BinOp.andNot IntKind.u64 (x : Int) 9218868437227405312 = ((x % 4503599627370496 : Nat) : Int) := by
  have := u64_andNot_nat x 9218868437227405312 (by omega) (by omega)
  rw [show ((9218868437227405312 : Nat) : Int) = 9218868437227405312 from rfl] at this
  rw [this]
  have e : (18446744073709551615 - 9218868437227405312 : Nat) = 2^63 ||| (2^52 - 1) := by decide
  rw [e, Nat.and_or_distrib_left, nat_bit, Nat.and_two_pow_sub_one_eq_mod, Nat.div_eq_of_lt (by omega)]
  simp
theorem ld_or (x k : Nat) (K : Int) (hK : K = k) (hx : x < 9223372036854775808) (hk : k < 2047) :
    (bits BinOp.or IntKind.u64 (bits BinOp.andNot IntKind.u64 (x : Int) 9218868437227405312) (K * 4503599627370496)).toNat = k * 4503599627370496 + x % 4503599627370496 := by
  subst hK
  rw [ld_clear x hx, show ((k : Int) * 4503599627370496) = ((k * 4503599627370496 : Nat) : Int) by omega]
  have hl : x % 4503599627370496 < 2^52 := Nat.mod_lt _ (by omega)
  rw [u64_or_nat _ _ (by omega) (by omega), Nat.or_comm, nat_join 52 _ _ (by omega) hl, Int.toNat_natCast]
set_option maxRecDepth 100000 in
theorem ldexp_mid (x : Nat) (hx : x < 9223372036854775808) (F : LdFacts x) (E : Int) (L : Nat) (hL : L ≤ 53) (hq : bits BinOp.and IntKind.i64 ((x : Int) / 4503599627370496) 2047 = (L : Int) + 1023) (e1 : -100000 ≤ E) (e2 : E ≤ 100000) (h : E + L ≤ 1023) (h' : -1022 ≤ E + L)
    (R : Nat) (hm : floatBits .mul .f64 4607182418800017408 ((E + L + 1023).toNat * 4503599627370496 + x % 4503599627370496) = some R) :
    Qt 100 #[.float .f64 x, .int .i64 E] (.float .f64 R) := by
  intro w
  obtain ⟨hz, hl, c1, c2, c3⟩ := F
  have C1 := Lib.hid c1; have C2 := Lib.hid c2; have C3 := Lib.hid c3
  clear c1 c2 c3
  rw [← ld_or x (E + L + 1023).toNat (E + L + 1023) (by omega) hx (by omega)] at hm
  have HM := fun W => run_float_arith (P := Try.prog) W .mul 35 .f64 _ _ _ hm
  clear hm
  go_enter Try.func100, Try.ntmps100
  go_wp2_with (first | ((with_reducible refine ((C1.out).at _).mono ?_); rintro e w' ⟨rfl, rfl⟩) | ((with_reducible refine ((C2.out).at _).mono ?_); rintro e w' ⟨rfl, rfl⟩) | ((with_reducible refine ((C3.out).at _).mono ?_); rintro e w' ⟨rfl, rfl⟩) | ((with_reducible refine (inf_q.at _).mono ?_); rintro e w' ⟨rfl, rfl⟩))
  go_ret
  exact ⟨rfl, rfl⟩
set_option maxRecDepth 100000 in
theorem ldexp_lo (x : Nat) (hx : x < 9223372036854775808) (F : LdFacts x) (E : Int) (L : Nat) (hL : L ≤ 53) (hq : bits BinOp.and IntKind.i64 ((x : Int) / 4503599627370496) 2047 = (L : Int) + 1023) (e1 : -100000 ≤ E) (e2 : E ≤ 100000) (h : E + L < -1022) (h' : -1074 ≤ E + L)
    (R : Nat) (hm : floatBits .mul .f64 4368491638549381120 ((E + L + 53 + 1023).toNat * 4503599627370496 + x % 4503599627370496) = some R) :
    Qt 100 #[.float .f64 x, .int .i64 E] (.float .f64 R) := by
  intro w
  obtain ⟨hz, hl, c1, c2, c3⟩ := F
  have C1 := Lib.hid c1; have C2 := Lib.hid c2; have C3 := Lib.hid c3
  clear c1 c2 c3
  rw [← ld_or x (E + L + 53 + 1023).toNat (E + L + 53 + 1023) (by omega) hx (by omega)] at hm
  have HM := fun W => run_float_arith (P := Try.prog) W .mul 35 .f64 _ _ _ hm
  clear hm
  go_enter Try.func100, Try.ntmps100
  go_wp2_with (first | ((with_reducible refine ((C1.out).at _).mono ?_); rintro e w' ⟨rfl, rfl⟩) | ((with_reducible refine ((C2.out).at _).mono ?_); rintro e w' ⟨rfl, rfl⟩) | ((with_reducible refine ((C3.out).at _).mono ?_); rintro e w' ⟨rfl, rfl⟩) | ((with_reducible refine (inf_q.at _).mono ?_); rintro e w' ⟨rfl, rfl⟩))
  go_ret
  exact ⟨rfl, rfl⟩
theorem i64_and11 (a : Nat) (ha : a < 9223372036854775808) : bits .and .i64 (a : Int) 2047 = ((a % 2048 : Nat) : Int) := by
  show IntKind.i64.wrap ((BitVec.ofInt 64 (a : Int) &&& BitVec.ofInt 64 (2047 : Int)).toNat : Int) = _
  rw [BitVec.toNat_and, BitVec.ofInt_natCast, BitVec.toNat_ofNat, Nat.mod_eq_of_lt (by omega), show (BitVec.ofInt 64 (2047 : Int)).toNat = 2^11 - 1 by decide, Nat.and_two_pow_sub_one_eq_mod, IntKind.wrap_i64]
  omega
theorem floatBits_mul (x y : Nat) : floatBits .mul .f64 x y = Ieee.double.mul x y := rfl
theorem fin_one : fin 4607182418800017408 := by unfold fin rg; omega
theorem fin_53 : fin 4368491638549381120 := by unfold fin rg; omega
theorem ng_one : ng 4607182418800017408 = false := by unfold ng; decide
theorem ng_53 : ng 4368491638549381120 = false := by unfold ng; decide
theorem rg_one : rg 4607182418800017408 = 4607182418800017408 := by decide
theorem V_one : V 4607182418800017408 = U := rfl
theorem rg_53 (k : Nat) (hk : k = 969) : rg 4368491638549381120 = k * 2^52 + 2^52 := by unfold rg; omega
/-- a whole number up to 2^53 times 2^E, E from -1074 on: the word -/
def ldW (m : Nat) (E : Int) : Nat := min (flr (m * 2 ^ (E + 1074).toNat)) 9218868437227405312
theorem ldexp_q (m : Nat) (E : Int) (hm0 : 0 < m) (hm : m ≤ 2^53) (e1 : -1074 ≤ E) (e2 : E ≤ 100000) :
    Qt 100 #[.float .f64 (floatOfInt .f64 m), .int .i64 E] (.float .f64 (ldW m E)) := by
  obtain ⟨L, μ, hL, h1, h2, h⟩ := whole_form hm0 hm
  have hx : floatOfInt .f64 m = (L + 1022) * 2^52 + μ := by
    have := whole_nearest hL h1 h2 h false
    show Ieee.double.nearest (decide ((m : Int) < 0)) (m : Int).natAbs 0 = _
    rw [show decide ((m : Int) < 0) = false by simp, Int.natAbs_natCast, this, word_eq]; rfl
  generalize floatOfInt .f64 (m : Int) = x at *
  have hxl : x < 9223372036854775808 := by omega
  have hr : rg x = x := Nat.mod_eq_of_lt hxl
  have F := ldFacts x hxl (by unfold fin; omega) (by omega)
  have hq : bits BinOp.and IntKind.i64 ((x : Int) / 4503599627370496) 2047 = (L : Int) + 1023 := by
    rw [show ((x : Int) / 4503599627370496) = ((x / 4503599627370496 : Nat) : Int) by omega, i64_and11 _ (by omega)]
    omega
  have hxm : x % 4503599627370496 = μ - 2^52 := by omega
  obtain ⟨e, he⟩ : ∃ e : Nat, E = e - 1074 := ⟨(E + 1074).toNat, by omega⟩
  have hval : (E + 1074).toNat = e := by omega
  unfold ldW
  rw [hval]
  -- the value
  by_cases c1 : 1023 < E + L
  · have hge : 9218868437227405312 ≤ flr (m * 2^e) := by
      rw [le_flr, V_inf]
      obtain ⟨k, hk⟩ : ∃ k, k = 2046 := ⟨_, rfl⟩
      rw [top_eq k hk]
      have : 2^52 * 2^52 * 2^k ≤ m * 2^52 * 2^e := by
        rw [h, Nat.mul_assoc, Nat.mul_assoc]
        refine Nat.mul_le_mul h1 ?_
        rw [← Nat.pow_add, ← Nat.pow_add]
        exact Nat.pow_le_pow_right (by omega) (by omega)
      refine Nat.le_of_mul_le_mul_left (c := 2^52) ?_ (Nat.two_pow_pos _)
      rw [← Nat.mul_assoc, ← Nat.mul_assoc, Nat.mul_comm (2^52) m]; exact this
    rw [Nat.min_eq_right hge]
    exact ldexp_hi x hxl F E L hL hq (by omega) e2 c1
  · by_cases c2 : -1022 ≤ E + L
    · have hv : V ((E + L + 1022).toNat * 2^52 + μ) = m * 2^e := by
        rw [V_mk _ _ (by omega) (.inr h1)]
        refine Nat.eq_of_mul_eq_mul_right (Nat.two_pow_pos 52) ?_
        rw [Nat.mul_right_comm, Nat.mul_right_comm m, h, Nat.mul_assoc, Nat.mul_assoc, ← Nat.pow_add, ← Nat.pow_add]
        congr 2; omega
      have hlt : (E + L + 1022).toNat * 2^52 + μ < 9218868437227405312 := by omega
      rw [← hv, flr_V, Nat.min_eq_left (by omega)]
      refine ldexp_mid x hxl F E L hL hq (by omega) e2 (by omega) c2 _ ?_
      obtain ⟨r, hr0⟩ : ∃ r, r = (E + L + 1022).toNat * 2^52 + μ := ⟨_, rfl⟩
      have e3 : (E + L + 1023).toNat * 4503599627370496 + x % 4503599627370496 = r := by
        have a1 : (E + L + 1023).toNat = (E + L + 1022).toNat + 1 := by omega
        rw [hr0, hxm, a1]
        generalize (E + L + 1022).toNat = k
        clear hq F hv hlt hval h
        omega
      rw [e3, ← hr0]
      rw [← hr0] at hv hlt
      have hr : rg r = r := Nat.mod_eq_of_lt (by omega)
      have := mul_exact (x := 4607182418800017408) (y := r) (r := r) fin_one (by unfold fin; omega) (by rw [hr, rg_one, V_one, Nat.mul_comm]) (by omega)
      rw [floatBits_mul, this, word_eq]
      have hn : ng r = false := by have := ng_rg r; rw [hr] at this; exact this
      rw [hn, ng_one]; simp
    · have hv : V ((E + L + 1075).toNat * 2^52 + μ) = m * 2^e * 2^53 := by
        rw [V_mk _ _ (by omega) (.inr h1)]
        refine Nat.eq_of_mul_eq_mul_right (Nat.two_pow_pos 52) ?_
        rw [show m * 2^e * 2^53 * 2^52 = (m * 2^52) * (2^e * 2^53) by ac_rfl, h, Nat.mul_assoc, Nat.mul_assoc, ← Nat.pow_add, ← Nat.pow_add, ← Nat.pow_add]
        congr 2; omega
      have hsmall : m * 2^e < 2^53 := by
        have : m * 2^52 * 2^e < 2^53 * 2^52 := by
          rw [h, Nat.mul_assoc, ← Nat.pow_add]
          refine Nat.lt_of_lt_of_le (Nat.mul_lt_mul_of_pos_right h2 (Nat.two_pow_pos _)) ?_
          exact Nat.mul_le_mul_left _ (Nat.pow_le_pow_right (by omega) (by omega))
        rw [Nat.mul_right_comm] at this
        exact Nat.lt_of_mul_lt_mul_right this
      have hvs : V (m * 2^e) = m * 2^e := by
        have := V_mk 0 (m * 2^e) (by omega) (.inl rfl)
        rw [Nat.zero_mul, Nat.zero_add, Nat.pow_zero, Nat.mul_one] at this; exact this
      have hfl : flr (m * 2^e) = m * 2^e := by
        have := flr_V (m * 2^e); rw [hvs] at this; exact this
      rw [hfl, Nat.min_eq_left (by omega)]
      refine ldexp_lo x hxl F E L hL hq (by omega) e2 (by omega) (by omega) _ ?_
      obtain ⟨r, hr0⟩ : ∃ r, r = (E + L + 1075).toNat * 2^52 + μ := ⟨_, rfl⟩
      have e3 : (E + L + 53 + 1023).toNat * 4503599627370496 + x % 4503599627370496 = r := by
        have a1 : (E + L + 53 + 1023).toNat = (E + L + 1075).toNat + 1 := by omega
        rw [hr0, hxm, a1]
        generalize (E + L + 1075).toNat = k
        clear hq F hv hval h
        omega
      have hlt : r < 9218868437227405312 := by omega
      rw [e3]
      rw [← hr0] at hv
      generalize m * 2^e = v at *
      have hr : rg r = r := Nat.mod_eq_of_lt (by omega)
      have hu : V (rg 4368491638549381120) * 2^53 = U := by
        obtain ⟨k, hk⟩ : ∃ k, k = 969 := ⟨_, rfl⟩
        have hk2 : 52 + k + 53 = 1074 := by rw [hk]
        have := V_mk k (2^52) (by omega) (.inr (by omega))
        rw [rg_53 k hk, this, ← Nat.pow_add, ← Nat.pow_add, U_eq (52 + k + 53) hk2]
      have := mul_exact (x := 4368491638549381120) (y := r) (r := v) fin_53 (by unfold fin; omega) (by rw [hr, hvs, hv, ← hu, Nat.mul_left_comm]) (by omega)
      rw [floatBits_mul, this, word_eq]
      have hn : ng r = false := by have := ng_rg r; rw [hr] at this; exact this
      rw [hn, ng_53]; simp
theorem ldexp_top (m : Nat) (E : Int) (hm0 : 0 < m) (hm : m ≤ 2^53) (e1 : -1074 ≤ E) (e2 : E ≤ 100000) :
    Qt 94 #[.float .f64 (floatOfInt .f64 m), .int .i64 E] (.float .f64 (ldW m E)) := by
  intro w
  have H := Lib.hid (ldexp_q m E hm0 hm e1 e2)
  generalize floatOfInt .f64 (m : Int) = x at *
  generalize ldW m E = y at *
  clear hm hm0
  go_enter Try.func94, Try.ntmps94
  go_wp2_with ((with_reducible refine ((H.out).at _).mono ?_); rintro e w' ⟨rfl, rfl⟩)
  go_ret
  exact ⟨rfl, rfl⟩
set_option maxRecDepth 100000 in
theorem ldexp_zero (E : Int) : Qt 94 #[.float .f64 0, .int .i64 E] (.float .f64 0) := by
  intro w
  have hz : (FloatKind.f64.format.order 0 0 == some .eq) = true := by decide
  have H : Qt 100 #[.float .f64 0, .int .i64 E] (.float .f64 0) := by
    intro w
    go_enter Try.func100, Try.ntmps100
    go_wp2
    go_ret
    exact ⟨rfl, rfl⟩
  have H := Lib.hid H
  clear hz
  go_enter Try.func94, Try.ntmps94
  go_wp2_with ((with_reducible refine ((H.out).at _).mono ?_); rintro e w' ⟨rfl, rfl⟩)
  go_ret
  exact ⟨rfl, rfl⟩
theorem ldW_zero (E : Int) : ldW 0 E = 0 := by unfold ldW; rw [Nat.zero_mul]; decide
theorem ldW_le (m : Nat) (E : Int) : ldW m E ≤ 9218868437227405312 := Nat.min_le_right _ _
theorem ldW_lt (m : Nat) (E : Int) : ldW m E < 18446744073709551616 := by have := ldW_le m E; omega
theorem ldexp_i (k E : Int) (h0 : 0 ≤ k) (h1 : k ≤ 9007199254740992) (e1 : -1074 ≤ E) (e2 : E ≤ 100000) :
    Qt 94 #[.float .f64 (floatOfInt .f64 k), .int .i64 E] (.float .f64 (ldW k.toNat E)) := by
  obtain ⟨m, rfl⟩ := Int.eq_ofNat_of_zero_le h0
  by_cases hm : m = 0
  · subst hm
    have e : floatOfInt .f64 ((0 : Nat) : Int) = 0 := by decide
    rw [e, Int.toNat_natCast, ldW_zero]; exact ldexp_zero E
  · exact ldexp_top m E (by omega) (by omega) e1 e2
end Go.Proofs.Ytknijppdnfcknaa
