/- math/bits.Div64. -/
import Derived.Test.YtknijppdnfcknaaWx
import Derived.Test.YtknijppdnfcknaaRa
import Derived.Deep.CutBlock
namespace Go.Proofs.Ytknijppdnfcknaa
open Go.RowKit FF

/-! one digit of the quotient: u * 2^32 + d over Y = y1 * 2^32 + y0 -/
structure Dig (y1 y0 u d : Nat) : Prop where
  a1 : 2147483648 ≤ y1
  a2 : y1 < 4294967296
  b : y0 < 4294967296
  u1 : u < y1 * 4294967296 + y0
  d1 : d < 4294967296
/-- the loop's relation -/
structure DigR (y1 y0 u d q r : Nat) : Prop where
  e : u = q * y1 + r
  t : (u * 4294967296 + d) / (y1 * 4294967296 + y0) ≤ q
  r : r < 4294967296
theorem DigR.q_lt {y1 y0 u d q r : Nat} (D : Dig y1 y0 u d) (h : DigR y1 y0 u d q r) : q < 17179869184 := by
  obtain ⟨a1, a2, b, u1, d1⟩ := D
  obtain ⟨e, t, r1⟩ := h
  rcases Nat.lt_or_ge q 17179869184 with h | h
  · exact h
  · exfalso
    have := Nat.mul_le_mul h a1
    omega
theorem dig_start {y1 y0 u d : Nat} (D : Dig y1 y0 u d) : DigR y1 y0 u d (u / y1) (u % y1) := by
  obtain ⟨a1, a2, b, u1, d1⟩ := D
  have hm := Nat.mod_lt u (show 0 < y1 by omega)
  have hd := Nat.div_add_mod u y1
  refine ⟨by rw [Nat.mul_comm]; exact hd.symm, ?_, by omega⟩
  refine Nat.le_of_lt_succ ((Nat.div_lt_iff_lt_mul (by omega)).2 ?_)
  show _ < (u / y1 + 1) * _
  rw [Nat.mul_add, Nat.add_mul, Nat.add_mul, Nat.mul_comm (u / y1) (y1 * 4294967296), Nat.one_mul, Nat.one_mul]
  have : y1 * 4294967296 * (u / y1) = (y1 * (u / y1)) * 4294967296 := by ac_rfl
  rw [this]
  generalize y1 * (u / y1) = A at *
  generalize u / y1 * y0 = C
  omega
theorem dig_big {y1 y0 u d : Nat} (D : Dig y1 y0 u d) : (u * 4294967296 + d) / (y1 * 4294967296 + y0) < 4294967296 := by
  obtain ⟨a1, a2, b, u1, d1⟩ := D
  refine (Nat.div_lt_iff_lt_mul (by omega)).2 ?_
  rw [Nat.mul_comm 4294967296]
  omega
theorem dig_down {y1 y0 u d q r : Nat} (D : Dig y1 y0 u d) (h : DigR y1 y0 u d q r) (hc : 4294967296 ≤ q ∨ 4294967296 * r + d < q * y0) :
    0 < q ∧ (u * 4294967296 + d) / (y1 * 4294967296 + y0) ≤ q - 1 ∧ u = (q - 1) * y1 + (r + y1) := by
  have hT : (u * 4294967296 + d) / (y1 * 4294967296 + y0) < q := by
    rcases hc with hc | hc
    · exact Nat.lt_of_lt_of_le (dig_big D) hc
    · obtain ⟨a1, a2, b, u1, d1⟩ := D
      obtain ⟨e, t, r1⟩ := h
      refine (Nat.div_lt_iff_lt_mul (by omega)).2 ?_
      rw [Nat.mul_add, ← Nat.mul_assoc, e]
      generalize q * y1 = A at *
      omega
  have h0 : 0 < q := Nat.lt_of_le_of_lt (Nat.zero_le _) hT
  refine ⟨h0, Nat.le_sub_one_of_lt hT, ?_⟩
  clear hT hc
  have := Nat.sub_mul q 1 y1
  have h2 : 1 * y1 ≤ q * y1 := Nat.mul_le_mul_right _ h0
  have := h.e
  omega
theorem dig_end {y1 y0 u d q r : Nat} (D : Dig y1 y0 u d) (e : u = q * y1 + r) (t : (u * 4294967296 + d) / (y1 * 4294967296 + y0) ≤ q) (hc : q * y0 ≤ 4294967296 * r + d) : q = (u * 4294967296 + d) / (y1 * 4294967296 + y0) := by
  obtain ⟨a1, a2, b, u1, d1⟩ := D
  refine Nat.le_antisymm ?_ t
  refine (Nat.le_div_iff_mul_le (by omega)).2 ?_
  rw [Nat.mul_add, ← Nat.mul_assoc, e]
  generalize q * y1 = A at *
  omega
theorem dig_break {y1 y0 u d q r : Nat} (D : Dig y1 y0 u d) (e : u = q * y1 + r) (t : (u * 4294967296 + d) / (y1 * 4294967296 + y0) ≤ q) (hr : 4294967296 ≤ r) : q = (u * 4294967296 + d) / (y1 * 4294967296 + y0) := by
  refine dig_end D e t ?_
  obtain ⟨a1, a2, b, u1, d1⟩ := D
  have hq : q < 4294967296 := by
    have : q * y1 < 4294967296 * y1 := by rw [Nat.mul_comm 4294967296]; omega
    exact Nat.lt_of_mul_lt_mul_right this
  have := Nat.mul_le_mul (Nat.le_of_lt hq) (Nat.le_of_lt b)
  omega
theorem wrap_sub3 (a d b : Int) : ((a % 18446744073709551616 + d) % 18446744073709551616 - b % 18446744073709551616) % 18446744073709551616 = (a + d - b) % 18446744073709551616 := by omega
/-- what is left -/
theorem dig_rest {y1 y0 u d : Nat} (D : Dig y1 y0 u d) {q Y : Nat} (hq : q = (u * 4294967296 + d) / Y) (hY : Y = y1 * 4294967296 + y0) :
    IntKind.u64.wrap (IntKind.u64.wrap (IntKind.u64.wrap ((u : Int) * 4294967296) + d) - IntKind.u64.wrap ((q : Int) * Y)) = (((u * 4294967296 + d) % Y : Nat) : Int) ∧ (u * 4294967296 + d) % Y < y1 * 4294967296 + y0 := by
  obtain ⟨a1, a2, b, u1, d1⟩ := D
  have hm := Nat.mod_lt (u * 4294967296 + d) (show 0 < Y by omega)
  have hd := Nat.div_add_mod (u * 4294967296 + d) Y
  rw [← hq] at hd
  refine ⟨?_, by omega⟩
  rw [wrap_u64, wrap_u64, wrap_u64, wrap_u64, wrap_sub3]
  have : (q : Int) * Y = ((Y * q : Nat) : Int) := by rw [Nat.mul_comm]; simp
  rw [this]
  generalize Y * q = A at *
  generalize (u * 4294967296 + d) % Y = R at *
  omega
theorem dig_first {y1 u : Nat} (h1 : u < 18446744073709551616) (h0 : 0 < y1) : IntKind.u64.wrap ((u : Int) - IntKind.u64.wrap ((u : Int) / y1 * y1)) = ((u % y1 : Nat) : Int) := by
  have hd := Nat.div_add_mod u y1
  have hm := Nat.mod_lt u h0
  rw [wrap_u64, wrap_u64]
  have : (u : Int) / y1 * y1 = ((y1 * (u / y1) : Nat) : Int) := by rw [Nat.mul_comm]; simp
  rw [this]
  generalize y1 * (u / y1) = A at *
  generalize u % y1 = R at *
  omega
theorem dig_join {P u d1 d0 A B r1 r0 : Nat} (hu : u = P / 18446744073709551616) (hd1 : d1 = P % 18446744073709551616 / 4294967296) (hd0 : d0 = P % 4294967296)
    (e1 : A + r1 = u * 4294967296 + d1) (e0 : B + r0 = r1 * 4294967296 + d0) : P = A * 4294967296 + B + r0 := by omega
set_option maxRecDepth 100000 in
set_option maxHeartbeats 4000000 in
theorem div64_b (hi lo y : Nat) (hy : hi < y) (hy2 : y < 18446744073709551616) (hlo : lo < 18446744073709551616) :
    Bl 79 #[.int .u64 hi, .int .u64 lo, .int .u64 y] (.tuple #[.int .u64 (((hi * 18446744073709551616 + lo) / y : Nat) : Int), .int .u64 (((hi * 18446744073709551616 + lo) % y : Nat) : Int)]) := by
  intro w
  by_cases h0 : hi = 0
  · subst h0
    rw [Nat.zero_mul, Nat.zero_add]
    have hz : ((y : Int) == 0) = false := by simp; omega
    have hz1 : ¬ ((y : Int) = 0) := by omega
    have hz2 : ¬ ((y : Int) ≤ 0) := by omega
    have hd : IntKind.u64.wrap ((lo : Int) / y) = ((lo / y : Nat) : Int) := by
      rw [wrap_u64, ← Int.natCast_ediv]
      have := Nat.div_le_self lo y
      generalize lo / y = a at *
      omega
    clear hlo hy2
    go_enter Try.func79, Try.ntmps79
    go_wp2
    go_region
    all_goals go_wp2
    all_goals refine bodyPost_ret (v := _) (by simp [results, Try.results79, go_sem]; rfl) rfl ?_
    all_goals refine ⟨ret_tup ?_ ?_, ?_⟩
    all_goals first
      | (rw [hd]; done)
      | (simp; done)
      | (repeat (first | exact Below.refl _ _ | refine Below.drew ?_ | refine below_drewN ?_ _ | refine Below.over ?_ (by simp <;> omega) _ | refine Below.alloc ?_ (by simp <;> omega) _ | refine Below.setCell ?_ (by simp <;> omega) _ | refine Below.alloc ?_ (by simp) _ | refine Below.setCell ?_ (by simp) _ | refine Below.over ?_ (by simp) _))
  · obtain ⟨s, hs⟩ : ∃ s, s = 64 - blen y := ⟨_, rfl⟩
    have hby : blen y ≤ 64 := blen_le_of_lt (n := 64) (by omega)
    have hb1 := blen_le (x := y) (by omega)
    have hb2 := blen_lt y
    have hb0 := blen_pos (x := y) (by omega)
    obtain ⟨Y, hY⟩ : ∃ Y, Y = y * 2^s := ⟨_, rfl⟩
    have hY1 : 9223372036854775808 ≤ Y := by
      have := Nat.mul_le_mul_right (2^s) hb1
      rw [← Nat.pow_add, show blen y - 1 + s = 63 by omega] at this
      rw [hY]; exact this
    have hY2 : Y < 18446744073709551616 := by
      have := Nat.mul_lt_mul_of_pos_right hb2 (Nat.two_pow_pos s)
      rw [← Nat.pow_add, show blen y + s = 64 by omega] at this
      rw [hY]; exact this
    obtain ⟨M, hM⟩ : ∃ M, M = hi * 18446744073709551616 + lo := ⟨_, rfl⟩
    rw [← hM]
    have hMl : M * 2^s < Y * 18446744073709551616 := by
      have hMy : M < y * 18446744073709551616 := by omega
      have e : Y * 18446744073709551616 = y * 18446744073709551616 * 2^s := by rw [hY]; ac_rfl
      rw [e]
      exact Nat.mul_lt_mul_of_pos_right hMy (Nat.two_pow_pos s)
    obtain ⟨P, hP⟩ : ∃ P, P = M * 2^s := ⟨_, rfl⟩
    rw [← hP] at hMl
    obtain ⟨y1, hy1⟩ : ∃ y1, y1 = Y / 4294967296 := ⟨_, rfl⟩
    obtain ⟨y0, hy0⟩ : ∃ y0, y0 = Y % 4294967296 := ⟨_, rfl⟩
    obtain ⟨u, hu⟩ : ∃ u, u = P / 18446744073709551616 := ⟨_, rfl⟩
    obtain ⟨d1, hd1⟩ : ∃ d1, d1 = P % 18446744073709551616 / 4294967296 := ⟨_, rfl⟩
    obtain ⟨d0, hd0⟩ : ∃ d0, d0 = P % 4294967296 := ⟨_, rfl⟩
    have D1 : Dig y1 y0 u d1 := by constructor <;> omega
    obtain ⟨q1, hq1⟩ : ∃ q1, q1 = (u * 4294967296 + d1) / Y := ⟨_, rfl⟩
    obtain ⟨r1, hr1⟩ : ∃ r1, r1 = (u * 4294967296 + d1) % Y := ⟨_, rfl⟩
    have hYe : Y = y1 * 4294967296 + y0 := by omega
    have R1 := dig_rest D1 hq1 hYe
    rw [← hr1] at R1
    have D2 : Dig y1 y0 r1 d0 := ⟨D1.a1, D1.a2, D1.b, R1.2, by omega⟩
    obtain ⟨q0, hq0⟩ : ∃ q0, q0 = (r1 * 4294967296 + d0) / Y := ⟨_, rfl⟩
    obtain ⟨r0, hr0⟩ : ∃ r0, r0 = (r1 * 4294967296 + d0) % Y := ⟨_, rfl⟩
    have R0 := dig_rest D2 hq0 hYe
    rw [← hr0] at R0
    have B1 : q1 < 4294967296 := by rw [hq1, hYe]; exact dig_big D1
    have B0 : q0 < 4294967296 := by rw [hq0, hYe]; exact dig_big D2
    -- the two digits
    have key : M / y = q1 * 4294967296 + q0 ∧ M % y = r0 / 2^s := by
      have e1 := Nat.div_add_mod (u * 4294967296 + d1) Y
      have e0 := Nat.div_add_mod (r1 * 4294967296 + d0) Y
      rw [← hq1, ← hr1] at e1
      rw [← hq0, ← hr0] at e0
      have hMe : P = Y * (q1 * 4294967296 + q0) + r0 := by
        rw [Nat.mul_add, ← Nat.mul_assoc]
        exact dig_join hu hd1 hd0 e1 e0
      have hr0l : r0 < Y := by rw [hYe]; exact R0.2
      have ps := Nat.two_pow_pos s
      constructor
      · rw [← Nat.mul_div_mul_right M y ps, ← hY, ← hP, hMe, Nat.mul_add_div (by omega), Nat.div_eq_of_lt hr0l, Nat.add_zero]
      · have : M * 2^s % (y * 2^s) = r0 := by rw [← hY, ← hP, hMe, Nat.mul_add_mod, Nat.mod_eq_of_lt hr0l]
        rw [Nat.mul_mod_mul_right] at this
        rw [← this, Nat.mul_div_cancel _ ps]
    rw [key.1, key.2]
    have LZ : Qt 97 #[.int .u64 (y : Int)] (.int .i64 (s : Int)) := by
      intro w
      refine (Try.bits_LeadingZeros64 y w (by omega) (by omega)).mono ?_
      rintro e w' ⟨rfl, rfl⟩
      have e : Lib.bitLen y = blen y := bitLen_blen 64 y hy2
      exact ⟨by simp [e]; omega, rfl⟩
    have hs63 : s ≤ 63 := by omega
    have hz : ((y : Int) == 0) = false := by simp; omega
    have hz2 : ¬ ((y : Int) ≤ hi) := by omega
    have hz3 : ((hi : Int) == 0) = false := by simp; omega
    obtain ⟨L, hL⟩ : ∃ L, L = P % 18446744073709551616 := ⟨_, rfl⟩
    have hMN : M < 340282366920938463463374607431768211456 := by omega
    have hW : hiW M = hi ∧ loW M = lo := by unfold hiW loW; omega
    have fY : IntKind.u64.wrap ((y : Int) * 2 ^ s) = (Y : Int) := by
      rw [wrap_u64, pow_cast, ← Int.natCast_mul, ← hY]; omega
    have fL : IntKind.u64.wrap ((lo : Int) * 2 ^ s) = (L : Int) := by
      rw [wrap_u64, pow_cast, ← Int.natCast_mul]
      have e : P = hi * 2^s * 18446744073709551616 + lo * 2^s := by
        rw [hP, hM, Nat.add_mul, Nat.mul_right_comm]
      rw [hL, e]
      generalize hi * 2^s = A
      generalize lo * 2^s = B
      omega
    have fu : bits .or .u64 (IntKind.u64.wrap ((hi : Int) * 2 ^ s)) ((lo : Int) / 2 ^ (64 - s)) = (u : Int) := by
      by_cases s0 : 0 < s
      · have hPl : M * 2^s < 340282366920938463463374607431768211456 := by rw [← hP]; omega
        have := left_mid hPl s0 (by omega)
        rw [hW.1, hW.2, fL, ← hP] at this
        have hLl : L < 18446744073709551616 := by omega
        generalize bits .or .u64 (IntKind.u64.wrap ((hi : Int) * 2 ^ s)) ((lo : Int) / 2 ^ (64 - s)) = Z at *
        clear hW fL fY key R1 R0 D1 D2 hq1 hq0 hr1 hr0
        omega
      · have s0 : s = 0 := by omega
        subst s0
        rw [wrap_u64, Int.pow_zero, Int.mul_one, show (lo : Int) / 2 ^ (64 - 0) = ((0 : Nat) : Int) by omega, show (hi : Int) % 18446744073709551616 = (hi : Int) by omega,
          u64_or_nat _ _ (by omega) (by omega), Nat.or_zero]
        rw [Nat.pow_zero, Nat.mul_one] at hP
        omega
    have fy1 : (Y : Int) / 4294967296 = (y1 : Int) := by omega
    have fy0 : bits .and .u64 (Y : Int) 4294967295 = (y0 : Int) := by
      have := bits_and_mask 32 (by omega) (Y : Int)
      rw [show ((2^32 - 1 : Nat) : Int) = 4294967295 by decide] at this
      rw [this]; omega
    have fd1 : (L : Int) / 4294967296 = (d1 : Int) := by omega
    have fd0 : bits .and .u64 (L : Int) 4294967295 = (d0 : Int) := by
      have := bits_and_mask 32 (by omega) (L : Int)
      rw [show ((2^32 - 1 : Nat) : Int) = 4294967295 by decide] at this
      rw [this]; omega
    have hne : ¬ ((y1 : Int) = 0) := by have := D1.a1; omega
    have hul : u < 18446744073709551616 := by omega
    have hr1l : r1 < 18446744073709551616 := by have := R1.2; omega
    have fq : IntKind.u64.wrap ((u : Int) / y1) = ((u / y1 : Nat) : Int) := by
      rw [wrap_u64, ← Int.natCast_ediv]; have := Nat.div_le_self u y1; generalize u / y1 = a at *; omega
    have fr := dig_first (y1 := y1) hul (by have := D1.a1; omega)
    have fq' : IntKind.u64.wrap ((r1 : Int) / y1) = ((r1 / y1 : Nat) : Int) := by
      rw [wrap_u64, ← Int.natCast_ediv]; have := Nat.div_le_self r1 y1; generalize r1 / y1 = a at *; omega
    have fr' := dig_first (y1 := y1) hr1l (by have := D1.a1; omega)
    have S1 := dig_start D1; have S2 := dig_start D2
    rw [← Int.natCast_ediv] at fr fr'
    have T1 : q1 = (u * 4294967296 + d1) / (y1 * 4294967296 + y0) := by rw [← hYe]; exact hq1
    have T0 : q0 = (r1 * 4294967296 + d0) / (y1 * 4294967296 + y0) := by rw [← hYe]; exact hq0
    have HD1 := Lib.hid (And.intro D1 (And.intro S1 T1)); have HD2 := Lib.hid (And.intro D2 (And.intro S2 T0))
    have HR1 := Lib.hid R1; have HR0 := Lib.hid R0; have HB := Lib.hid (And.intro B1 (And.intro B0 (And.intro hYe hY2)))
    have hr0l : r0 < 18446744073709551616 := by have := R0.2; omega
    generalize u / y1 = a1 at *
    generalize u % y1 = b1 at *
    generalize r1 / y1 = a2 at *
    generalize r1 % y1 = b2 at *
    clear h0 hs hby hb1 hb2 hb0 hMl key B1 B0 R1 R0 D1 D2 hY1 hY2 S1 S2 T1 T0 hq1 hq0 hY hM hP hy1 hy0 hu hd1 hd0 hr1 hr0 hYe hMN hW hL
    go_enter Try.func79, Try.ntmps79
    go_upto_block 0 with ((with_reducible refine (LZ.at _).mono ?_); rintro _ _ ⟨rfl, rfl⟩)
    go_cut [15] (fun s15 wx => s15 = .int .u64 (q1 : Int) ∧ wx = w)
    case first => as_aux_lemma =>
      clear HD2 HR1 HR0 HB LZ fq fr fq' fr' fY fL fu fy1 fy0 fd1 fd0 hz hz2 hz3 hy hy2 hlo hs63
      go_wp2_with fail
      go_loop [15, 16] (fun q r => ∃ a b : Nat, q = .int .u64 (a : Int) ∧ r = .int .u64 (b : Int) ∧ Hid (DigR y1 y0 u d1 a b)) (fun q _ => (intOf q).toNat)
      case atStart => exact ⟨_, _, rfl, rfl, Lib.hid HD1.out.2.1⟩
      case round =>
        obtain ⟨a, b, rfl, rfl, hR⟩ := hrel
        have D := HD1.out.1
        have h := hR.out
        have hal := h.q_lt D
        have hbl := h.r
        have y1l := D.a2
        have y0l := D.b
        have dl := D.d1
        have down : (4294967296 ≤ a ∨ 4294967296 * b + d1 < a * y0) → 0 < a ∧ (4294967296 ≤ b + y1 → a - 1 = q1) ∧ (b + y1 < 4294967296 → DigR y1 y0 u d1 (a - 1) (b + y1)) := by
          intro hc
          obtain ⟨h1, h2, h3⟩ := dig_down D h hc
          exact ⟨h1, fun h4 => (dig_break D h3 h2 h4).trans HD1.out.2.2.symm, fun h4 => ⟨h3, h2, h4⟩⟩
        have stop : a * y0 ≤ 4294967296 * b + d1 → a = q1 := fun hc => (dig_end D h.e h.t hc).trans HD1.out.2.2.symm
        clear D h hR
        obtain ⟨b', hb'⟩ : ∃ b', b' = b + y1 := ⟨_, rfl⟩
        obtain ⟨a', hae⟩ : ∃ a', a' = a - 1 := ⟨_, rfl⟩
        rw [← hb', ← hae] at down
        have hw1 : 0 < a → IntKind.u64.wrap ((a : Int) - 1) = (a' : Int) ∧ a' < a := by intro h0; rw [wrap_u64]; omega
        have hw2 : IntKind.u64.wrap ((b : Int) + y1) = (b' : Int) := by rw [wrap_u64]; omega
        by_cases hc1 : 4294967296 ≤ a
        · obtain ⟨h0, hbrk, hgo⟩ := down (.inl hc1)
          obtain ⟨hw1, ha'⟩ := hw1 h0
          have hc1' : decide ((4294967296 : Int) ≤ (a : Int)) = true := by simp; omega
          clear down stop hc1 hal hbl y1l y0l dl hb' hae
          by_cases hc2 : 4294967296 ≤ b'
          · have hq := hbrk hc2
            have hc2' : decide ((4294967296 : Int) ≤ (b' : Int)) = true := by simp; omega
            subst hq
            clear hgo hbrk hc2 h0 HD1
            go_wp2_with fail
            go_meet
            exact ⟨rfl, rfl⟩
          · have hg := Lib.hid (hgo (by omega))
            have hc2' : decide ((4294967296 : Int) ≤ (b' : Int)) = false := by simp; omega
            have hAA := Lib.hid ha'
            clear hgo hbrk hc2 h0 HD1 ha'
            go_wp2_with fail
            exact ⟨⟨a', b', rfl, rfl, hg⟩, by have := hAA.out; simp [intOf]; omega⟩
        · have hpl : a * y0 < 18446744073709551616 := by
            have := Nat.mul_le_mul (show a ≤ 4294967295 by omega) (show y0 ≤ 4294967295 by omega)
            omega
          obtain ⟨p, hp⟩ : ∃ p, p = a * y0 := ⟨_, rfl⟩
          obtain ⟨t1, ht1⟩ : ∃ t, t = 4294967296 * b := ⟨_, rfl⟩
          obtain ⟨t2, ht2⟩ : ∃ t, t = t1 + d1 := ⟨_, rfl⟩
          rw [← ht1, ← ht2, ← hp] at down stop
          have hw3 : IntKind.u64.wrap (4294967296 * (b : Int)) = (t1 : Int) := by rw [wrap_u64]; omega
          have hw4 : IntKind.u64.wrap ((t1 : Int) + d1) = (t2 : Int) := by rw [wrap_u64]; omega
          have hw5 : IntKind.u64.wrap ((a : Int) * y0) = (p : Int) := by
            rw [wrap_u64, ← Int.natCast_mul, ← hp]; rw [← hp] at hpl; omega
          have hc1' : decide ((4294967296 : Int) ≤ (a : Int)) = false := by simp; omega
          clear hp hpl ht1 ht2
          by_cases hc : t2 < p
          · obtain ⟨h0, hbrk, hgo⟩ := down (.inr hc)
            obtain ⟨hw1, ha'⟩ := hw1 h0
            have hc' : decide (t2 < p) = true := by simp; omega
            clear down stop hc hc1 hal hbl y1l y0l dl hb' hae
            by_cases hc2 : 4294967296 ≤ b'
            · have hq := hbrk hc2
              have hc2' : decide ((4294967296 : Int) ≤ (b' : Int)) = true := by simp; omega
              subst hq
              clear hgo hbrk hc2 h0 HD1
              go_wp2_with fail
              go_meet
              exact ⟨rfl, rfl⟩
            · have hg := Lib.hid (hgo (by omega))
              have hc2' : decide ((4294967296 : Int) ≤ (b' : Int)) = false := by simp; omega
              have hAA := Lib.hid ha'
              clear hgo hbrk hc2 h0 HD1 ha'
              go_wp2_with fail
              exact ⟨⟨a', b', rfl, rfl, hg⟩, by have := hAA.out; simp [intOf]; omega⟩
          · have hq := stop (by omega)
            have hc' : decide (t2 < p) = false := by simp; omega
            subst hq
            clear down stop hc hc1 hal hbl y1l y0l dl hb' hae hw1 hw2 HD1 hul hr1l hr0l hne
            go_wp2_with fail
            go_meet
            exact ⟨rfl, rfl⟩
    case rest => as_aux_lemma =>
      obtain ⟨rfl, rfl⟩ := hcut
      have hB1 := HB.out.1
      have hB0 := HB.out.2.1
      have hmin : min s 64 = s := by omega
      have fz1 : IntKind.u64.wrap ((q1 : Int) * 4294967296) = (q1 : Int) * 4294967296 := by rw [wrap_u64]; omega
      have fz2 : IntKind.u64.wrap ((q1 : Int) * 4294967296 + q0) = (q1 : Int) * 4294967296 + q0 := by rw [wrap_u64]; omega
      have F1 := HR1.out.1
      have F0 := HR0.out.1
      have HF := Lib.hid (And.intro fz1 (And.intro fz2 F0))
      clear HR1 HR0 HB LZ fq fr fY fL fu fy1 fy0 fd1 fd0 hz hz2 hz3 hy hy2 hlo hs63 HD1 hB1 hB0 fz1 fz2 F0
      go_upto_block 2 with fail
      go_cut [18] (fun s18 wx => s18 = .int .u64 (q0 : Int) ∧ wx = wc)
      case first => as_aux_lemma =>
        clear hmin fq' fr' F1 HF
        go_wp2_with fail
        go_loop [18, 16] (fun q r => ∃ a b : Nat, q = .int .u64 (a : Int) ∧ r = .int .u64 (b : Int) ∧ Hid (DigR y1 y0 r1 d0 a b)) (fun q _ => (intOf q).toNat)
        case atStart => exact ⟨_, _, rfl, rfl, Lib.hid HD2.out.2.1⟩
        case round =>
          obtain ⟨a, b, rfl, rfl, hR⟩ := hrel
          have D := HD2.out.1
          have h := hR.out
          have hal := h.q_lt D
          have hbl := h.r
          have y1l := D.a2
          have y0l := D.b
          have dl := D.d1
          have down : (4294967296 ≤ a ∨ 4294967296 * b + d0 < a * y0) → 0 < a ∧ (4294967296 ≤ b + y1 → a - 1 = q0) ∧ (b + y1 < 4294967296 → DigR y1 y0 r1 d0 (a - 1) (b + y1)) := by
            intro hc
            obtain ⟨h1, h2, h3⟩ := dig_down D h hc
            exact ⟨h1, fun h4 => (dig_break D h3 h2 h4).trans HD2.out.2.2.symm, fun h4 => ⟨h3, h2, h4⟩⟩
          have stop : a * y0 ≤ 4294967296 * b + d0 → a = q0 := fun hc => (dig_end D h.e h.t hc).trans HD2.out.2.2.symm
          clear D h hR
          obtain ⟨b', hb'⟩ : ∃ b', b' = b + y1 := ⟨_, rfl⟩
          obtain ⟨a', hae⟩ : ∃ a', a' = a - 1 := ⟨_, rfl⟩
          rw [← hb', ← hae] at down
          have hw1 : 0 < a → IntKind.u64.wrap ((a : Int) - 1) = (a' : Int) ∧ a' < a := by intro h0; rw [wrap_u64]; omega
          have hw2 : IntKind.u64.wrap ((b : Int) + y1) = (b' : Int) := by rw [wrap_u64]; omega
          by_cases hc1 : 4294967296 ≤ a
          · obtain ⟨h0, hbrk, hgo⟩ := down (.inl hc1)
            obtain ⟨hw1, ha'⟩ := hw1 h0
            have hc1' : decide ((4294967296 : Int) ≤ (a : Int)) = true := by simp; omega
            clear down stop hc1 hal hbl y1l y0l dl hb' hae
            by_cases hc2 : 4294967296 ≤ b'
            · have hq := hbrk hc2
              have hc2' : decide ((4294967296 : Int) ≤ (b' : Int)) = true := by simp; omega
              subst hq
              clear hgo hbrk hc2 h0 HD2
              go_wp2_with fail
              go_meet
              exact ⟨rfl, rfl⟩
            · have hg := Lib.hid (hgo (by omega))
              have hc2' : decide ((4294967296 : Int) ≤ (b' : Int)) = false := by simp; omega
              have hAA := Lib.hid ha'
              clear hgo hbrk hc2 h0 HD2 ha'
              go_wp2_with fail
              exact ⟨⟨a', b', rfl, rfl, hg⟩, by have := hAA.out; simp [intOf]; omega⟩
          · have hpl : a * y0 < 18446744073709551616 := by
              have := Nat.mul_le_mul (show a ≤ 4294967295 by omega) (show y0 ≤ 4294967295 by omega)
              omega
            obtain ⟨p, hp⟩ : ∃ p, p = a * y0 := ⟨_, rfl⟩
            obtain ⟨t1, ht1⟩ : ∃ t, t = 4294967296 * b := ⟨_, rfl⟩
            obtain ⟨t2, ht2⟩ : ∃ t, t = t1 + d0 := ⟨_, rfl⟩
            rw [← ht1, ← ht2, ← hp] at down stop
            have hw3 : IntKind.u64.wrap (4294967296 * (b : Int)) = (t1 : Int) := by rw [wrap_u64]; omega
            have hw4 : IntKind.u64.wrap ((t1 : Int) + d0) = (t2 : Int) := by rw [wrap_u64]; omega
            have hw5 : IntKind.u64.wrap ((a : Int) * y0) = (p : Int) := by
              rw [wrap_u64, ← Int.natCast_mul, ← hp]; rw [← hp] at hpl; omega
            have hc1' : decide ((4294967296 : Int) ≤ (a : Int)) = false := by simp; omega
            clear hp hpl ht1 ht2
            by_cases hc : t2 < p
            · obtain ⟨h0, hbrk, hgo⟩ := down (.inr hc)
              obtain ⟨hw1, ha'⟩ := hw1 h0
              have hc' : decide (t2 < p) = true := by simp; omega
              clear down stop hc hc1 hal hbl y1l y0l dl hb' hae
              by_cases hc2 : 4294967296 ≤ b'
              · have hq := hbrk hc2
                have hc2' : decide ((4294967296 : Int) ≤ (b' : Int)) = true := by simp; omega
                subst hq
                clear hgo hbrk hc2 h0 HD2
                go_wp2_with fail
                go_meet
                exact ⟨rfl, rfl⟩
              · have hg := Lib.hid (hgo (by omega))
                have hc2' : decide ((4294967296 : Int) ≤ (b' : Int)) = false := by simp; omega
                have hAA := Lib.hid ha'
                clear hgo hbrk hc2 h0 HD2 ha'
                go_wp2_with fail
                exact ⟨⟨a', b', rfl, rfl, hg⟩, by have := hAA.out; simp [intOf]; omega⟩
            · have hq := stop (by omega)
              have hc' : decide (t2 < p) = false := by simp; omega
              subst hq
              clear down stop hc hc1 hal hbl y1l y0l dl hb' hae hw1 hw2 HD2 hul hr1l hr0l hne
              go_wp2_with fail
              go_meet
              exact ⟨rfl, rfl⟩
      case rest => as_aux_lemma =>
        obtain ⟨rfl, rfl⟩ := hcut
        clear fq' fr' F1 HD2 hne hul hr1l hr0l
        obtain ⟨fz1, fz2, F0⟩ := HF.out
        clear HF
        go_wp2_with fail
        refine bodyPost_ret (v := _) (by simp [results, Try.results79, go_sem]; rfl) rfl ?_
        refine ⟨ret_tup ?_ ?_, ?_⟩
        · simp
        · simp
        · repeat (first | exact Below.refl _ _ | refine Below.drew ?_ | refine below_drewN ?_ _ | refine Below.over ?_ (by simp <;> omega) _ | refine Below.alloc ?_ (by simp <;> omega) _ | refine Below.setCell ?_ (by simp <;> omega) _ | refine Below.alloc ?_ (by simp) _ | refine Below.setCell ?_ (by simp) _ | refine Below.over ?_ (by simp) _)
end Go.Proofs.Ytknijppdnfcknaa
