/- The walks of layer 1 (round), second part: to the right, and to a float. -/
import Derived.Test.YtknijppdnfcknaaWr
namespace Go.Proofs.Ytknijppdnfcknaa
open Go.RowKit FF

theorem mod_shift (L n k : Nat) (hnk : n + k = 64) : L * 2^k % 18446744073709551616 = (L % 2^n) * 2^k := by
  have e : (18446744073709551616 : Nat) = 2^n * 2^k := by rw [← Nat.pow_add, hnk]
  rw [e, Nat.mul_mod_mul_right]
theorem wrap_ne (L n k : Nat) (hnk : n + k = 64) : (IntKind.u64.wrap ((L : Int) * 2^k) != 0) = decide (L % 2^n ≠ 0) := by
  rw [wrap_u64, pow_cast, ← Int.natCast_mul, show ((L * 2^k : Nat) : Int) % 18446744073709551616 = ((L * 2^k % 18446744073709551616 : Nat) : Int) by omega, mod_shift L n k hnk, Bool.eq_iff_iff]
  have hp := Nat.two_pow_pos k
  simp only [bne_iff_ne, decide_eq_true_eq]
  constructor
  · intro h h'; rw [h', Nat.zero_mul] at h; exact h rfl
  · intro h h'
    have : L % 2^n * 2^k = 0 := by omega
    rcases Nat.mul_eq_zero.1 this with h | h <;> omega
theorem hl_of (N : Nat) : ∃ H L : Nat, hiW N = H ∧ loW N = L ∧ N = H * 18446744073709551616 + L ∧ L < 18446744073709551616 :=
  ⟨N / 18446744073709551616, N % 18446744073709551616, rfl, rfl, by omega, by omega⟩
theorem right_mid {N n : Nat} (hN : N < 340282366920938463463374607431768211456) (h1 : 0 < n) (h2 : n < 64) :
    (((N / 2^n : Nat)) : Int) = hiW N / 2 ^ n * 18446744073709551616 + bits BinOp.or IntKind.u64 (loW N / 2 ^ n) (IntKind.u64.wrap (hiW N * 2 ^ (64 - n))) ∧
    0 ≤ bits BinOp.or IntKind.u64 (loW N / 2 ^ n) (IntKind.u64.wrap (hiW N * 2 ^ (64 - n))) ∧ bits BinOp.or IntKind.u64 (loW N / 2 ^ n) (IntKind.u64.wrap (hiW N * 2 ^ (64 - n))) < 18446744073709551616 ∧
    decide (N % 2^n ≠ 0) = (IntKind.u64.wrap (loW N * 2 ^ (64 - n)) != 0) := by
  obtain ⟨H, L, hH, hL, hNe, hL1⟩ := hl_of N
  rw [hH, hL]
  have hp := Nat.two_pow_pos n
  have hq := Nat.two_pow_pos (64 - n)
  have e : 2^(64-n) * 2^n = 18446744073709551616 := by
    rw [← Nat.pow_add, show 64 - n + n = 64 by omega]
  have hH1 : H < 18446744073709551616 := by omega
  have hlo : L / 2^n < 2^(64-n) := by rw [Nat.div_lt_iff_lt_mul hp, e]; exact hL1
  have hlo2 : L / 2^n < 18446744073709551616 := Nat.lt_of_le_of_lt (Nat.div_le_self _ _) hL1
  have hm : IntKind.u64.wrap ((H : Int) * 2 ^ (64 - n)) = ((H % 2^n * 2^(64-n) : Nat) : Int) := by
    rw [wrap_u64, pow_cast, ← Int.natCast_mul, show ((H * 2^(64-n) : Nat) : Int) % 18446744073709551616 = ((H * 2^(64-n) % 18446744073709551616 : Nat) : Int) by omega, mod_shift H n (64-n) (by omega)]
  have hm2 : H % 2^n * 2^(64-n) < 18446744073709551616 := by
    have := Nat.mod_lt H hp
    rw [← e, Nat.mul_comm (2^(64-n))]
    exact Nat.mul_lt_mul_of_pos_right this hq
  have hor : bits BinOp.or IntKind.u64 ((L : Int) / 2 ^ n) (IntKind.u64.wrap ((H : Int) * 2 ^ (64 - n))) = ((H % 2^n * 2^(64-n) + L / 2^n : Nat) : Int) := by
    rw [hm, pow_cast, ← Int.natCast_ediv, u64_or_nat _ _ hlo2 hm2, Nat.or_comm, nat_join (64-n) _ _ (Nat.mul_mod_left _ _) hlo]
  have hsum : H % 2^n * 2^(64-n) + L / 2^n < 18446744073709551616 := by
    have := Nat.mod_lt H hp
    have h3 : (H % 2^n + 1) * 2^(64-n) ≤ 2^n * 2^(64-n) := Nat.mul_le_mul_right _ (by omega)
    rw [Nat.mul_comm (2^n), e, Nat.add_mul, Nat.one_mul] at h3
    omega
  rw [hor]
  refine ⟨?_, Int.natCast_nonneg _, Int.ofNat_lt.2 hsum, ?_⟩
  · rw [pow_cast, ← Int.natCast_ediv]
    have key : N / 2^n = H / 2^n * 18446744073709551616 + (H % 2^n * 2^(64-n) + L / 2^n) := by
      rw [hNe, ← e]
      have : H * (2^(64-n) * 2^n) + L = L + 2^n * (H * 2^(64-n)) := by
        rw [Nat.mul_comm (2^(64-n)), ← Nat.mul_assoc, Nat.mul_comm H, Nat.mul_assoc]; omega
      rw [this, Nat.add_mul_div_left _ _ hp]
      have hd : H * 2^(64-n) = H / 2^n * (2^(64-n) * 2^n) + H % 2^n * 2^(64-n) := by
        have h4 := Nat.div_add_mod H (2^n)
        generalize H / 2^n = a at *
        generalize H % 2^n = b at *
        rw [← h4, Nat.add_mul]
        congr 1
        rw [Nat.mul_comm (2^n) a, Nat.mul_assoc, Nat.mul_comm (2^n)]
      omega
    omega
  · rw [wrap_ne L n (64-n) (by omega)]
    have : N % 2^n = L % 2^n := by
      rw [hNe, ← e]
      have : H * (2^(64-n) * 2^n) + L = L + 2^n * (H * 2^(64-n)) := by
        rw [Nat.mul_comm (2^(64-n)), ← Nat.mul_assoc, Nat.mul_comm H, Nat.mul_assoc]; omega
      rw [this, Nat.add_mul_mod_self_left]
    rw [this]
theorem right_far {N n : Nat} (hN : N < 340282366920938463463374607431768211456) (h1 : 64 ≤ n) (h2 : n < 128) :
    (((N / 2^n : Nat)) : Int) = 0 * 18446744073709551616 + hiW N / 2 ^ (n - 64) ∧ 0 ≤ hiW N / 2 ^ (n - 64) ∧ hiW N / 2 ^ (n - 64) < 18446744073709551616 ∧
    decide (N % 2^n ≠ 0) = (loW N != 0 || (IntKind.u64.wrap (hiW N * 2 ^ (128 - n)) != 0 && decide (64 < (n : Int)))) := by
  obtain ⟨H, L, hH, hL, hNe, hL1⟩ := hl_of N
  rw [hH, hL]
  have hH1 : H < 18446744073709551616 := by omega
  have hp := Nat.two_pow_pos (n - 64)
  have e : 2^n = 18446744073709551616 * 2^(n-64) := by
    rw [show (18446744073709551616 : Nat) = 2^64 by decide, ← Nat.pow_add]; congr 1; omega
  rw [pow_cast, ← Int.natCast_ediv]
  have hd : N / 2^n = H / 2^(n-64) := by
    rw [e, ← Nat.div_div_eq_div_mul]; congr 1; omega
  have hlt : H / 2^(n-64) < 18446744073709551616 := Nat.lt_of_le_of_lt (Nat.div_le_self _ _) hH1
  refine ⟨by rw [hd]; omega, Int.natCast_nonneg _, Int.ofNat_lt.2 hlt, ?_⟩
  have hmod : N % 2^n = H % 2^(n-64) * 18446744073709551616 + L := by
    rw [e, Nat.mod_mul]
    have a : N / 18446744073709551616 = H := by omega
    have b : N % 18446744073709551616 = L := by omega
    rw [a, b]; omega
  rw [hmod]
  by_cases h64 : n = 64
  · subst h64
    rw [Nat.sub_self, Nat.pow_zero, Nat.mod_one, Nat.zero_mul, Nat.zero_add, Bool.eq_iff_iff]; simp
  · rw [wrap_ne H (n - 64) (128 - n) (by omega)]
    have : decide (64 < (n : Int)) = true := by simp; omega
    rw [this, Bool.eq_iff_iff]
    simp
    omega
set_option maxRecDepth 100000 in
theorem right_b1 (neg : Bool) (N : Nat) (e : Int) (more : Bool) (n : Nat) (hN : N < 340282366920938463463374607431768211456) (h1 : 0 < n) (h2 : n < 64) (e1 : -100000 ≤ e) (e2 : e ≤ 100000) :
    Bl 91 #[exN neg N e more, .int .i64 n] (exN neg (N / 2^n) (e + n) (more || decide (N % 2^n ≠ 0))) := by
  intro w
  have HL := Lib.hid (right_mid hN h1 h2); clear hN
  go_enter Try.func91, Try.ntmps91
  go_wp2
  all_goals (go_region; go_wp2)
  all_goals refine bodyPost_ret (v := _) (by simp [results, Try.results91, go_sem]; rfl) rfl ⟨?_, ?_⟩
  all_goals first | (obtain ⟨a, b, c, d⟩ := HL.out; refine ret_val (exN_mk' rfl b c a rfl ?_); rw [d]; simp_all; done) | (repeat (first | exact Below.refl _ _ | refine Below.drew ?_ | refine below_drewN ?_ _ | refine Below.over ?_ (by simp <;> omega) _ | refine Below.alloc ?_ (by simp <;> omega) _ | refine Below.setCell ?_ (by simp <;> omega) _ | refine Below.alloc ?_ (by simp) _ | refine Below.setCell ?_ (by simp) _ | refine Below.over ?_ (by simp) _))
set_option maxRecDepth 100000 in
theorem right_b2 (neg : Bool) (N : Nat) (e : Int) (more : Bool) (n : Nat) (hN : N < 340282366920938463463374607431768211456) (h1 : 64 ≤ n) (h2 : n < 128) (e1 : -100000 ≤ e) (e2 : e ≤ 100000) :
    Bl 91 #[exN neg N e more, .int .i64 n] (exN neg (N / 2^n) (e + n) (more || decide (N % 2^n ≠ 0))) := by
  intro w
  have HL := Lib.hid (right_far hN h1 h2); clear hN
  go_enter Try.func91, Try.ntmps91
  go_wp2
  all_goals (go_region; go_wp2)
  all_goals refine bodyPost_ret (v := _) (by simp [results, Try.results91, go_sem]; rfl) rfl ⟨?_, ?_⟩
  all_goals first | (obtain ⟨a, b, c, d⟩ := HL.out; refine ret_val (exN_mk' rfl b c a rfl ?_); rw [d]; simp_all; done) | (repeat (first | exact Below.refl _ _ | refine Below.drew ?_ | refine below_drewN ?_ _ | refine Below.over ?_ (by simp <;> omega) _ | refine Below.alloc ?_ (by simp <;> omega) _ | refine Below.setCell ?_ (by simp <;> omega) _ | refine Below.alloc ?_ (by simp) _ | refine Below.setCell ?_ (by simp) _ | refine Below.over ?_ (by simp) _)) | skip
  all_goals trace_state
set_option maxRecDepth 100000 in
theorem right_b3 (neg : Bool) (N : Nat) (e : Int) (more : Bool) (n : Nat) (hN : N < 340282366920938463463374607431768211456) (h1 : 128 ≤ n) (h2 : n < 10000) (e1 : -100000 ≤ e) (e2 : e ≤ 100000) :
    Bl 91 #[exN neg N e more, .int .i64 n] (exN neg (N / 2^n) (e + n) (more || decide (N % 2^n ≠ 0))) := by
  intro w
  have hlt : N < 2^n := Nat.lt_of_lt_of_le hN (by rw [show (340282366920938463463374607431768211456 : Nat) = 2^128 by decide]; exact Nat.pow_le_pow_right (by omega) h1)
  rw [Nat.div_eq_of_lt hlt, Nat.mod_eq_of_lt hlt]
  clear hlt hN
  go_enter Try.func91, Try.ntmps91
  go_wp2_with fail
  · refine bodyPost_ret (v := _) (by simp [results, Try.results91, go_sem]; rfl) rfl ⟨?_, ?_⟩
    · exact ret_val (exN_mk' rfl (by omega) (by omega) (by omega) rfl (by simp_all))
    · repeat (first | exact Below.refl _ _ | refine Below.drew ?_ | refine below_drewN ?_ _ | refine Below.over ?_ (by simp <;> omega) _ | refine Below.alloc ?_ (by simp <;> omega) _ | refine Below.setCell ?_ (by simp <;> omega) _ | refine Below.alloc ?_ (by simp) _ | refine Below.setCell ?_ (by simp) _ | refine Below.over ?_ (by simp) _)
  · refine ((zero_b _ _ _ _).at _).mono ?_
    rintro _ _ ⟨rfl, X, rfl⟩
    go_wp2
    refine bodyPost_ret (v := _) (by simp [results, Try.results91, go_sem]; rfl) rfl ⟨?_, ?_⟩
    · exact ret_val (exN_mk' rfl (by omega) (by omega) (by omega) rfl (by simp_all))
    · repeat (first | exact Below.refl _ _ | refine Below.drew ?_ | refine below_drewN ?_ _ | refine Below.over ?_ (by simp <;> omega) _ | refine Below.alloc ?_ (by simp <;> omega) _ | refine Below.setCell ?_ (by simp <;> omega) _ | refine Below.alloc ?_ (by simp) _ | refine Below.setCell ?_ (by simp) _ | refine Below.over ?_ (by simp) _)
set_option maxRecDepth 100000 in
theorem right_b0 (neg : Bool) (N : Nat) (e : Int) (more : Bool) (e1 : -100000 ≤ e) (e2 : e ≤ 100000) :
    Bl 91 #[exN neg N e more, .int .i64 0] (exN neg N e more) := by
  intro w
  go_enter Try.func91, Try.ntmps91
  go_wp2
  refine bodyPost_ret (v := _) (by simp [results, Try.results91, go_sem]; rfl) rfl ⟨?_, ?_⟩
  · exact ret_val (exN_mk' rfl (loW_nonneg _) (loW_lt _) (W_eq _) (by omega) rfl)
  · repeat (first | exact Below.refl _ _ | refine Below.drew ?_ | refine below_drewN ?_ _ | refine Below.over ?_ (by simp <;> omega) _ | refine Below.alloc ?_ (by simp <;> omega) _ | refine Below.setCell ?_ (by simp <;> omega) _ | refine Below.alloc ?_ (by simp) _ | refine Below.setCell ?_ (by simp) _ | refine Below.over ?_ (by simp) _)
theorem right_b (neg : Bool) (N : Nat) (e : Int) (more : Bool) (n : Int) (hN : N < 340282366920938463463374607431768211456) (h0 : 0 ≤ n) (h1 : n < 10000) (e1 : -100000 ≤ e) (e2 : e ≤ 100000) :
    Bl 91 #[exN neg N e more, .int .i64 n] (exN neg (N / 2^n.toNat) (e + n) (more || decide (N % 2^n.toNat ≠ 0))) := by
  obtain ⟨n, rfl⟩ := Int.eq_ofNat_of_zero_le h0
  rw [Int.toNat_natCast]
  by_cases a : n = 0
  · subst a
    have := right_b0 neg N e more e1 e2
    rw [Nat.pow_zero, Nat.div_one, Nat.mod_one, show e + ((0 : Nat) : Int) = e by omega, show (more || decide (0 ≠ 0)) = more by simp]
    exact this
  · by_cases b : n < 64
    · exact right_b1 neg N e more n hN (by omega) b e1 e2
    · by_cases c : n < 128
      · exact right_b2 neg N e more n hN (by omega) c e1 e2
      · exact right_b3 neg N e more n hN (by omega) (by omega) e1 e2
end Go.Proofs.Ytknijppdnfcknaa
