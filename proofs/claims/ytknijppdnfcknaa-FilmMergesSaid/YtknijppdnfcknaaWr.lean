/- The walks of layer 1 (round), first part: what a number is, its word, places. -/
import Derived.Test.YtknijppdnfcknaaWb
import Derived.Test.YtknijppdnfcknaaSh
namespace Go.Proofs.Ytknijppdnfcknaa
open Go.RowKit FF

theorem ret_bool {a b : Bool} (h : a = b) : Ending.returned (.bool a) = .returned (.bool b) := by rw [h]
theorem ret_int {k : IntKind} {a b : Int} (h : a = b) : Ending.returned (.int k a) = .returned (.int k b) := by rw [h]
theorem ret_float {a b : Nat} (h : a = b) : Ending.returned (.float .f64 a) = .returned (.float .f64 b) := by rw [h]
theorem ret_val {a b : Value} (h : a = b) : Ending.returned a = .returned b := by rw [h]
set_option maxRecDepth 100000 in
theorem isNaN_q (x : Nat) : Qt 76 #[.float .f64 x] (.bool (decide (¬ nn x))) := by
  rw [← nan_self]
  intro w
  go_enter Try.func76, Try.ntmps76
  go_wp2
  go_ret
  exact ⟨rfl, rfl⟩
theorem andNot63 (x : Nat) (h : x < 18446744073709551616) : (bits BinOp.andNot IntKind.u64 (x : Int) 9223372036854775808).toNat = rg x := by
  have := u64_andNot_nat x 9223372036854775808 h (by omega)
  rw [show ((9223372036854775808 : Nat) : Int) = 9223372036854775808 from rfl] at this
  rw [this]
  unfold rg
  show x &&& (18446744073709551615 - 9223372036854775808) = _
  exact Nat.and_two_pow_sub_one_eq_mod x 63
set_option maxRecDepth 100000 in
theorem abs_q (x : Nat) (h : x < 18446744073709551616) : Qt 89 #[.float .f64 x] (.float .f64 (rg x)) := by
  intro w
  rw [← andNot63 x h]
  go_enter Try.func89, Try.ntmps89
  go_wp2
  go_ret
  exact ⟨rfl, rfl⟩
set_option maxRecDepth 100000 in
theorem isInf_q (x : Nat) (h : x < 18446744073709551616) : Qt 71 #[.float .f64 x, .int .i64 0] (.bool (decide (rg x = 9218868437227405312))) := by
  rw [← isInf_eq]
  intro w
  go_enter Try.func71, Try.ntmps71
  go_wp2_with ((with_reducible refine ((abs_q _ h).at _).mono ?_); rintro e w' ⟨rfl, rfl⟩)
  refine bodyPost_ret (v := _) (by simp [results, Try.results71, go_sem]; rfl) rfl ⟨?_, ?_⟩
  · rfl
  · rfl
set_option maxRecDepth 100000 in
theorem number_q (x : Nat) (h : x < 18446744073709551616) : Qt 57 #[.float .f64 x] (.bool (decide (fin x))) := by
  intro w
  have e := fin_iff x
  have E := Lib.hid e; clear e
  go_enter Try.func57, Try.ntmps57
  go_wp2_with (first | ((with_reducible refine ((isNaN_q _).at _).mono ?_); rintro e w' ⟨rfl, rfl⟩) | ((with_reducible refine ((isInf_q _ h).at _).mono ?_); rintro e w' ⟨rfl, rfl⟩))
  all_goals refine bodyPost_ret (v := _) (by simp [results, Try.results57, go_sem]; rfl) rfl ⟨?_, ?_⟩
  · refine ret_bool ?_
    have := E.out
    rw [Bool.eq_iff_iff]; simp_all
  · rfl
  · refine ret_bool ?_
    have := E.out
    rw [Bool.eq_iff_iff]; simp_all
  · rfl

set_option maxRecDepth 100000 in
theorem two_q (x y : Nat) (hx : x < 18446744073709551616) (hy : y < 18446744073709551616) : Qt 72 #[.float .f64 x, .float .f64 y] (.bool (decide (fin x) && decide (fin y))) := by
  intro w
  go_enter Try.func72, Try.ntmps72
  go_wp2_with (first | ((with_reducible refine ((number_q x hx).at _).mono ?_); rintro e w' ⟨rfl, rfl⟩) | ((with_reducible refine ((number_q y hy).at _).mono ?_); rintro e w' ⟨rfl, rfl⟩))
  all_goals refine bodyPost_ret (v := _) (by simp [results, Try.results72, go_sem]; rfl) rfl ⟨?_, ?_⟩
  all_goals first | rfl | (refine ret_bool ?_; simp_all)
set_option maxRecDepth 100000 in
theorem plain_q (x : Nat) (hx : x < 18446744073709551616) (hn : nn x) : Qt 95 #[.float .f64 x] (.float .f64 (pl x)) := by
  intro w
  have hk := fun W => run_float_arith (P := Try.prog) W .add 35 .f64 x 0 (pl x) (add_zero_pl hn hx)
  clear hn hx
  go_enter Try.func95, Try.ntmps95
  go_wp2
  go_ret
  exact ⟨rfl, rfl⟩
theorem inf_q : Qt 19 #[.int .i64 1] (.float .f64 9218868437227405312) := by
  intro w
  go_enter Try.func19, Try.ntmps19
  go_wp2
  go_ret
  exact ⟨rfl, rfl⟩
theorem ninf_q : Qt 19 #[.int .i64 (-1)] (.float .f64 18442240474082181120) := by
  intro w
  go_enter Try.func19, Try.ntmps19
  go_wp2
  go_ret
  exact ⟨rfl, rfl⟩
theorem bits_and_mask (k : Nat) (hk : k ≤ 64) (a : Int) : bits BinOp.and IntKind.u64 a ((2^k - 1 : Nat) : Int) = a % ((2^k : Nat) : Int) := by
  show IntKind.u64.wrap (((BitVec.ofInt 64 a) &&& (BitVec.ofInt 64 ((2^k - 1 : Nat) : Int))).toNat : Int) = _
  rw [BitVec.toNat_and, BitVec.ofInt_natCast, BitVec.toNat_ofNat, BitVec.toNat_ofInt]
  have hp : 2^k ≤ 2^64 := Nat.pow_le_pow_right (by omega) hk
  have hk0 := Nat.two_pow_pos k
  rw [Nat.mod_eq_of_lt (a := 2^k - 1) (by omega), Nat.and_two_pow_sub_one_eq_mod]
  have e : (((a % ((2^64 : Nat) : Int)).toNat % 2^k : Nat) : Int) = a % ((2^k : Nat) : Int) := by
    rw [Int.natCast_emod, Int.toNat_of_nonneg (Int.emod_nonneg _ (by omega))]
    exact Int.emod_emod_of_dvd _ (Int.natCast_dvd_natCast.2 (Nat.pow_dvd_pow 2 hk))
  rw [show IntKind.u64.wrap (((a % ((2^64 : Nat) : Int)).toNat % 2^k : Nat) : Int) = (((a % ((2^64 : Nat) : Int)).toNat % 2^k : Nat) : Int) % 18446744073709551616 by simp [IntKind.wrap, IntKind.bits, IntKind.signed]]
  rw [e]
  have h1 := Int.emod_nonneg a (b := ((2^k : Nat) : Int)) (by omega)
  have h2 := Int.emod_lt_of_pos a (b := ((2^k : Nat) : Int)) (by omega)
  rw [Int.emod_eq_of_lt h1 (by omega)]
theorem bits_and52 (a : Int) : bits BinOp.and IntKind.u64 a 4503599627370495 = a % 4503599627370496 := bits_and_mask 52 (by omega) a
theorem bits_and11 (a : Int) : bits BinOp.and IntKind.u64 a 2047 = a % 2048 := bits_and_mask 11 (by omega) a
theorem bits_or52 (a : Int) : bits BinOp.or IntKind.u64 (a % 4503599627370496) 4503599627370496 = a % 4503599627370496 + 4503599627370496 := by
  obtain ⟨n, hn⟩ := Int.eq_ofNat_of_zero_le (Int.emod_nonneg a (b := 4503599627370496) (by omega))
  have hl : n < 4503599627370496 := by omega
  rw [hn]
  have := u64_or_nat n 4503599627370496 (by omega) (by omega)
  rw [show ((4503599627370496 : Nat) : Int) = 4503599627370496 from rfl] at this
  rw [this, Nat.or_comm, nat_join 52 4503599627370496 n (by decide) hl]; omega
theorem wrap64_2048 (a : Int) : wrap64 (a % 2048) = a % 2048 := by unfold wrap64; omega
theorem wrap64_2048s (a : Int) : wrap64 (a % 2048 - 1075) = a % 2048 - 1075 := by unfold wrap64; omega

/-- the upper and the lower 64 bits of a word of 128 -/
def hiW (N : Nat) : Int := ((N / 18446744073709551616 : Nat) : Int)
def loW (N : Nat) : Int := ((N % 18446744073709551616 : Nat) : Int)
theorem hiW_nonneg (N : Nat) : 0 ≤ hiW N := by unfold hiW; omega
theorem loW_nonneg (N : Nat) : 0 ≤ loW N := by unfold loW; omega
theorem loW_lt (N : Nat) : loW N < 18446744073709551616 := by unfold loW; omega
theorem hiW_lt {N : Nat} (h : N < 340282366920938463463374607431768211456) : hiW N < 18446744073709551616 := by unfold hiW; omega
theorem W_eq (N : Nat) : (N : Int) = hiW N * 18446744073709551616 + loW N := by unfold hiW loW; omega
theorem hiW_of {N : Nat} {hi lo : Int} (h0 : 0 ≤ lo) (hl : lo < 18446744073709551616) (h2 : (N : Int) = hi * 18446744073709551616 + lo) : hiW N = hi ∧ loW N = lo := by
  unfold hiW loW; omega
/-- round.exact as a value: the word N, its power, its sign, and whether something is added -/
abbrev exN (neg : Bool) (N : Nat) (e : Int) (more : Bool) : Value :=
  .agg #[.bool neg, .int .u64 (hiW N), .int .u64 (loW N), .int .i64 e, .bool more]
def mnt (x : Nat) : Nat := if x / 4503599627370496 % 2048 = 0 then x % 4503599627370496 else x % 4503599627370496 + 4503599627370496
def exo (x : Nat) : Int := if x / 4503599627370496 % 2048 = 0 then -1074 else ((x / 4503599627370496 % 2048 : Nat) : Int) - 1075
theorem exN_mk' {neg neg' : Bool} {N : Nat} {hi lo e e' : Int} {more more' : Bool} (h1 : neg' = neg) (h0 : 0 ≤ lo) (hl : lo < 18446744073709551616) (h2 : (N : Int) = hi * 18446744073709551616 + lo) (h3 : e' = e) (h4 : more' = more) :
    Value.agg #[.bool neg', .int .u64 hi, .int .u64 lo, .int .i64 e', .bool more'] = exN neg N e more := by
  obtain ⟨a, b⟩ := hiW_of h0 hl h2
  unfold exN
  rw [a, b, h1, h3, h4]

attribute [local go_sem] bits_and52 bits_and11 wrap64_2048 bits_or52 wrap64_2048s in
set_option maxRecDepth 100000 in
theorem split_b (x : Nat) (h : x < 18446744073709551616) : Bl 74 #[.float .f64 x] (exN (ng x) (mnt x) (exo x) false) := by
  intro w
  go_enter Try.func74, Try.ntmps74
  go_wp2
  all_goals refine bodyPost_ret (v := _) (by simp [results, Try.results74, go_sem]; rfl) rfl ⟨?_, ?_⟩
  · have h1 : ((x : Int) / 4503599627370496 % 2048 == 0) = true := by assumption
    have h2 : x / 4503599627370496 % 2048 = 0 := by have := beq_iff_eq.1 h1; omega
    refine ret_val (exN_mk' (hi := 0) ?_ ?_ ?_ ?_ ?_ rfl)
    · unfold ng; rw [Bool.eq_iff_iff]; simp; omega
    · omega
    · omega
    · unfold mnt; rw [if_pos h2]; omega
    · unfold exo; rw [if_pos h2]
  · repeat (first | exact Below.refl _ _ | refine Below.drew ?_ | refine below_drewN ?_ _ | refine Below.over ?_ (by simp <;> omega) _ | refine Below.alloc ?_ (by simp <;> omega) _ | refine Below.setCell ?_ (by simp <;> omega) _ | refine Below.alloc ?_ (by simp) _ | refine Below.setCell ?_ (by simp) _ | refine Below.over ?_ (by simp) _)
  · have h1 : ((x : Int) / 4503599627370496 % 2048 == 0) = false := by assumption
    have h2 : ¬ x / 4503599627370496 % 2048 = 0 := by have := beq_eq_false_iff_ne.1 h1; omega
    refine ret_val (exN_mk' (hi := 0) ?_ ?_ ?_ ?_ ?_ rfl)
    · unfold ng; rw [Bool.eq_iff_iff]; simp; omega
    · omega
    · omega
    · unfold mnt; rw [if_neg h2]; omega
    · unfold exo; rw [if_neg h2]; omega
  · repeat (first | exact Below.refl _ _ | refine Below.drew ?_ | refine below_drewN ?_ _ | refine Below.over ?_ (by simp <;> omega) _ | refine Below.alloc ?_ (by simp <;> omega) _ | refine Below.setCell ?_ (by simp <;> omega) _ | refine Below.alloc ?_ (by simp) _ | refine Below.setCell ?_ (by simp) _ | refine Below.over ?_ (by simp) _)

theorem exN_zero (N : Nat) : (hiW N = 0 ∧ loW N = 0) ↔ N = 0 := by unfold hiW loW; omega
set_option maxRecDepth 100000 in
theorem zero_b (neg : Bool) (N : Nat) (e : Int) (more : Bool) : Bl 90 #[exN neg N e more] (.bool (decide (N = 0))) := by
  intro w
  have HZ := Lib.hid (exN_zero N)
  unfold exN
  generalize hiW N = hi at *
  generalize loW N = lo at *
  go_enter Try.func90, Try.ntmps90
  go_wp2
  all_goals refine bodyPost_ret (v := _) (by simp [results, Try.results90, go_sem]; rfl) rfl ⟨?_, ?_⟩
  all_goals first | (refine ret_bool ?_; have := HZ.out; rw [Bool.eq_iff_iff]; simp_all; done) | (repeat (first | exact Below.refl _ _ | refine Below.drew ?_ | refine below_drewN ?_ _ | refine Below.over ?_ (by simp <;> omega) _ | refine Below.alloc ?_ (by simp <;> omega) _ | refine Below.setCell ?_ (by simp <;> omega) _ | refine Below.alloc ?_ (by simp) _ | refine Below.setCell ?_ (by simp) _ | refine Below.over ?_ (by simp) _))
theorem bitLen_blen (f : Nat) : ∀ x, x < 2^f → Lib.bitLenAux f x = blen x := by
  induction f with
  | zero => intro x h; have : x = 0 := by omega
            subst this; rfl
  | succ f ih =>
    intro x h
    unfold Lib.bitLenAux
    by_cases h0 : x = 0
    · rw [if_pos h0, h0]; rfl
    · rw [if_neg h0, ih (x / 2) (by rw [Nat.pow_succ] at h; omega), ← blen_half h0]
theorem len64_q (x : Nat) (h : x < 18446744073709551616) : Qt 96 #[.int .u64 (x : Int)] (.int .i64 (blen x)) := by
  intro w
  refine (Try.bits_Len64 x w (by omega) (by omega)).mono ?_
  rintro e w' ⟨rfl, rfl⟩
  have e : Lib.bitLen x = blen x := bitLen_blen 64 x h
  exact ⟨by simp [e], rfl⟩
theorem blen_hi (N hi : Nat) (h : N / 18446744073709551616 = hi) (h0 : hi ≠ 0) : blen N = 64 + blen hi := by
  have a := blen_le h0
  have b := blen_lt hi
  have p := blen_pos h0
  obtain ⟨l, hl⟩ : ∃ l, blen hi = l + 1 := ⟨blen hi - 1, by omega⟩
  rw [hl] at a b ⊢
  have e : (18446744073709551616 : Nat) = 2^64 := by decide
  have c1 : hi * 18446744073709551616 ≤ N := by omega
  have c2 : N < (hi + 1) * 18446744073709551616 := by omega
  rw [blen_eq (n := 64 + l)]
  · omega
  · rw [Nat.pow_add, Nat.mul_comm, ← e]; exact Nat.le_trans (Nat.mul_le_mul_right _ a) c1
  · rw [show 64 + l + 1 = (l + 1) + 64 by omega, Nat.pow_add, ← e]; exact Nat.lt_of_lt_of_le c2 (Nat.mul_le_mul_right _ b)
set_option maxRecDepth 100000 in
theorem length_b (neg : Bool) (N : Nat) (e : Int) (more : Bool) (hN : N < 340282366920938463463374607431768211456) : Bl 78 #[exN neg N e more] (.int .i64 (blen N)) := by
  intro w
  obtain ⟨hi, hhi⟩ : ∃ hi : Nat, hi = N / 18446744073709551616 := ⟨_, rfl⟩
  obtain ⟨lo, hlo⟩ : ∃ lo : Nat, lo = N % 18446744073709551616 := ⟨_, rfl⟩
  have hz : (hi ≠ 0 → blen N = 64 + blen hi) ∧ (hi = 0 → blen N = blen lo) :=
    ⟨fun h => blen_hi N _ hhi.symm h, fun h => by rw [hlo, Nat.mod_eq_of_lt (by omega)]⟩
  have hh : hi < 18446744073709551616 := by omega
  have hl : lo < 18446744073709551616 := by omega
  have h64 : 64 + blen hi ≤ 128 := by have := blen_le_of_lt (n := 64) hh; omega
  have HZ := Lib.hid hz; clear hz hN
  unfold exN hiW loW
  rw [← hhi, ← hlo]
  clear hhi hlo
  go_enter Try.func78, Try.ntmps78
  go_wp2_with (first | ((with_reducible refine ((len64_q hi hh).at _).mono ?_); rintro e w' ⟨rfl, rfl⟩) | ((with_reducible refine ((len64_q lo hl).at _).mono ?_); rintro e w' ⟨rfl, rfl⟩))
  all_goals refine bodyPost_ret (v := _) (by simp [results, Try.results78, go_sem]; rfl) rfl ⟨?_, ?_⟩
  · have h1 : ((hi : Int) != 0) = true := by assumption
    have := HZ.out.1 (by simpa using h1)
    exact ret_int (by omega)
  · repeat (first | exact Below.refl _ _ | refine Below.drew ?_ | refine below_drewN ?_ _ | refine Below.over ?_ (by simp <;> omega) _ | refine Below.alloc ?_ (by simp <;> omega) _ | refine Below.setCell ?_ (by simp <;> omega) _ | refine Below.alloc ?_ (by simp) _ | refine Below.setCell ?_ (by simp) _ | refine Below.over ?_ (by simp) _)
  · have h1 : ((hi : Int) != 0) = false := by assumption
    have := HZ.out.2 (by simpa using h1)
    exact ret_int (by omega)
  · repeat (first | exact Below.refl _ _ | refine Below.drew ?_ | refine below_drewN ?_ _ | refine Below.over ?_ (by simp <;> omega) _ | refine Below.alloc ?_ (by simp <;> omega) _ | refine Below.setCell ?_ (by simp <;> omega) _ | refine Below.alloc ?_ (by simp) _ | refine Below.setCell ?_ (by simp) _ | refine Below.over ?_ (by simp) _)

theorem wrap_u64 (n : Int) : IntKind.u64.wrap n = n % 18446744073709551616 := by simp [IntKind.wrap, IntKind.bits, IntKind.signed]
theorem pow_cast (k : Nat) : ((2 : Int) ^ k) = ((2 ^ k : Nat) : Int) := by simp
/-- 'left' by 64 places or more: the upper half is gone -/
theorem left_hi {N n : Nat} (hN : N * 2^n < 340282366920938463463374607431768211456) (h1 : 64 ≤ n) :
    (((N * 2^n : Nat)) : Int) = IntKind.u64.wrap (loW N * 2 ^ (n - 64)) * 18446744073709551616 + 0 := by
  have e : 2^n = 2^(n-64) * 18446744073709551616 := by
    rw [show (18446744073709551616 : Nat) = 2^64 by decide, ← Nat.pow_add]; congr 1; omega
  rw [e, ← Nat.mul_assoc] at hN ⊢
  have hp := Nat.two_pow_pos (n - 64)
  have hN1 : N * 2^(n-64) < 18446744073709551616 := by omega
  have hN2 : N < 18446744073709551616 := Nat.lt_of_le_of_lt (Nat.le_mul_of_pos_right N hp) hN1
  unfold loW
  rw [Nat.mod_eq_of_lt hN2, wrap_u64, pow_cast, ← Int.natCast_mul, Int.natCast_mul]
  generalize N * 2^(n-64) = M at *
  omega
theorem left_mid {N n : Nat} (hN : N * 2^n < 340282366920938463463374607431768211456) (h1 : 0 < n) (h2 : n < 64) :
    (((N * 2^n : Nat)) : Int) = bits BinOp.or IntKind.u64 (IntKind.u64.wrap (hiW N * 2 ^ n)) (loW N / 2 ^ (64 - n)) * 18446744073709551616 + IntKind.u64.wrap (loW N * 2 ^ n) := by
  have hp := Nat.two_pow_pos n
  have hq := Nat.two_pow_pos (64 - n)
  have e : 2^(64-n) * 2^n = 18446744073709551616 := by
    rw [← Nat.pow_add, show 64 - n + n = 64 by omega]
  unfold hiW loW
  have hhi : N / 18446744073709551616 = N / 18446744073709551616 := rfl
  generalize hH : N / 18446744073709551616 = H
  generalize hL : N % 18446744073709551616 = L
  have hNe : N = H * 18446744073709551616 + L := by omega
  have hL1 : L < 18446744073709551616 := by omega
  have hH1 : H * 2^n < 18446744073709551616 := by
    have : H * 18446744073709551616 * 2^n ≤ N * 2^n := Nat.mul_le_mul_right _ (by omega)
    have e2 : H * 18446744073709551616 * 2^n = H * 2^n * 18446744073709551616 := by ac_rfl
    omega
  have hdiv : L / 2^(64-n) < 2^n := by
    rw [Nat.div_lt_iff_lt_mul hq, Nat.mul_comm, e]; exact hL1
  rw [wrap_u64, wrap_u64, pow_cast, pow_cast, ← Int.natCast_mul, ← Int.natCast_mul, ← Int.natCast_ediv]
  have m1 : ((H * 2^n : Nat) : Int) % 18446744073709551616 = ((H * 2^n : Nat) : Int) := by omega
  have hd2 : L / 2^(64-n) < 18446744073709551616 := Nat.lt_of_le_of_lt (Nat.div_le_self _ _) hL1
  rw [m1, u64_or_nat _ _ hH1 hd2, nat_join n (H * 2^n) _ (Nat.mul_mod_left _ _) hdiv]
  have key : L * 2^n = (L / 2^(64-n)) * 18446744073709551616 + (L * 2^n) % 18446744073709551616 := by
    have d : L * 2^n / 18446744073709551616 = L / 2^(64-n) := by
      rw [← e, Nat.mul_div_mul_right _ _ hp]
    have := Nat.div_add_mod (L * 2^n) 18446744073709551616
    rw [d] at this; omega
  rw [hNe, Nat.add_mul]
  have e3 : H * 18446744073709551616 * 2^n = (H * 2^n) * 18446744073709551616 := by ac_rfl
  rw [e3]
  generalize H * 2^n = A at *
  generalize L * 2^n = B at *
  generalize L / 2^(64-n) = C at *
  omega
set_option maxRecDepth 100000 in
theorem left_b (neg : Bool) (N : Nat) (e : Int) (more : Bool) (n : Int) (h0 : 0 ≤ n) (hN : N * 2^n.toNat < 340282366920938463463374607431768211456) (h2 : n ≤ 127) (e1 : -100000 ≤ e) (e2 : e ≤ 100000) :
    Bl 77 #[exN neg N e more, .int .i64 n] (exN neg (N * 2^n.toNat) (e - n) more) := by
  intro w
  obtain ⟨n, rfl⟩ := Int.eq_ofNat_of_zero_le h0
  rw [Int.toNat_natCast] at *
  by_cases h64 : 64 ≤ n
  · have HL := Lib.hid (left_hi hN h64)
    clear hN
    go_enter Try.func77, Try.ntmps77
    go_wp2
    refine bodyPost_ret (v := _) (by simp [results, Try.results77, go_sem]; rfl) rfl ⟨?_, ?_⟩
    · exact ret_val (exN_mk' rfl (by omega) (by omega) HL.out rfl rfl)
    · repeat (first | exact Below.refl _ _ | refine Below.drew ?_ | refine below_drewN ?_ _ | refine Below.over ?_ (by simp <;> omega) _ | refine Below.alloc ?_ (by simp <;> omega) _ | refine Below.setCell ?_ (by simp <;> omega) _ | refine Below.alloc ?_ (by simp) _ | refine Below.setCell ?_ (by simp) _ | refine Below.over ?_ (by simp) _)
  · by_cases h1 : 0 < n
    · have HL := Lib.hid (left_mid hN h1 (by omega))
      have h64' : n < 64 := by omega
      clear hN h64
      go_enter Try.func77, Try.ntmps77
      go_wp2
      go_region
      all_goals go_wp2
      refine bodyPost_ret (v := _) (by simp [results, Try.results77, go_sem]; rfl) rfl ⟨?_, ?_⟩
      · exact ret_val (exN_mk' rfl (by rw [wrap_u64]; omega) (by rw [wrap_u64]; omega) HL.out rfl rfl)
      · repeat (first | exact Below.refl _ _ | refine Below.drew ?_ | refine below_drewN ?_ _ | refine Below.over ?_ (by simp <;> omega) _ | refine Below.alloc ?_ (by simp <;> omega) _ | refine Below.setCell ?_ (by simp <;> omega) _ | refine Below.alloc ?_ (by simp) _ | refine Below.setCell ?_ (by simp) _ | refine Below.over ?_ (by simp) _)
    · have hn : n = 0 := by omega
      subst hn
      rw [Nat.pow_zero, Nat.mul_one]
      clear hN h64 h1
      go_enter Try.func77, Try.ntmps77
      go_wp2
      refine bodyPost_ret (v := _) (by simp [results, Try.results77, go_sem]; rfl) rfl ⟨?_, ?_⟩
      · exact ret_val (exN_mk' rfl (loW_nonneg _) (loW_lt _) (W_eq _) (by omega) rfl)
      · repeat (first | exact Below.refl _ _ | refine Below.drew ?_ | refine below_drewN ?_ _ | refine Below.over ?_ (by simp <;> omega) _ | refine Below.alloc ?_ (by simp <;> omega) _ | refine Below.setCell ?_ (by simp <;> omega) _ | refine Below.alloc ?_ (by simp) _ | refine Below.setCell ?_ (by simp) _ | refine Below.over ?_ (by simp) _)
end Go.Proofs.Ytknijppdnfcknaa
