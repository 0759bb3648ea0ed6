/- The walks of layers 1 and 2: the sum of two numbers, of two spans. -/
import Derived.Test.YtknijppdnfcknaaFd
import Derived.Test.YtknijppdnfcknaaWy
namespace Go.Proofs.Ytknijppdnfcknaa
open Go.RowKit FF

/-- round.Add -/
def addR (x y : Nat) (down : Bool) : Nat := if fin x ∧ fin y then rndI down (I x + I y) else 0
def addE (x y : Nat) : Int := if fin x ∧ fin y then 0 else 10
theorem sumV_size {na nb : Bool} {Na Nb : Nat} {ea eb : Int} (hNa : Na < 9007199254740992) (hNb : Nb < 9007199254740992) (a1 : -1074 ≤ ea) (a2 : ea ≤ 1000)
    (ho : Nb ≠ 0 → Na ≠ 0 ∧ eb + (blen Nb : Int) ≤ ea + (blen Na : Int)) :
    (sumV na Na ea nb Nb eb).2.1 < 340282366920938463463374607431768211456 ∧ -10000 ≤ (sumV na Na ea nb Nb eb).2.2.1 ∧ (sumV na Na ea nb Nb eb).2.2.1 ≤ 10000 := by
  unfold sumV
  by_cases hz : Nb = 0
  · rw [if_pos hz]; simp only []; omega
  · rw [if_neg hz]
    obtain ⟨hcz, hle⟩ := ho hz
    have hla : blen Na ≤ 53 := blen_le_of_lt (n := 53) (by omega)
    have hA := size_left hcz (by omega)
    have hB := size_b (lc := blen Na) (by omega) hle hNb
    simp only []
    generalize Na * 2 ^ (126 - blen Na) = A at *
    generalize bAt Nb eb (ea - ((126 - blen Na : Nat) : Int)) = B at *
    refine ⟨?_, by omega, by omega⟩
    unfold sumN
    have := Bool.toNat_le (bMore Nb eb (ea - ((126 - blen Na : Nat) : Int)))
    split
    · simp only []; omega
    · split
      · simp only []; omega
      · simp only []; omega
theorem sumW_size (x y : Nat) : (sumW (ng x) (mnt x) (exo x) (ng y) (mnt y) (exo y)).2.1 < 340282366920938463463374607431768211456 ∧ -10000 ≤ (sumW (ng x) (mnt x) (exo x) (ng y) (mnt y) (exo y)).2.2.1 ∧ (sumW (ng x) (mnt x) (exo x) (ng y) (mnt y) (exo y)).2.2.1 ≤ 10000 := by
  unfold sumW
  cases hs : swp (mnt x) (mnt y) (exo x) (exo y)
  · simp only [Bool.false_eq_true, if_false]
    exact sumV_size (mnt_lt x) (mnt_lt y) (exo_ge x) (exo_le x) (by unfold swp at hs; simp at hs; omega)
  · simp only [if_true]
    exact sumV_size (mnt_lt y) (mnt_lt x) (exo_ge y) (exo_le y) (by unfold swp at hs; simp at hs; omega)
set_option maxRecDepth 100000 in
theorem radd_b (x y : Nat) (down : Bool) (hx : x < 18446744073709551616) (hy : y < 18446744073709551616) :
    Bl 56 #[.float .f64 x, .float .f64 y, .bool down] (.tuple #[.float .f64 (addR x y down), .int .i64 (addE x y)]) := by
  intro w
  have T := Lib.hid (two_q x y hx hy)
  by_cases h : fin x ∧ fin y
  · have e1 : addR x y down = rndI down (I x + I y) := by unfold addR; rw [if_pos h]
    have e2 : addE x y = 0 := by unfold addE; rw [if_pos h]
    have e3 : (decide (fin x) && decide (fin y)) = true := by simp [h]
    rw [e3] at T
    rw [e1, e2, ← add_law]
    have SX := Lib.hid (split_b x hx)
    have SY := Lib.hid (split_b y hy)
    have SU := Lib.hid (sum_b (ng x) (mnt x) (exo x) (ng y) (mnt y) (exo y) (mnt_lt x) (mnt_lt y) (exo_ge x) (exo_le x) (exo_ge y) (exo_le y))
    have hN : (sumW (ng x) (mnt x) (exo x) (ng y) (mnt y) (exo y)).2.1 < 340282366920938463463374607431768211456 := (sumW_size x y).1
    have hE : -10000 ≤ (sumW (ng x) (mnt x) (exo x) (ng y) (mnt y) (exo y)).2.2.1 ∧ (sumW (ng x) (mnt x) (exo x) (ng y) (mnt y) (exo y)).2.2.1 ≤ 10000 := (sumW_size x y).2
    have TO := Lib.hid (to_b (sumW (ng x) (mnt x) (exo x) (ng y) (mnt y) (exo y)).1 _ _ (sumW (ng x) (mnt x) (exo x) (ng y) (mnt y) (exo y)).2.2.2 down hN hE.1 hE.2)
    clear h e1 e2 e3 hN hE
    generalize sumW (ng x) (mnt x) (exo x) (ng y) (mnt y) (exo y) = r at *
    go_enter Try.func56, Try.ntmps56
    go_wp2_with (first | ((with_reducible refine ((T.out).at _).mono ?_); rintro _ _ ⟨rfl, rfl⟩) | ((with_reducible refine ((SX.out).at _).mono ?_); rintro _ _ ⟨rfl, X1, rfl⟩) | ((with_reducible refine ((SY.out).at _).mono ?_); rintro _ _ ⟨rfl, X2, rfl⟩) | ((with_reducible refine ((SU.out).at _).mono ?_); rintro _ _ ⟨rfl, X3, rfl⟩) | ((with_reducible refine ((TO.out).at _).mono ?_); rintro _ _ ⟨rfl, X4, rfl⟩))
    go_ret2
    refine ⟨rfl, ?_⟩
    repeat (first | exact Below.refl _ _ | refine Below.drew ?_ | refine below_drewN ?_ _ | refine Below.over ?_ (by simp <;> omega) _ | refine Below.alloc ?_ (by simp <;> omega) _ | refine Below.setCell ?_ (by simp <;> omega) _ | refine Below.alloc ?_ (by simp) _ | refine Below.setCell ?_ (by simp) _ | refine Below.over ?_ (by simp) _)
  · have e1 : addR x y down = 0 := by unfold addR; rw [if_neg h]
    have e2 : addE x y = 10 := by unfold addE; rw [if_neg h]
    have e3 : (decide (fin x) && decide (fin y)) = false := by
      rw [Bool.and_eq_false_iff]
      by_cases hx : fin x
      · right; simp; exact fun hy => h ⟨hx, hy⟩
      · left; simp [hx]
    rw [e3] at T
    rw [e1, e2]
    clear h e1 e2 e3
    go_enter Try.func56, Try.ntmps56
    go_wp2_with ((with_reducible refine ((T.out).at _).mono ?_); rintro _ _ ⟨rfl, rfl⟩)
    go_ret2
    refine ⟨rfl, ?_⟩
    repeat (first | exact Below.refl _ _ | refine Below.drew ?_ | refine below_drewN ?_ _ | refine Below.over ?_ (by simp <;> omega) _ | refine Below.alloc ?_ (by simp <;> omega) _ | refine Below.setCell ?_ (by simp <;> omega) _ | refine Below.alloc ?_ (by simp) _ | refine Below.setCell ?_ (by simp) _ | refine Below.over ?_ (by simp) _)
/-- span's low and high -/
theorem low_q0 (x : Nat) : Qt 69 #[.float .f64 x, .int .i64 0] (.float .f64 x) := by
  intro w
  go_enter Try.func69, Try.ntmps69
  go_wp2
  go_ret
  exact ⟨rfl, rfl⟩
theorem low_q1 (x : Nat) (e : Int) (he : e ≠ 0) : Qt 69 #[.float .f64 x, .int .i64 e] (.float .f64 18442240474082181120) := by
  intro w
  have hb : (e != 0) = true := by simpa using he
  go_enter Try.func69, Try.ntmps69
  go_wp2_with ((with_reducible refine (ninf_q.at _).mono ?_); rintro _ _ ⟨rfl, rfl⟩)
  go_ret
  exact ⟨rfl, rfl⟩
theorem high_q0 (x : Nat) : Qt 70 #[.float .f64 x, .int .i64 0] (.float .f64 x) := by
  intro w
  go_enter Try.func70, Try.ntmps70
  go_wp2
  go_ret
  exact ⟨rfl, rfl⟩
theorem high_q1 (x : Nat) (e : Int) (he : e ≠ 0) : Qt 70 #[.float .f64 x, .int .i64 e] (.float .f64 9218868437227405312) := by
  intro w
  have hb : (e != 0) = true := by simpa using he
  go_enter Try.func70, Try.ntmps70
  go_wp2_with ((with_reducible refine (inf_q.at _).mono ?_); rintro _ _ ⟨rfl, rfl⟩)
  go_ret
  exact ⟨rfl, rfl⟩
/-- the low and the high end of a sum -/
def loA (x y : Nat) : Nat := if fin x ∧ fin y then rndI true (I x + I y) else 18442240474082181120
def hiA (x y : Nat) : Nat := if fin x ∧ fin y then rndI false (I x + I y) else 9218868437227405312
theorem low_A (x y : Nat) : Qt 69 #[.float .f64 (addR x y true), .int .i64 (addE x y)] (.float .f64 (loA x y)) := by
  unfold addR addE loA
  by_cases h : fin x ∧ fin y
  · rw [if_pos h, if_pos h, if_pos h]; exact low_q0 _
  · rw [if_neg h, if_neg h, if_neg h]; exact low_q1 _ _ (by omega)
theorem high_A (x y : Nat) : Qt 70 #[.float .f64 (addR x y false), .int .i64 (addE x y)] (.float .f64 (hiA x y)) := by
  unfold addR addE hiA
  by_cases h : fin x ∧ fin y
  · rw [if_pos h, if_pos h, if_pos h]; exact high_q0 _
  · rw [if_neg h, if_neg h, if_neg h]; exact high_q1 _ _ (by omega)

/-- a span as a value -/
abbrev spv (lo hi : Nat) : Value := .agg #[.float .f64 lo, .float .f64 hi]
set_option maxRecDepth 100000 in
theorem sadd_b (a b c d : Nat) (ha : a < 18446744073709551616) (hb : b < 18446744073709551616) (hc : c < 18446744073709551616) (hd : d < 18446744073709551616) :
    Bl 53 #[spv a b, spv c d] (spv (loA a c) (hiA b d)) := by
  intro w
  have A1 := Lib.hid (radd_b a c true ha hc)
  have A2 := Lib.hid (radd_b b d false hb hd)
  have L := Lib.hid (low_A a c)
  have H := Lib.hid (high_A b d)
  clear ha hb hc hd
  generalize addR a c true = r1 at *
  generalize addR b d false = r2 at *
  generalize addE a c = e1 at *
  generalize addE b d = e2 at *
  generalize loA a c = l at *
  generalize hiA b d = h at *
  go_enter Try.func53, Try.ntmps53
  go_wp2_with fail
  refine wp_region_lastD0 (List.cons_ne_nil _ _) (by kernel_rfl) (by kernel_rfl) (by kernel_rfl) ?_; simp only [List.dropLast_cons_cons, List.dropLast_singleton, List.getLast_cons_cons, List.getLast_singleton]
  repeat (go_big_quiet_step (first | (with_reducible exact A1.out.quiet _ _) | (with_reducible exact A2.out.quiet _ _) | (with_reducible exact L.out.quiet _ _) | (with_reducible exact H.out.quiet _ _)))
  refine wpQuiet_nil ?_; intro _ hw'; obtain ⟨X, hw''⟩ := hw'; subst hw''
  go_wp2_with fail
  refine bodyPost_ret (v := _) (by simp [results, Try.results53, go_sem] <;> rfl) rfl ⟨rfl, ?_⟩
  repeat (first | exact Below.refl _ _ | refine Below.drew ?_ | refine below_drewN ?_ _ | refine Below.over ?_ (by simp <;> omega) _ | refine Below.alloc ?_ (by simp <;> omega) _ | refine Below.setCell ?_ (by simp <;> omega) _ | refine Below.alloc ?_ (by simp) _ | refine Below.setCell ?_ (by simp) _ | refine Below.over ?_ (by simp) _)
end Go.Proofs.Ytknijppdnfcknaa
