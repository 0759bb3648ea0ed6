/- The quotients of layer 1: the program's. -/
import Derived.Test.YtknijppdnfcknaaDb
import Derived.Test.YtknijppdnfcknaaFe
namespace Go.Proofs.Ytknijppdnfcknaa
open Go.RowKit FF

def divE (x y : Nat) : Int := if fin x ∧ fin y then (if rg y = 0 then 11 else 0) else 10
def divR (x y : Nat) (down : Bool) : Nat := if fin x ∧ fin y ∧ rg y ≠ 0 then rndW down (ng x != ng y) (V (rg x) * U) (V (rg y)) else 0
theorem mnt_ne {y : Nat} (h : rg y ≠ 0) : mnt y ≠ 0 := by
  unfold mnt
  unfold rg at h
  split <;> omega
theorem divW_eq {x y : Nat} (my : mnt y ≠ 0) (down : Bool) : divW x y down = rndW down (ng x != ng y) (V (rg x) * U) (V (rg y)) := by
  have bx : blen (mnt x) ≤ 53 := blen_le_of_lt (n := 53) (by have := mnt_lt x; omega)
  have bY : blen (mnt y) ≤ 53 := blen_le_of_lt (n := 53) (by have := mnt_lt y; omega)
  refine div_law (a := 117 - blen (mnt x)) (b := 53 - blen (mnt y)) my (by unfold dvE; omega) ?_
  intro h
  obtain ⟨hB1, hB2⟩ := dvB_lt my
  unfold dvB at hB1 hB2
  have mx : mnt x ≠ 0 := by intro h0; rw [h0, Nat.zero_mul, Nat.zero_mod] at h; exact h rfl
  have := Nat.mul_le_mul_right (2 ^ (117 - blen (mnt x))) (blen_le mx)
  have hp := blen_pos mx
  rw [← Nat.pow_add, show blen (mnt x) - 1 + (117 - blen (mnt x)) = 116 by omega] at this
  rw [Nat.le_div_iff_mul_le (by omega)]
  generalize mnt x * 2 ^ (117 - blen (mnt x)) = A at *
  generalize mnt y * 2 ^ (53 - blen (mnt y)) = B at *
  omega
set_option maxRecDepth 100000 in
theorem rdiv_b (x y : Nat) (down : Bool) (hx : x < 18446744073709551616) (hy : y < 18446744073709551616) :
    Bl 59 #[.float .f64 x, .float .f64 y, .bool down] (.tuple #[.float .f64 (divR x y down), .int .i64 (divE x y)]) := by
  by_cases h : fin x ∧ fin y
  · by_cases zy : rg y = 0
    · have e1 : divR x y down = 0 := by unfold divR; rw [if_neg (fun h => h.2.2 zy)]
      have e2 : divE x y = 11 := by unfold divE; rw [if_pos h, if_pos zy]
      rw [e1, e2]
      intro w
      have T := two_q x y hx hy
      rw [decide_eq_true h.1, decide_eq_true h.2, Bool.and_true] at T
      replace T := Lib.hid T
      have ey : (FloatKind.f64.format.order y 0 == some .eq) = true := by
        rw [show FloatKind.f64.format = Ieee.double from rfl, eq_num h.2.nn (by decide), I_zero]; simp; exact I_eq_zero.2 zy
      clear e1 e2 h zy hx hy
      go_enter Try.func59, Try.ntmps59
      go_wp2_with ((with_reducible refine ((T.out).at _).mono ?_); rintro _ _ ⟨rfl, rfl⟩)
      refine bodyPost_ret (v := _) (by simp [results, Try.results59, go_sem] <;> rfl) rfl ⟨rfl, ?_⟩
      repeat (first | exact Below.refl _ _ | refine Below.drew ?_ | refine below_drewN ?_ _ | refine Below.over ?_ (by simp <;> omega) _ | refine Below.alloc ?_ (by simp <;> omega) _ | refine Below.setCell ?_ (by simp <;> omega) _ | refine Below.alloc ?_ (by simp) _ | refine Below.setCell ?_ (by simp) _ | refine Below.over ?_ (by simp) _)
    · have e1 : divR x y down = divW x y down := by rw [divW_eq (mnt_ne zy)]; unfold divR; rw [if_pos ⟨h.1, h.2, zy⟩]
      have e2 : divE x y = 0 := by unfold divE; rw [if_pos h, if_neg zy]
      rw [e1, e2]
      exact rdiv_main x y down hx hy h.1 h.2 zy (mnt_ne zy)
  · have e1 : divR x y down = 0 := by unfold divR; rw [if_neg (fun h' => h ⟨h'.1, h'.2.1⟩)]
    have e2 : divE x y = 10 := by unfold divE; rw [if_neg h]
    rw [e1, e2]
    intro w
    have T := two_q x y hx hy
    have e3 : (decide (fin x) && decide (fin y)) = false := by
      rw [Bool.and_eq_false_iff]
      by_cases hx : fin x
      · right; simp; exact fun hy => h ⟨hx, hy⟩
      · left; simp [hx]
    rw [e3] at T
    replace T := Lib.hid T
    clear e1 e2 e3 h hx hy
    go_enter Try.func59, Try.ntmps59
    go_wp2_with ((with_reducible refine ((T.out).at _).mono ?_); rintro _ _ ⟨rfl, rfl⟩)
    refine bodyPost_ret (v := _) (by simp [results, Try.results59, go_sem] <;> rfl) rfl ⟨rfl, ?_⟩
    repeat (first | exact Below.refl _ _ | refine Below.drew ?_ | refine below_drewN ?_ _ | refine Below.over ?_ (by simp <;> omega) _ | refine Below.alloc ?_ (by simp <;> omega) _ | refine Below.setCell ?_ (by simp <;> omega) _ | refine Below.alloc ?_ (by simp) _ | refine Below.setCell ?_ (by simp) _ | refine Below.over ?_ (by simp) _)
end Go.Proofs.Ytknijppdnfcknaa
