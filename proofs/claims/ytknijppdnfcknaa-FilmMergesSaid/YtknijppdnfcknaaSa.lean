/- Spans: Wide. -/
import Derived.Test.YtknijppdnfcknaaDd
import Derived.Test.YtknijppdnfcknaaXb
namespace Go.Proofs.Ytknijppdnfcknaa
open Go.RowKit FF
/-- is an end infinite? -/
def wide (a b : Nat) : Bool := decide (rg a = 9218868437227405312) || decide (rg b = 9218868437227405312)
set_option maxRecDepth 100000 in
theorem swide_b (a b : Nat) (ha : a < 18446744073709551616) (hb : b < 18446744073709551616) : Bl 55 #[spv a b] (.bool (wide a b)) := by
  intro w
  have A := Lib.hid (isInf_q a ha)
  have B := Lib.hid (isInf_q b hb)
  unfold wide
  clear ha hb
  generalize decide (rg a = 9218868437227405312) = p at *
  generalize decide (rg b = 9218868437227405312) = q at *
  cases p <;> cases q
  all_goals
    go_enter Try.func55, Try.ntmps55
    go_wp2_with (first | ((with_reducible refine ((A.out).at _).mono ?_); rintro _ _ ⟨rfl, rfl⟩) | ((with_reducible refine ((B.out).at _).mono ?_); rintro _ _ ⟨rfl, rfl⟩))
    refine bodyPost_ret (v := _) (by simp [results, Try.results55, go_sem] <;> rfl) rfl ⟨rfl, ?_⟩
    repeat (first | exact Below.refl _ _ | refine Below.drew ?_ | refine below_drewN ?_ _ | refine Below.over ?_ (by simp <;> omega) _ | refine Below.alloc ?_ (by simp <;> omega) _ | refine Below.setCell ?_ (by simp <;> omega) _ | refine Below.alloc ?_ (by simp) _ | refine Below.setCell ?_ (by simp) _ | refine Below.over ?_ (by simp) _)
theorem not_fin {a : Nat} (h : nn a) : (!decide (fin a)) = decide (rg a = 9218868437227405312) := by
  by_cases hf : fin a
  · rw [decide_eq_true hf, decide_eq_false (by unfold fin at hf; omega)]; rfl
  · rw [decide_eq_false hf, decide_eq_true (by unfold fin at hf; unfold nn at h; omega)]; rfl
set_option maxRecDepth 100000 in
theorem rwide_b (a b : Nat) (ha : nn a) (hb : nn b) : Bl 18 #[spv a b] (.bool (wide a b)) := by
  intro w
  have A := Lib.hid (rnum_b a)
  have B := Lib.hid (rnum_b b)
  unfold wide
  rw [← not_fin ha, ← not_fin hb]
  clear ha hb
  generalize decide (fin a) = p at *
  generalize decide (fin b) = q at *
  cases p <;> cases q
  all_goals
    go_enter Try.func18, Try.ntmps18
    go_wp2_with (first | ((with_reducible refine ((A.out).at _).mono ?_); rintro _ _ ⟨rfl, X1, rfl⟩) | ((with_reducible refine ((B.out).at _).mono ?_); rintro _ _ ⟨rfl, X2, rfl⟩))
    refine bodyPost_ret (v := _) (by simp [results, Try.results18, go_sem] <;> rfl) rfl ⟨rfl, ?_⟩
    repeat (first | exact Below.refl _ _ | refine Below.drew ?_ | refine below_drewN ?_ _ | refine Below.over ?_ (by simp <;> omega) _ | refine Below.alloc ?_ (by simp <;> omega) _ | refine Below.setCell ?_ (by simp <;> omega) _ | refine Below.alloc ?_ (by simp) _ | refine Below.setCell ?_ (by simp) _ | refine Below.over ?_ (by simp) _)
end Go.Proofs.Ytknijppdnfcknaa
