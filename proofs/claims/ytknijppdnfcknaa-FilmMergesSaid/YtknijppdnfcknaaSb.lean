/- Spans: the least and the greatest of two numbers. -/
import Derived.Test.YtknijppdnfcknaaSa
namespace Go.Proofs.Ytknijppdnfcknaa
open Go.RowKit FF
/-- Go's min and max of two numbers -/
def fmn (x y : Nat) : Nat := if I x < I y then x else if I y < I x then y else if ng x then x else y
def fmx (x y : Nat) : Nat := if I x < I y then y else if I y < I x then x else if ng x then y else x
theorem dec_neg {x : Nat} (h : nn x) : (FloatKind.f64.decode x).neg = ng x := by
  show (Ieee.double.read x).neg = ng x
  rcases Nat.lt_or_eq_of_le h with h | h
  · obtain ⟨m, p, h1, _, _⟩ := read_fin (b := x) h
    rw [h1]; rfl
  · rw [read_inf h]; rfl
theorem run_min_float {P : Program} (W : World) (ts : Array TypeId) (t : TypeId) (x y : Nat) (hx : nn x) (hy : nn y) :
    (Builtin.min_ ts t #[.float .f64 x, .float .f64 y]).run P W = .ok (.float .f64 (fmn x y)) W := by
  have ho := order_num hx hy
  have ho' : FloatKind.f64.format.order x y = some (compare (I x) (I y)) := ho
  unfold fmn
  rcases Int.lt_trichotomy (I x) (I y) with h | h | h
  · rw [Int.compare_eq_lt.2 h] at ho'
    rw [if_pos h]
    simp [Builtin.min_, Builtin.min2, ho']
  · rw [Int.compare_eq_eq.2 h] at ho'
    rw [if_neg (by omega), if_neg (by omega)]
    simp [Builtin.min_, Builtin.min2, ho', dec_neg hx]
  · rw [Int.compare_eq_gt.2 h] at ho'
    rw [if_neg (by omega), if_pos h]
    simp [Builtin.min_, Builtin.min2, ho']
theorem run_max_float {P : Program} (W : World) (ts : Array TypeId) (t : TypeId) (x y : Nat) (hx : nn x) (hy : nn y) :
    (Builtin.max_ ts t #[.float .f64 x, .float .f64 y]).run P W = .ok (.float .f64 (fmx x y)) W := by
  have ho := order_num hx hy
  have ho' : FloatKind.f64.format.order x y = some (compare (I x) (I y)) := ho
  unfold fmx
  rcases Int.lt_trichotomy (I x) (I y) with h | h | h
  · rw [Int.compare_eq_lt.2 h] at ho'
    rw [if_pos h]
    simp [Builtin.max_, Builtin.max2, ho']
  · rw [Int.compare_eq_eq.2 h] at ho'
    rw [if_neg (by omega), if_neg (by omega)]
    simp [Builtin.max_, Builtin.max2, ho', dec_neg hx]
  · rw [Int.compare_eq_gt.2 h] at ho'
    rw [if_neg (by omega), if_pos h]
    simp [Builtin.max_, Builtin.max2, ho']
/-- a number that is no NaN, and not -0 -/
structure Cl (x : Nat) : Prop where
  b : x < 18446744073709551616
  n : nn x
  z : rg x = 0 → x = 0
theorem Cl.inj {x y : Nat} (hx : Cl x) (hy : Cl y) (h : I x = I y) : x = y := by
  by_cases h0 : I x = 0
  · rw [hx.z (I_eq_zero.1 h0), hy.z (I_eq_zero.1 (by omega))]
  · exact I_inj hx.b hy.b h h0
theorem fmn_cl {x y : Nat} (hx : Cl x) (hy : Cl y) : fmn x y = if I y < I x then y else x := by
  unfold fmn
  rcases Int.lt_trichotomy (I x) (I y) with h | h | h
  · rw [if_pos h, if_neg (by omega)]
  · have e := hx.inj hy h
    subst e
    simp
  · rw [if_neg (by omega), if_pos h, if_pos h]
theorem fmx_cl {x y : Nat} (hx : Cl x) (hy : Cl y) : fmx x y = if I x < I y then y else x := by
  unfold fmx
  rcases Int.lt_trichotomy (I x) (I y) with h | h | h
  · rw [if_pos h, if_pos h]
  · have e := hx.inj hy h
    subst e
    simp
  · rw [if_neg (by omega), if_pos h, if_neg (by omega)]
theorem Cl.mn {x y : Nat} (hx : Cl x) (hy : Cl y) : Cl (fmn x y) := by rw [fmn_cl hx hy]; split <;> assumption
theorem Cl.mx {x y : Nat} (hx : Cl x) (hy : Cl y) : Cl (fmx x y) := by rw [fmx_cl hx hy]; split <;> assumption
theorem cl_inf : Cl 9218868437227405312 := ⟨by omega, by decide, fun h => absurd h (by decide)⟩
theorem cl_ninf : Cl 18442240474082181120 := ⟨by omega, by decide, fun h => absurd h (by decide)⟩
theorem cl_zero : Cl 0 := ⟨by omega, by decide, fun _ => rfl⟩
theorem cl_rndW (down neg : Bool) (n d : Nat) : Cl (rndW down neg n d) := by
  have key : ∀ r, r ≤ 9218868437227405312 → Cl (if r = 0 then 0 else Ieee.double.word neg r) := by
    intro r hr
    by_cases h : r = 0
    · rw [if_pos h]; exact cl_zero
    · rw [if_neg h]
      have e := rg_word neg (r := r) (by omega)
      refine ⟨?_, by unfold nn; rw [e]; exact hr, fun h' => absurd (e ▸ h') h⟩
      rw [word_eq]; split <;> omega
  unfold rndW
  simp only
  split
  · exact key _ (by omega)
  · exact key _ (by omega)
theorem cl_rndI (down : Bool) (S : Int) : Cl (rndI down S) := cl_rndW _ _ _ _
theorem cl_divR (x y : Nat) (down : Bool) : Cl (divR x y down) := by
  unfold divR; split
  · exact cl_rndW _ _ _ _
  · exact cl_zero
theorem cl_addR (x y : Nat) (down : Bool) : Cl (addR x y down) := by
  unfold addR; split
  · exact cl_rndI _ _
  · exact cl_zero
theorem cl_loA (x y : Nat) : Cl (loA x y) := by
  unfold loA; split
  · exact cl_rndI _ _
  · exact cl_ninf
theorem cl_hiA (x y : Nat) : Cl (hiA x y) := by
  unfold hiA; split
  · exact cl_rndI _ _
  · exact cl_inf
/-- the quotient of two spans -/
def zspan (c d : Nat) : Bool := decide (I c ≤ 0) && decide (0 ≤ I d)
def sdLo (a b c d : Nat) : Nat := fmn (fmn (fmn (fmn 9218868437227405312 (divR a c true)) (divR a d true)) (divR b c true)) (divR b d true)
def sdHi (a b c d : Nat) : Nat := fmx (fmx (fmx (fmx 18442240474082181120 (divR a c false)) (divR a d false)) (divR b c false)) (divR b d false)
def spdiv (a b c d : Nat) : Nat × Nat := if zspan c d || wide a b || wide c d then (18442240474082181120, 9218868437227405312) else (sdLo a b c d, sdHi a b c d)
end Go.Proofs.Ytknijppdnfcknaa
