/- round.Div. -/
import Derived.Test.YtknijppdnfcknaaDa
import Derived.Test.YtknijppdnfcknaaXa
namespace Go.Proofs.Ytknijppdnfcknaa
open Go.RowKit FF

def dvA (x : Nat) : Nat := mnt x * 2 ^ (117 - blen (mnt x))
def dvB (y : Nat) : Nat := mnt y * 2 ^ (53 - blen (mnt y))
def dvE (x y : Nat) : Int := (exo x - (117 - (blen (mnt x) : Int))) - (exo y - (53 - (blen (mnt y) : Int)))
def divW (x y : Nat) (down : Bool) : Nat := toW (ng x != ng y) (dvA x / dvB y) (dvE x y) (decide (dvA x % dvB y ≠ 0)) down
theorem two_digits {A B : Nat} (hB : 0 < B) :
    A / B = (A / 18446744073709551616 / B) * 18446744073709551616 + ((A / 18446744073709551616 % B) * 18446744073709551616 + A % 18446744073709551616) / B ∧
    A % B = ((A / 18446744073709551616 % B) * 18446744073709551616 + A % 18446744073709551616) % B := by
  generalize hh : A / 18446744073709551616 = h
  generalize hl : A % 18446744073709551616 = l
  have hA : A = h * 18446744073709551616 + l := by omega
  have hd := Nat.div_add_mod h B
  have e : A = B * (h / B * 18446744073709551616) + (h % B * 18446744073709551616 + l) := by
    rw [← Nat.mul_assoc]
    generalize B * (h / B) = C at *
    generalize h % B = D at *
    rw [hA, ← hd, Nat.add_mul, Nat.add_assoc]
  rw [e]
  exact ⟨Nat.mul_add_div hB _ _, Nat.mul_add_mod _ _ _⟩
theorem dvA_lt (x : Nat) : dvA x < 166153499473114484112975882535043072 := by
  unfold dvA
  have h := blen_lt (mnt x)
  have hb : blen (mnt x) ≤ 53 := blen_le_of_lt (n := 53) (by have := mnt_lt x; omega)
  have := Nat.mul_lt_mul_of_pos_right h (Nat.two_pow_pos (117 - blen (mnt x)))
  rw [← Nat.pow_add, show blen (mnt x) + (117 - blen (mnt x)) = 117 by omega] at this
  exact this
theorem dvB_lt {y : Nat} (hy : mnt y ≠ 0) : dvB y < 9007199254740992 ∧ 4503599627370496 ≤ dvB y := by
  unfold dvB
  have h := blen_lt (mnt y)
  have h2 := blen_le hy
  have h0 := blen_pos hy
  have hb : blen (mnt y) ≤ 53 := blen_le_of_lt (n := 53) (by have := mnt_lt y; omega)
  have := Nat.mul_lt_mul_of_pos_right h (Nat.two_pow_pos (53 - blen (mnt y)))
  have h3 := Nat.mul_le_mul_right (2 ^ (53 - blen (mnt y))) h2
  rw [← Nat.pow_add, show blen (mnt y) + (53 - blen (mnt y)) = 53 by omega] at this
  rw [← Nat.pow_add, show blen (mnt y) - 1 + (53 - blen (mnt y)) = 52 by omega] at h3
  exact ⟨this, h3⟩
set_option maxRecDepth 100000 in
set_option maxHeartbeats 2000000 in
theorem rdiv_main (x y : Nat) (down : Bool) (hx : x < 18446744073709551616) (hy : y < 18446744073709551616) (fx : fin x) (fy : fin y) (zy : rg y ≠ 0) (my : mnt y ≠ 0) :
    Bl 59 #[.float .f64 x, .float .f64 y, .bool down] (.tuple #[.float .f64 (divW x y down), .int .i64 0]) := by
  intro w
  have T := two_q x y hx hy
  rw [decide_eq_true fx, decide_eq_true fy, Bool.and_true] at T
  replace T := Lib.hid T
  have ey : (FloatKind.f64.format.order y 0 == some .eq) = false := by
    rw [show FloatKind.f64.format = Ieee.double from rfl, eq_num fy.nn (by decide), I_zero]; simp; exact mt I_eq_zero.1 zy
  have SX := Lib.hid (split_b x hx)
  have SY := Lib.hid (split_b y hy)
  have m1 := mnt_lt x; have m2 := mnt_lt y
  have e1 := exo_ge x; have e2 := exo_le x; have e3 := exo_ge y; have e4 := exo_le y
  have b1 : blen (mnt x) ≤ 53 := blen_le_of_lt (n := 53) (by omega)
  have b2 : blen (mnt y) ≤ 53 := blen_le_of_lt (n := 53) (by omega)
  have hA := dvA_lt x
  obtain ⟨hB1, hB2⟩ := dvB_lt my
  have LX := Lib.hid (length_b (ng x) (mnt x) (exo x) false (by omega))
  have LY := Lib.hid (length_b (ng y) (mnt y) (exo y) false (by omega))
  have nx : (117 - (blen (mnt x) : Int)).toNat = 117 - blen (mnt x) := by omega
  have ny : (53 - (blen (mnt y) : Int)).toNat = 53 - blen (mnt y) := by omega
  have MX := left_b (ng x) (mnt x) (exo x) false (117 - (blen (mnt x) : Int)) (by omega) (by rw [nx]; exact Nat.lt_trans hA (by omega)) (by omega) (by omega) (by omega)
  have MY := left_b (ng y) (mnt y) (exo y) false (53 - (blen (mnt y) : Int)) (by omega) (by rw [ny]; exact Nat.lt_trans hB1 (by omega)) (by omega) (by omega) (by omega)
  rw [nx] at MX; rw [ny] at MY
  have w1 : IntKind.i64.wrap (117 - (blen (mnt x) : Int)) = 117 - (blen (mnt x) : Int) := IntWalk.i64_in _ (by omega)
  have w2 : IntKind.i64.wrap (53 - (blen (mnt y) : Int)) = 53 - (blen (mnt y) : Int) := IntWalk.i64_in _ (by omega)
  have hr : divW x y down = toW (ng x != ng y) (dvA x / dvB y) (dvE x y) (decide (dvA x % dvB y ≠ 0)) down := rfl
  have hE : dvE x y = (exo x - (117 - (blen (mnt x) : Int))) - (exo y - (53 - (blen (mnt y) : Int))) := rfl
  have w3 : IntKind.i64.wrap ((exo x - (117 - (blen (mnt x) : Int))) - (exo y - (53 - (blen (mnt y) : Int)))) = dvE x y := by rw [hE]; exact IntWalk.i64_in _ (by omega)
  have hEb : -10000 ≤ dvE x y ∧ dvE x y ≤ 10000 := by rw [hE]; omega
  rw [show mnt x * 2 ^ (117 - blen (mnt x)) = dvA x from rfl] at MX
  rw [show mnt y * 2 ^ (53 - blen (mnt y)) = dvB y from rfl] at MY
  generalize divW x y down = r at *
  generalize dvA x = A at *
  generalize dvB y = B at *
  generalize dvE x y = E at *
  obtain ⟨dig1, dig2⟩ := two_digits (A := A) (B := B) (by omega)
  have hQl : A / B < 340282366920938463463374607431768211456 := Nat.lt_of_le_of_lt (Nat.div_le_self _ _) (by omega)
  obtain ⟨q1, hq1⟩ : ∃ q, q = A / 18446744073709551616 / B := ⟨_, rfl⟩
  obtain ⟨r1, hr1⟩ : ∃ q, q = A / 18446744073709551616 % B := ⟨_, rfl⟩
  obtain ⟨q2, hq2⟩ : ∃ q, q = (r1 * 18446744073709551616 + A % 18446744073709551616) / B := ⟨_, rfl⟩
  obtain ⟨r2, hr2⟩ : ∃ q, q = (r1 * 18446744073709551616 + A % 18446744073709551616) % B := ⟨_, rfl⟩
  have hr1l : r1 < B := by rw [hr1]; exact Nat.mod_lt _ (by omega)
  have hq2l : q2 < 18446744073709551616 := by
    rw [hq2, Nat.div_lt_iff_lt_mul (by omega), Nat.mul_comm _ B]; omega
  have D1 := div64_b 0 (A / 18446744073709551616) B (by omega) (by omega) (by omega)
  have D2 := div64_b r1 (A % 18446744073709551616) B (by omega) (by omega) (by omega)
  rw [Nat.zero_mul, Nat.zero_add, ← hq1, ← hr1, show (((0 : Nat) : Int)) = 0 from rfl] at D1
  rw [← hq2, ← hr2] at D2
  rw [← hq1, ← hr1, ← hq2] at dig1
  rw [← hr1, ← hr2] at dig2
  rw [dig2] at hr
  rw [dig1] at hr hQl
  have hW := hiW_of (N := q1 * 18446744073709551616 + q2) (hi := q1) (lo := q2) (by omega) (by omega) (by omega)
  obtain ⟨m, hm⟩ : ∃ m : Bool, m = decide (r2 ≠ 0) := ⟨_, rfl⟩
  have hm2 : ((r2 : Int) != 0) = m := by rw [hm]; by_cases h : r2 = 0 <;> simp [h]
  obtain ⟨sn, hsn⟩ : ∃ sn, sn = (ng x != ng y) := ⟨_, rfl⟩
  rw [← hm, ← hsn] at hr
  have TO := to_b sn (q1 * 18446744073709551616 + q2) E m down hQl hEb.1 hEb.2
  rw [← hr, exN, hW.1, hW.2] at TO
  replace TO := Lib.hid TO
  have hAW : hiW A = ((A / 18446744073709551616 : Nat) : Int) ∧ loW A = ((A % 18446744073709551616 : Nat) : Int) := ⟨rfl, rfl⟩
  have hBW : hiW B = 0 ∧ loW B = (B : Int) := by unfold hiW loW; omega
  rw [exN, exN, hBW.1, hBW.2] at MY
  rw [exN, exN, hAW.1, hAW.2] at MX
  obtain ⟨n1, hn1⟩ : ∃ n, n = 117 - (blen (mnt x) : Int) := ⟨_, rfl⟩
  obtain ⟨n2, hn2⟩ : ∃ n, n = 53 - (blen (mnt y) : Int) := ⟨_, rfl⟩
  rw [← hn1] at w1 w3 MX
  rw [← hn2] at w2 w3 MY
  have w1 : IntKind.i64.wrap (117 - (blen (mnt x) : Int)) = n1 := by rw [← hn1]; exact w1
  have w2 : IntKind.i64.wrap (53 - (blen (mnt y) : Int)) = n2 := by rw [← hn2]; exact w2
  replace MX := Lib.hid MX; replace MY := Lib.hid MY
  replace D1 := Lib.hid D1; replace D2 := Lib.hid D2
  have hsn' : (!(ng x == ng y)) = sn := by rw [hsn]; rfl
  generalize A / 18446744073709551616 = hA' at *
  generalize A % 18446744073709551616 = lA' at *
  generalize exo x - n1 = E1 at *
  generalize exo y - n2 = E2 at *
  clear hn1 hn2 hr hE hEb dig1 dig2 hQl hq1 hr1 hq2 hr2 hr1l hq2l hW hm hAW hBW hA hB1 hB2 nx ny m1 m2 e1 e2 e3 e4 b1 b2 hx hy fx fy zy my hsn
  go_enter Try.func59, Try.ntmps59
  go_upto_region 6 with (first | ((with_reducible refine ((T.out).at _).mono ?_); rintro _ _ ⟨rfl, rfl⟩) | ((with_reducible refine ((SX.out).at _).mono ?_); rintro _ _ ⟨rfl, X1, rfl⟩) | ((with_reducible refine ((SY.out).at _).mono ?_); rintro _ _ ⟨rfl, X2, rfl⟩))
  clear T SX SY ey
  refine wp_region_lastD0 (List.cons_ne_nil _ _) (by kernel_rfl) (by kernel_rfl) (by kernel_rfl) ?_; simp only [List.dropLast_cons_cons, List.dropLast_singleton, List.getLast_cons_cons, List.getLast_singleton]
  repeat (go_big_quiet_step (first | (with_reducible exact LX.out.quiet _ _) | (with_reducible exact MX.out.quiet _ _)))
  refine wpQuiet_nil ?_; intro _ hw'; obtain ⟨X, hw''⟩ := hw'; subst hw''
  go_wp2_with fail
  clear LX MX w1
  refine wp_region_lastD1 (List.cons_ne_nil _ _) (by kernel_rfl) (by kernel_rfl) (by kernel_rfl) ?_; simp only [List.dropLast_cons_cons, List.dropLast_singleton, List.getLast_cons_cons, List.getLast_singleton]
  repeat (go_big_quiet_step (first | (with_reducible exact LY.out.quiet _ _) | (with_reducible exact MY.out.quiet _ _)))
  refine wpQuiet_nil ?_; intro _ hw'; obtain ⟨X, hw''⟩ := hw'; subst hw''
  clear LY MY w2
  have hd1 : ∀ Z Y : Ext, w.heap.size + Z.n < w.heap.size + Z.n + 1 + 1 + Y.n := fun Z Y => by omega
  have hd2 : ∀ Z Y : Ext, w.heap.size + Z.n < w.heap.size + Z.n + 1 + 1 + Y.n + 1 := fun Z Y => by omega
  have hd3 : ∀ Z Y : Ext, w.heap.size + Z.n + 1 < w.heap.size + Z.n + 1 + 1 + Y.n := fun Z Y => by omega
  have hd4 : ∀ Z Y : Ext, w.heap.size + Z.n + 1 < w.heap.size + Z.n + 1 + 1 + Y.n + 1 := fun Z Y => by omega
  go_wp2_with (first | ((with_reducible refine ((D1.out).at _).mono ?_); rintro _ _ ⟨rfl, X1, rfl⟩) | ((with_reducible refine ((D2.out).at _).mono ?_); rintro _ _ ⟨rfl, X1, rfl⟩) | ((with_reducible refine ((TO.out).at _).mono ?_); rintro _ _ ⟨rfl, X2, rfl⟩))
  refine bodyPost_ret (v := _) (by simp [results, Try.results59, go_sem] <;> rfl) rfl ⟨rfl, ?_⟩
  repeat (first | exact Below.refl _ _ | refine Below.drew ?_ | refine below_drewN ?_ _ | refine Below.over ?_ (by simp <;> omega) _ | refine Below.alloc ?_ (by simp <;> omega) _ | refine Below.setCell ?_ (by simp <;> omega) _ | refine Below.alloc ?_ (by simp) _ | refine Below.setCell ?_ (by simp) _ | refine Below.over ?_ (by simp) _)
end Go.Proofs.Ytknijppdnfcknaa
