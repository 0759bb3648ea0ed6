/- The walks of the document's answer for layer 1: 'To'. -/
import Derived.Test.YtknijppdnfcknaaRd
import Derived.Test.YtknijppdnfcknaaFd
namespace Go.Proofs.Ytknijppdnfcknaa.FF
open Ieee
/-- the opposite -/
def opp (x : Nat) : Nat := if ng x then rg x else 9223372036854775808 + rg x
theorem rg_opp (x : Nat) : rg (opp x) = rg x := by unfold opp; split <;> unfold rg <;> omega
theorem ng_opp (x : Nat) : ng (opp x) = !ng x := by
  unfold opp
  cases h : ng x
  · simp; unfold ng rg; simp
  · simp; exact ng_rg x
theorem opp_lt (x : Nat) : opp x < 18446744073709551616 := by have := rg_lt x; unfold opp; split <;> omega
theorem I_opp (x : Nat) : I (opp x) = - I x := by
  unfold I; rw [ng_opp, rg_opp]; cases ng x <;> simp
theorem fin_opp {x : Nat} (h : fin x) : fin (opp x) := by unfold fin; rw [rg_opp]; exact h
theorem nn_opp {x : Nat} (h : nn x) : nn (opp x) := by unfold nn; rw [rg_opp]; exact h
theorem read_opp {y : Nat} (h : nn y) : double.read (opp y) = (double.read y).opposite := by
  rcases Nat.lt_or_eq_of_le h with h | h
  · obtain ⟨m, p, h1, h2, h3⟩ := read_fin (b := y) h
    obtain ⟨m', p', h1', h2', h3'⟩ := read_fin (b := opp y) (fin_opp h)
    unfold Format.read at *
    have e1 : (opp y / double.signWeight % 2 == 1) = !(y / double.signWeight % 2 == 1) := ng_opp y
    have e2 : opp y % double.signWeight = y % double.signWeight := rg_opp y
    simp only [e1, e2]
    split
    · rfl
    · split
      · rfl
      · split <;> rfl
  · rw [read_inf h, read_inf (by rw [rg_opp]; exact h), ng_opp]; rfl
theorem sub_add {x y : Nat} (h : nn y) : double.sub x y = double.add x (opp y) := by
  unfold Format.sub Format.add; rw [read_opp h]
theorem zero_add_pl {x : Nat} (hx : nn x) (hb : x < 18446744073709551616) : double.add 0 x = some (pl x) := by
  unfold nn at hx
  rcases Nat.lt_or_eq_of_le hx with hx | hx
  · rw [add_exact (r := rg x) (by decide) hx (by rw [I_zero]; unfold I; split <;> omega) (by omega)]
    unfold pl sumNeg
    rw [I_zero, Int.zero_add]
    by_cases h : rg x = 0
    · rw [if_pos h, h, if_pos (I_eq_zero.2 h), word_eq]; simp; rw [show ng 0 = false by decide]; simp
    · rw [if_neg h, if_neg (mt I_eq_zero.1 h)]
      have hn : decide (I x < 0) = ng x := by
        have : 0 < V (rg x) := by have := @V_mono 0 (rg x) (by omega); omega
        unfold I; cases ng x <;> simp <;> omega
      rw [hn, word_rg hb]
  · unfold Format.add
    rw [read_inf hx]
    have : double.read 0 = .number false 0 (-1074) := by decide
    rw [this]
    simp only [Datum.sum, Option.map_some, Format.write]
    rw [show double.infRung = 9218868437227405312 by decide]
    unfold pl; rw [if_neg (by omega), ← hx, word_rg hb]
theorem zero_sub {x : Nat} (hx : nn x) : double.sub 0 x = some (pl (opp x)) := by
  rw [sub_add hx, zero_add_pl (nn_opp hx) (opp_lt x)]
theorem pl_pl (x : Nat) : pl (pl x) = pl x := by
  unfold pl
  by_cases h : rg x = 0
  · rw [if_pos h]; rfl
  · rw [if_neg h, if_neg h]
end Go.Proofs.Ytknijppdnfcknaa.FF
namespace Go.Proofs.Ytknijppdnfcknaa
open Go.RowKit FF

theorem pl_nonneg {x : Nat} (h : x < 9223372036854775808) : pl x = x := by
  unfold pl; split
  · rename_i h'; unfold rg at h'; omega
  · rfl
theorem nearW_le (N : Nat) (e : Int) (more grow : Bool) : nearW N e more grow ≤ 9218868437227405312 := by
  unfold nearW
  simp only
  split
  · omega
  · exact ldW_le _ _
theorem near_to (neg : Bool) (N : Nat) (e : Int) (more down : Bool) : toW neg N e more down = if neg then pl (opp (nearW N e more (neg == down))) else nearW N e more (neg == down) := by
  have hle := nearW_le N e more (neg == down)
  have key : toW neg N e more down = pl (if neg = true then Op.negFloat .f64 (nearW N e more (neg == down)) else nearW N e more (neg == down)) := by
    unfold toW nearW
    simp only
    generalize max ((blen N : Int) - 53) (-1074 - e) = n
    by_cases h : 0 < n
    · rw [if_pos h]; unfold endW
      rw [show (n.toNat : Int) = n by omega]
    · rw [if_neg h]; unfold endW
      rw [show n.toNat = 0 by omega, Nat.pow_zero, Nat.div_one, Nat.mod_one]
      simp
  rw [key]
  generalize nearW N e more (neg == down) = f at *
  cases neg
  · simp only [Bool.false_eq_true, if_false]; exact pl_nonneg (by omega)
  · simp only [if_true]
    rw [negFloat_eq f (by omega)]
    congr 1
    unfold opp ng rg
    have : f / 9223372036854775808 % 2 = 0 := by omega
    rw [this]; simp; omega
set_option maxRecDepth 100000 in
theorem rto_b (neg : Bool) (N : Nat) (e : Int) (more down : Bool) (hN : N < 340282366920938463463374607431768211456) (e1 : -10000 ≤ e) (e2 : e ≤ 10000) (hc : blen N ≤ 53 → e ≤ 971) :
    Bl 85 #[woN N e more, .bool neg, .bool down] (.float .f64 (toW neg N e more down)) := by
  intro w
  rw [near_to]
  obtain ⟨g, hg⟩ : ∃ g, g = (neg == down) := ⟨_, rfl⟩
  rw [← hg]
  have NB := Lib.hid (near_b N e more g hN e1 e2 hc)
  have hle := nearW_le N e more g
  generalize nearW N e more g = f at *
  clear hN e1 e2 hc
  have hn : nn f := by unfold nn rg; omega
  have hk := fun W => run_float_arith (P := Try.prog) W .sub 35 .f64 _ _ _ (show floatBits .sub .f64 0 f = some (pl (opp f)) from zero_sub hn)
  have Z := rzero_q (pl (opp f)) (by unfold nn; rw [rg_pl]; exact nn_opp hn)
  rw [pl_pl] at Z
  have Z' := Lib.hid Z
  clear Z hn hle
  generalize pl (opp f) = h at *
  have hg' : (neg == down) = g := hg.symm
  clear hg
  go_enter Try.func85, Try.ntmps85
  go_upto_if 13 with ((with_reducible refine ((NB.out).at _).mono ?_); rintro _ _ ⟨rfl, X, rfl⟩)
  clear hg'
  cases neg
  · go_wp2_with fail
    refine bodyPost_ret (v := _) (by simp [results, Try.results85, go_sem] <;> rfl) rfl ⟨rfl, ?_⟩
    repeat (first | exact Below.refl _ _ | refine Below.drew ?_ | refine below_drewN ?_ _ | refine Below.over ?_ (by simp <;> omega) _ | refine Below.alloc ?_ (by simp <;> omega) _ | refine Below.setCell ?_ (by simp <;> omega) _ | refine Below.alloc ?_ (by simp) _ | refine Below.setCell ?_ (by simp) _ | refine Below.over ?_ (by simp) _)
  · go_wp2_with ((with_reducible refine ((Z'.out).at _).mono ?_); rintro _ _ ⟨rfl, rfl⟩)
    refine bodyPost_ret (v := _) (by simp [results, Try.results85, go_sem] <;> rfl) rfl ⟨rfl, ?_⟩
    repeat (first | exact Below.refl _ _ | refine Below.drew ?_ | refine below_drewN ?_ _ | refine Below.over ?_ (by simp <;> omega) _ | refine Below.alloc ?_ (by simp <;> omega) _ | refine Below.setCell ?_ (by simp <;> omega) _ | refine Below.alloc ?_ (by simp) _ | refine Below.setCell ?_ (by simp) _ | refine Below.over ?_ (by simp) _)
end Go.Proofs.Ytknijppdnfcknaa
