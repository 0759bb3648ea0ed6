/- The walks of the document's answer for layer 1: to the left, to the right. -/
import Derived.Test.YtknijppdnfcknaaRa
namespace Go.Proofs.Ytknijppdnfcknaa
open Go.RowKit FF

set_option maxRecDepth 100000 in
theorem up_b (N : Nat) (e : Int) (more : Bool) (n : Int) (h0 : 0 ≤ n) (hN : N * 2^n.toNat < 340282366920938463463374607431768211456) (h2 : n ≤ 127) (e1 : -100000 ≤ e) (e2 : e ≤ 100000) :
    Bl 83 #[woN N e more, .int .i64 n] (woN (N * 2^n.toNat) (e - n) more) := by
  intro w
  obtain ⟨n, rfl⟩ := Int.eq_ofNat_of_zero_le h0
  rw [Int.toNat_natCast] at *
  by_cases h64 : 64 ≤ n
  · have HL := Lib.hid (left_hi hN h64)
    clear hN
    go_enter Try.func83, Try.ntmps83
    go_wp2
    refine bodyPost_ret (v := _) (by simp [results, Try.results83, go_sem]; rfl) rfl ⟨?_, ?_⟩
    · exact ret_val (woN_mk (by omega) (by omega) HL.out rfl rfl)
    · repeat (first | exact Below.refl _ _ | refine Below.drew ?_ | refine below_drewN ?_ _ | refine Below.over ?_ (by simp <;> omega) _ | refine Below.alloc ?_ (by simp <;> omega) _ | refine Below.setCell ?_ (by simp <;> omega) _ | refine Below.alloc ?_ (by simp) _ | refine Below.setCell ?_ (by simp) _ | refine Below.over ?_ (by simp) _)
  · by_cases h1 : 0 < n
    · have HL := Lib.hid (left_mid hN h1 (by omega))
      have h64' : n < 64 := by omega
      clear hN h64
      go_enter Try.func83, Try.ntmps83
      go_wp2
      go_region
      all_goals go_wp2
      refine bodyPost_ret (v := _) (by simp [results, Try.results83, go_sem]; rfl) rfl ⟨?_, ?_⟩
      · exact ret_val (woN_mk (by rw [wrap_u64]; omega) (by rw [wrap_u64]; omega) HL.out rfl rfl)
      · repeat (first | exact Below.refl _ _ | refine Below.drew ?_ | refine below_drewN ?_ _ | refine Below.over ?_ (by simp <;> omega) _ | refine Below.alloc ?_ (by simp <;> omega) _ | refine Below.setCell ?_ (by simp <;> omega) _ | refine Below.alloc ?_ (by simp) _ | refine Below.setCell ?_ (by simp) _ | refine Below.over ?_ (by simp) _)
    · have hn : n = 0 := by omega
      subst hn
      rw [Nat.pow_zero, Nat.mul_one]
      clear hN h64 h1
      go_enter Try.func83, Try.ntmps83
      go_wp2
      refine bodyPost_ret (v := _) (by simp [results, Try.results83, go_sem]; rfl) rfl ⟨?_, ?_⟩
      · exact ret_val (woN_mk (loW_nonneg _) (loW_lt _) (W_eq _) (by omega) rfl)
      · repeat (first | exact Below.refl _ _ | refine Below.drew ?_ | refine below_drewN ?_ _ | refine Below.over ?_ (by simp <;> omega) _ | refine Below.alloc ?_ (by simp <;> omega) _ | refine Below.setCell ?_ (by simp <;> omega) _ | refine Below.alloc ?_ (by simp) _ | refine Below.setCell ?_ (by simp) _ | refine Below.over ?_ (by simp) _)

theorem down64 (N n : Nat) (h : 64 ≤ n) (m : Bool) : N / 18446744073709551616 / 2^(n - 64) = N / 2^n ∧
    ((m || (loW N != 0)) || decide (N / 18446744073709551616 % 2^(n - 64) ≠ 0)) = (m || decide (N % 2^n ≠ 0)) := by
  have e : 2^n = 18446744073709551616 * 2^(n-64) := by
    rw [show (18446744073709551616 : Nat) = 2^64 by decide, ← Nat.pow_add]; congr 1; omega
  refine ⟨by rw [e, Nat.div_div_eq_div_mul], ?_⟩
  have hm : N % 2^n = N / 18446744073709551616 % 2^(n-64) * 18446744073709551616 + N % 18446744073709551616 := by
    rw [e, Nat.mod_mul]; omega
  have hl : (loW N != 0) = decide (N % 18446744073709551616 ≠ 0) := by
    unfold loW; rw [Bool.eq_iff_iff]; simp; omega
  rw [hm, hl]
  generalize N / 18446744073709551616 % 2^(n-64) = a
  generalize N % 18446744073709551616 = b
  cases m
  · rw [Bool.eq_iff_iff]; simp; omega
  · simp
theorem hiW_div {N : Nat} (h : N < 340282366920938463463374607431768211456) : hiW (N / 18446744073709551616) = 0 ∧ loW (N / 18446744073709551616) = hiW N := by unfold hiW loW; omega
/-- what holds at the head of Down's loop -/
def DownRel (w : World) (N n0 : Nat) (e : Int) (more : Bool) (nv : Value) (wr : World) : Prop :=
  ∃ (N' n' : Nat) (m' : Bool), nv = .int .i64 n' ∧ wr = (w.alloc (woO N' e m')).alloc (woO 0 0 false) ∧ N' / 2^n' = N / 2^n0 ∧ (m' || decide (N' % 2^n' ≠ 0)) = (more || decide (N % 2^n0 ≠ 0)) ∧ N' < 340282366920938463463374607431768211456 ∧ n' ≤ n0
set_option maxRecDepth 100000 in
set_option maxHeartbeats 2000000 in
theorem down_b1 (N : Nat) (e : Int) (more : Bool) (n : Nat) (hN : N < 340282366920938463463374607431768211456) (h0 : 0 < n) (h1 : n < 10000) (e1 : -100000 ≤ e) (e2 : e ≤ 100000) :
    Bl 84 #[woN N e more, .int .i64 n] (woN (N / 2^n) (e + n) (more || decide (N % 2^n ≠ 0))) := by
  intro w
  have hb : decide (n = 0) = false := by simp; omega
  go_enter Try.func84, Try.ntmps84
  go_wp2
  go_loopw [1] (fun nv wr => DownRel w N n (e + n) more nv wr) (fun nv _ => (intOf nv).toNat)
  case atStart => exact ⟨N, n, more, rfl, rfl, rfl, rfl, hN, Nat.le_refl _⟩
  case round =>
    obtain ⟨N', n', m', rfl, rfl, r1, r2, r3, r4⟩ := hrel
    have R := Lib.hid (And.intro r1 r2)
    clear r1 r2
    by_cases h64 : 64 ≤ n'
    · obtain ⟨d1, d2⟩ := down64 N' n' h64 m'
      obtain ⟨r1, r2⟩ := R.out
      have D := Lib.hid (And.intro (d1.trans r1) (d2.trans r2))
      obtain ⟨q1, q2⟩ := hiW_div r3
      have Q := Lib.hid (And.intro q1 q2)
      clear d1 d2 q1 q2 hN r1 r2 R
      have R4 := Lib.hid r4
      have hlt : N' / 18446744073709551616 < 340282366920938463463374607431768211456 := by omega
      have HA := Lib.hid (And.intro hlt (And.intro (hiW_nonneg N') (hiW_lt r3)))
      have hn64 : 64 ≤ (n' : Int) := by omega
      have hn10 : n' < 10000 := by omega
      clear hlt r3 r4 h64
      go_wp2
      all_goals first
        | (refine bodyPost_ret (v := _) (by simp [results, Try.results84, go_sem]; rfl) rfl ⟨?_, ?_⟩
           · have h1 : (hiW N' == 0) = true := by assumption
             have h2 : hiW N' = 0 := by simpa using h1
             have h3 : N' / 18446744073709551616 = 0 := by unfold hiW at h2; omega
             obtain ⟨d1, d2⟩ := D.out
             rw [h3, Nat.zero_div] at d1
             rw [h3, Nat.zero_mod] at d2
             refine ret_val (woN_mk HA.out.2.1 HA.out.2.2 ?_ rfl ?_)
             · rw [← d1]; omega
             · rw [← d2]; simp_all
           · repeat (first | exact Below.refl _ _ | refine Below.drew ?_ | refine below_drewN ?_ _ | refine Below.over ?_ (by simp <;> omega) _ | refine Below.alloc ?_ (by simp <;> omega) _ | refine Below.setCell ?_ (by simp <;> omega) _ | refine Below.alloc ?_ (by simp) _ | refine Below.setCell ?_ (by simp) _ | refine Below.over ?_ (by simp) _))
        | (go_roundw
           case rel =>
             refine ⟨N' / 18446744073709551616, n' - 64, (m' || (loW N' != 0)), ?_, ?_, D.out.1, D.out.2, HA.out.1, by have := R4.out; omega⟩
             · simp; omega
             · have e1 : woO (N' / 18446744073709551616) (e + n) (m' || (loW N' != 0)) = .cells #[.int .u64 0, .int .u64 (hiW N'), .int .i64 (e + n), .bool (m' || (loW N' != 0))] 129 := by
                 unfold woO; rw [Q.out.1, Q.out.2]
               rw [e1]; simp_all
           case measure => simp [intOf]; omega)
    · by_cases hp : 0 < n'
      · have HL := Lib.hid (right_mid r3 hp (by omega))
        clear hN
        have h64' : n' < 64 := by omega
        go_wp2
        all_goals (go_region; go_wp2)
        all_goals refine bodyPost_ret (v := _) (by simp [results, Try.results84, go_sem]; rfl) rfl ⟨?_, ?_⟩
        all_goals first
          | (obtain ⟨a, b, c, d⟩ := HL.out
             obtain ⟨r1, r2⟩ := R.out
             rw [← r1, ← r2]
             refine ret_val (woN_mk b c a rfl ?_)
             rw [d]; simp_all; done)
          | (repeat (first | exact Below.refl _ _ | refine Below.drew ?_ | refine below_drewN ?_ _ | refine Below.over ?_ (by simp <;> omega) _ | refine Below.alloc ?_ (by simp <;> omega) _ | refine Below.setCell ?_ (by simp <;> omega) _ | refine Below.alloc ?_ (by simp) _ | refine Below.setCell ?_ (by simp) _ | refine Below.over ?_ (by simp) _))
      · have h0' : n' = 0 := by omega
        subst h0'
        go_wp2
        refine bodyPost_ret (v := _) (by simp [results, Try.results84, go_sem]; rfl) rfl ⟨?_, ?_⟩
        · obtain ⟨r1, r2⟩ := R.out
          rw [← r1, ← r2, Nat.pow_zero, Nat.div_one, Nat.mod_one]
          exact ret_val (woN_mk (loW_nonneg _) (loW_lt _) (W_eq _) rfl (by simp))
        · repeat (first | exact Below.refl _ _ | refine Below.drew ?_ | refine below_drewN ?_ _ | refine Below.over ?_ (by simp <;> omega) _ | refine Below.alloc ?_ (by simp <;> omega) _ | refine Below.setCell ?_ (by simp <;> omega) _ | refine Below.alloc ?_ (by simp) _ | refine Below.setCell ?_ (by simp) _ | refine Below.over ?_ (by simp) _)
set_option maxRecDepth 100000 in
theorem down_b0 (N : Nat) (e : Int) (more : Bool) (n : Int) (h0 : n ≤ 0) :
    Bl 84 #[woN N e more, .int .i64 n] (woN N e more) := by
  intro w
  go_enter Try.func84, Try.ntmps84
  go_wp2
  refine bodyPost_ret (v := _) (by simp [results, Try.results84, go_sem] <;> rfl) rfl ⟨rfl, ?_⟩
  repeat (first | exact Below.refl _ _ | refine Below.drew ?_ | refine below_drewN ?_ _ | refine Below.over ?_ (by simp <;> omega) _ | refine Below.alloc ?_ (by simp <;> omega) _ | refine Below.setCell ?_ (by simp <;> omega) _ | refine Below.alloc ?_ (by simp) _ | refine Below.setCell ?_ (by simp) _ | refine Below.over ?_ (by simp) _)
theorem down_b (N : Nat) (e : Int) (more : Bool) (n : Int) (hN : N < 340282366920938463463374607431768211456) (h1 : n < 10000) (e1 : -100000 ≤ e) (e2 : e ≤ 100000) :
    Bl 84 #[woN N e more, .int .i64 n] (woN (N / 2^n.toNat) (e + n.toNat) (more || decide (N % 2^n.toNat ≠ 0))) := by
  by_cases h : 0 < n
  · obtain ⟨k, rfl⟩ := Int.eq_ofNat_of_zero_le (Int.le_of_lt h)
    rw [Int.toNat_natCast]
    exact down_b1 N e more k hN (by omega) (by omega) e1 e2
  · have := down_b0 N e more n (by omega)
    rw [show n.toNat = 0 by omega, Nat.pow_zero, Nat.div_one, Nat.mod_one, show e + ((0 : Nat) : Int) = e by omega, show (more || decide (0 ≠ 0)) = more by simp]
    exact this
end Go.Proofs.Ytknijppdnfcknaa
