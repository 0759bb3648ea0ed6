/- Plain law: what 'to' makes of a quotient of words is the real quotient, rounded. -/
import Derived.Test.YtknijppdnfcknaaFd
namespace Go.Proofs.Ytknijppdnfcknaa
open FF

theorem rep_div {A B N R : Nat} {E : Int} {n d c K : Nat} (hc : 0 < c) (hK : 0 < K) (hA : A = N * B + R) (hR : R < B)
    (h1 : ∀ N, unN N E * d * c = N * B * K) (h2 : n * unD E * c = A * K) (hbig : R ≠ 0 → 2^53 ≤ N) : Rep N E (decide (R ≠ 0)) n d := by
  have e1 := h1 N
  have e2 := h1 (N + 1)
  have e3 : A * K = N * B * K + R * K := by rw [hA, Nat.add_mul]
  have e4 : (N + 1) * B * K = N * B * K + B * K := by rw [Nat.add_mul, Nat.one_mul, Nat.add_mul]
  have e5 : R * K < B * K := Nat.mul_lt_mul_of_pos_right hR hK
  refine ⟨?_, ?_, ?_, ?_⟩
  · refine Nat.le_of_mul_le_mul_right (c := c) ?_ hc
    rw [e1, h2, e3]; exact Nat.le_add_right _ _
  · intro h
    have hz : R = 0 := by simpa using h
    refine Nat.eq_of_mul_eq_mul_right hc ?_
    rw [e1, h2, e3, hz, Nat.zero_mul, Nat.add_zero]
  · intro h
    have hz : R ≠ 0 := by simpa using h
    have : 0 < R * K := Nat.mul_pos (by omega) hK
    constructor
    · refine Nat.lt_of_mul_lt_mul_right (a := c) ?_
      rw [e1, h2, e3]; omega
    · refine Nat.lt_of_mul_lt_mul_right (a := c) ?_
      rw [e2, h2, e3, e4]; omega
  · intro h; exact hbig (by simpa using h)
theorem div_law {x y a b : Nat} {neg down : Bool} (hm : mnt y ≠ 0) {E : Int} (hE : E = (exo x - a) - (exo y - b))
    (hbig : mnt x * 2^a % (mnt y * 2^b) ≠ 0 → 2^53 ≤ mnt x * 2^a / (mnt y * 2^b)) :
    toW neg (mnt x * 2^a / (mnt y * 2^b)) E (decide (mnt x * 2^a % (mnt y * 2^b) ≠ 0)) down = rndW down neg (V (rg x) * U) (V (rg y)) := by
  have x1 := exo_ge x; have y1 := exo_ge y
  have hB : 0 < mnt y * 2^b := Nat.mul_pos (by omega) (Nat.two_pow_pos b)
  have hd : 0 < V (rg y) := by rw [V_split]; exact Nat.mul_pos (by omega) (Nat.two_pow_pos _)
  refine toW_eq hd (rep_div (A := mnt x * 2^a) (B := mnt y * 2^b) (c := 2^b) (K := 2 ^ ((E + 1074).toNat + (exo y + 1074).toNat)) (Nat.two_pow_pos _) (Nat.two_pow_pos _) ?_ (Nat.mod_lt _ hB) ?_ ?_ hbig)
  · have := Nat.div_add_mod (mnt x * 2^a) (mnt y * 2^b)
    rw [Nat.mul_comm (mnt y * 2^b)] at this; exact this.symm
  · intro N
    rw [V_split]; unfold unN
    rw [Nat.pow_add]
    generalize mnt y = m
    generalize 2 ^ b = B
    generalize 2 ^ (E + 1074).toNat = C
    generalize 2 ^ (exo y + 1074).toNat = D
    ac_rfl
  · rw [V_split]; unfold unD
    obtain ⟨k, hk⟩ : ∃ k, k = 1074 := ⟨_, rfl⟩
    rw [U_eq k hk]
    have e : 2 ^ (exo x + 1074).toNat * 2 ^ k * 2 ^ (-1074 - E).toNat * 2 ^ b = 2 ^ a * 2 ^ ((E + 1074).toNat + (exo y + 1074).toNat) := by
      rw [← Nat.pow_add, ← Nat.pow_add, ← Nat.pow_add, ← Nat.pow_add]; congr 1; omega
    rw [Nat.mul_assoc (mnt x) (2^a), ← e]
    generalize mnt x = m
    generalize 2 ^ b = B
    generalize 2 ^ k = K
    generalize 2 ^ (-1074 - E).toNat = C
    generalize 2 ^ (exo x + 1074).toNat = D
    ac_rfl
end Go.Proofs.Ytknijppdnfcknaa
