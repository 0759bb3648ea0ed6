/- Plain facts on the numbers of binary64: rungs, values, rounding. -/
import Ieee.Arith
import Derived.Laws.FloatBits
namespace Go.Proofs.Ytknijppdnfcknaa.FF
/-- the value of a rung, in units of 2^-1074 -/
def V (r : Nat) : Nat := (r - (r / 2^52 - 1) * 2^52) * 2 ^ (r / 2^52 - 1)

theorem V_mk (k m : Nat) (h1 : m ≤ 2^53) (h2 : k = 0 ∨ 2^52 ≤ m) : V (k * 2^52 + m) = m * 2^k := by
  unfold V
  by_cases hm : m = 2^53
  · subst hm
    have : (k * 2^52 + 2^53) / 2^52 = k + 2 := by omega
    rw [this]
    have : k * 2^52 + 2^53 - (k + 2 - 1) * 2^52 = 2^52 := by omega
    rw [this, show k + 2 - 1 = k + 1 by omega, Nat.pow_succ]
    omega
  · by_cases hm2 : m < 2^52
    · have hk : k = 0 := by omega
      subst hk
      have : (0 * 2^52 + m) / 2^52 = 0 := by omega
      rw [this]; simp
    · have : (k * 2^52 + m) / 2^52 = k + 1 := by omega
      rw [this]
      have : k * 2^52 + m - (k + 1 - 1) * 2^52 = m := by omega
      rw [this, show k + 1 - 1 = k by omega]

/-- each rung is of that form, with m below 2^53 -/
theorem rung_form (r : Nat) : ∃ k m, r = k * 2^52 + m ∧ m < 2^53 ∧ (k = 0 ∨ 2^52 ≤ m) := by
  refine ⟨r / 2^52 - 1, r - (r / 2^52 - 1) * 2^52, ?_, ?_, ?_⟩ <;> omega

theorem V_succ (r : Nat) : V r < V (r + 1) := by
  obtain ⟨k, m, rfl, h1, h2⟩ := rung_form r
  rw [V_mk k m (by omega) h2, Nat.add_assoc, V_mk k (m+1) (by omega) (by omega)]
  exact Nat.mul_lt_mul_of_pos_right (by omega) (Nat.two_pow_pos _)

theorem V_mono {r s : Nat} (h : r < s) : V r < V s := by
  induction s with
  | zero => omega
  | succ s ih =>
    rcases Nat.lt_or_ge r s with h' | h'
    · exact Nat.lt_trans (ih h') (V_succ s)
    · have : r = s := by omega
      subst this; exact V_succ r

theorem V_lt {r s : Nat} : V r < V s ↔ r < s := by
  constructor
  · intro h
    rcases Nat.lt_or_ge r s with h' | h'
    · exact h'
    · rcases Nat.lt_or_eq_of_le h' with h'' | h''
      · have := V_mono h''; omega
      · subst h''; omega
  · exact V_mono

theorem V_le {r s : Nat} : V r ≤ V s ↔ r ≤ s := by
  have := @V_lt s r
  omega

theorem V_inj {r s : Nat} (h : V r = V s) : r = s := by
  have h1 := @V_le r s; have h2 := @V_le s r; omega

theorem V_zero : V 0 = 0 := by decide

/-- the greatest rung at or below a natural number of units -/
def flr (q : Nat) : Nat := (q.log2 - 52) * 2^52 + q >>> (q.log2 - 52)

theorem flr_form (q : Nat) : q >>> (q.log2 - 52) < 2^53 ∧ (q.log2 - 52 = 0 ∨ 2^52 ≤ q >>> (q.log2 - 52)) := by
  rw [Nat.shiftRight_eq_div_pow]
  by_cases hq : q = 0
  · subst hq; simp
  · have h1 := Nat.lt_log2_self (n := q)
    have h2 := Nat.log2_self_le hq
    refine ⟨?_, ?_⟩
    · rw [Nat.div_lt_iff_lt_mul (Nat.two_pow_pos _)]
      refine Nat.lt_of_lt_of_le h1 ?_
      rw [← Nat.pow_add]
      exact Nat.pow_le_pow_right (by omega) (by omega)
    · by_cases h : q.log2 - 52 = 0
      · exact .inl h
      · right
        rw [Nat.le_div_iff_mul_le (Nat.two_pow_pos _), ← Nat.pow_add]
        rw [show 52 + (q.log2 - 52) = q.log2 by omega]; exact h2

theorem V_flr (q : Nat) : V (flr q) = (q >>> (q.log2 - 52)) * 2 ^ (q.log2 - 52) := by
  obtain ⟨h1, h2⟩ := flr_form q
  unfold flr; rw [V_mk _ _ (by omega) h2]

theorem V_flr_le (q : Nat) : V (flr q) ≤ q := by
  rw [V_flr, Nat.shiftRight_eq_div_pow]; exact Nat.div_mul_le_self _ _

theorem V_flr_succ (q : Nat) : V (flr q + 1) = (q >>> (q.log2 - 52) + 1) * 2 ^ (q.log2 - 52) := by
  obtain ⟨h1, h2⟩ := flr_form q
  unfold flr; rw [Nat.add_assoc, V_mk _ _ (by omega) (by omega)]

theorem lt_V_flr (q : Nat) : q < V (flr q + 1) := by
  rw [V_flr_succ, Nat.shiftRight_eq_div_pow]
  have := Nat.lt_div_mul_add (a := q) (Nat.two_pow_pos (q.log2 - 52))
  rw [Nat.add_mul]; omega

theorem le_flr {r q : Nat} : r ≤ flr q ↔ V r ≤ q := by
  constructor
  · intro h; exact Nat.le_trans (V_le.2 h) (V_flr_le q)
  · intro h
    have : V r < V (flr q + 1) := Nat.lt_of_le_of_lt h (lt_V_flr q)
    have := V_lt.1 this; omega

theorem flr_V (r : Nat) : flr (V r) = r := by
  have h1 : r ≤ flr (V r) := le_flr.2 (Nat.le_refl _)
  have h2 : V (flr (V r)) ≤ V r := V_flr_le _
  have := V_le.1 h2; omega
theorem flr_eq {q r : Nat} (h1 : V r ≤ q) (h2 : q < V (r+1)) : flr q = r := by
  have a := le_flr.2 h1
  have b : V (flr q) < V (r+1) := Nat.lt_of_le_of_lt (V_flr_le q) h2
  have := V_lt.1 b; omega
/-! rounding of n/d -/
def flq (n d : Nat) : Nat := flr (n / d)
def clq (n d : Nat) : Nat := if V (flq n d) * d = n then flq n d else flq n d + 1

theorem le_flq {r n d : Nat} (hd : 0 < d) : r ≤ flq n d ↔ V r * d ≤ n := by
  unfold flq; rw [le_flr, Nat.le_div_iff_mul_le hd]

theorem V_flq_le {n d : Nat} (hd : 0 < d) : V (flq n d) * d ≤ n := (le_flq hd).1 (Nat.le_refl _)
theorem lt_V_flq {n d : Nat} (hd : 0 < d) : n < V (flq n d + 1) * d := by
  have := (@le_flq (flq n d + 1) n d hd)
  omega

theorem clq_le {r n d : Nat} (hd : 0 < d) : clq n d ≤ r ↔ n ≤ V r * d := by
  have h1 := V_flq_le (n := n) hd
  have h2 := lt_V_flq (n := n) hd
  unfold clq
  split
  · rename_i h
    constructor
    · intro h'
      have := Nat.mul_le_mul_right d (V_le.2 h'); omega
    · intro h'
      have h3 : V (flq n d) * d ≤ V r * d := by omega
      exact V_le.1 (Nat.le_of_mul_le_mul_right h3 hd)
  · rename_i h
    constructor
    · intro h'
      have := Nat.mul_le_mul_right d (V_le.2 h'); omega
    · intro h'
      have h3 : V (flq n d) * d < V r * d := by omega
      exact V_lt.1 (Nat.lt_of_mul_lt_mul_right h3)

theorem flq_eq {n d r : Nat} (hd : 0 < d) (h1 : V r * d ≤ n) (h2 : n < V (r+1) * d) : flq n d = r := by
  have a := (le_flq hd).2 h1
  have b : ¬ (r + 1 ≤ flq n d) := fun h => by have := (le_flq hd).1 h; omega
  omega
theorem clq_eq {n d r : Nat} (hd : 0 < d) (h1 : V r * d < n) (h2 : n ≤ V (r+1) * d) : clq n d = r + 1 := by
  have a := (clq_le hd).2 h2
  have b : ¬ (clq n d ≤ r) := fun h => by have := (clq_le hd).1 h; omega
  omega
theorem clq_exact {n d r : Nat} (hd : 0 < d) (h1 : V r * d = n) : clq n d = r := by
  have a : clq n d ≤ r := (clq_le hd).2 (by omega)
  cases r with
  | zero => omega
  | succ r =>
    have h3 : V r * d < V (r+1) * d := Nat.mul_lt_mul_of_pos_right (V_succ r) hd
    have b : ¬ (clq n d ≤ r) := fun h => by have := (clq_le hd).1 h; omega
    omega
theorem flq_exact {n d r : Nat} (hd : 0 < d) (h1 : V r * d = n) : flq n d = r := by
  refine flq_eq hd (by omega) ?_
  have h3 : V r * d < V (r+1) * d := Nat.mul_lt_mul_of_pos_right (V_succ r) hd
  omega
theorem flq_le_clq (n d : Nat) : flq n d ≤ clq n d := by unfold clq; split <;> omega
theorem flq_scale (n d c : Nat) (hc : 0 < c) : flq (n * c) (d * c) = flq n d := by
  unfold flq; rw [Nat.mul_div_mul_right _ _ hc]
theorem clq_scale (n d c : Nat) (hc : 0 < c) : clq (n * c) (d * c) = clq n d := by
  unfold clq; rw [flq_scale n d c hc, ← Nat.mul_assoc]
  have : (V (flq n d) * d * c = n * c) ↔ (V (flq n d) * d = n) := by
    constructor
    · intro h; exact Nat.eq_of_mul_eq_mul_right hc h
    · intro h; rw [h]
  simp only [this]
open Ieee

/-- the bare rung of 'nearest', not cut at infinity -/
theorem cut_even (neg : Bool) (n drop : Nat) :
    Toward.even.cut neg n drop = n / 2^drop ∨ (Toward.even.cut neg n drop = n / 2^drop + 1 ∧ n % 2^drop ≠ 0) := by
  unfold Toward.cut
  dsimp only
  by_cases h : drop ≤ n.log2 + 2
  · rw [Nat.min_eq_left h, Nat.shiftLeft_eq, Nat.one_mul]
    by_cases hr : n % 2^drop = 0
    · left
      have : 0 < 2^drop := Nat.two_pow_pos _
      simp [hr]
    · cases (decide (2^drop < 2 * (n % 2^drop)) || (2^drop == 2 * (n % 2^drop)) && n / 2^drop % 2 == 1)
      · left; rfl
      · right; exact ⟨rfl, hr⟩
  · left
    rw [Nat.min_eq_right (by omega), Nat.shiftLeft_eq, Nat.one_mul]
    have h1 : n < 2^(n.log2 + 1) := Nat.lt_log2_self
    have h2 : 2^(n.log2+2) = 2 * 2^(n.log2+1) := by rw [Nat.pow_succ]; omega
    have h3 : 2^(n.log2 + 1) ≤ 2^drop := Nat.pow_le_pow_right (by omega) (by omega)
    rw [Nat.mod_eq_of_lt (by omega : n < 2^(n.log2+2)), Nat.div_eq_of_lt (by omega), Nat.div_eq_of_lt (by omega)]
    have a1 : ¬ (2^(n.log2+2) < 2 * n) := by omega
    have a2 : ¬ (2^(n.log2+2) = 2 * n) := by omega
    simp [a1]

/-- a number mag * 2^place as units of 2^-1074: numerator and denominator -/
def unN (mag : Nat) (place : Int) : Nat := mag * 2 ^ (place + 1074).toNat
def unD (place : Int) : Nat := 2 ^ (-1074 - place).toNat
theorem unD_pos (place : Int) : 0 < unD place := Nat.two_pow_pos _

theorem nearest_bare (neg : Bool) (mag : Nat) (place : Int) :
    ∃ R, double.nearest neg mag place = double.word neg (min R 9218868437227405312) ∧
      (R = flq (unN mag place) (unD place) ∨ (R = flq (unN mag place) (unD place) + 1 ∧ R = clq (unN mag place) (unD place))) := by
  unfold Format.nearest
  by_cases hm : mag = 0
  · subst hm
    refine ⟨0, by simp, .inl ?_⟩
    unfold unN; simp [flq, flr]
  rw [if_neg hm]
  dsimp only
  have hlp : double.leastPlace = -1074 := by decide
  have hfb : (double.fractionBits : Int) = 52 := by decide
  have hbin : double.binade = 2^52 := by decide
  have hinf : double.infRung = 9218868437227405312 := by decide
  rw [hlp, hfb, hbin, hinf]
  refine ⟨_, rfl, ?_⟩
  generalize hlast : max (place + (mag.log2 : Int) - 52) (-1074) = last
  have l1 := Nat.lt_log2_self (n := mag)
  have l2 := Nat.log2_self_le hm
  generalize hL : mag.log2 = L at *
  -- k, the scale
  obtain ⟨k, hk⟩ : ∃ k : Nat, last = k - 1074 := ⟨(last + 1074).toNat, by omega⟩
  subst hk
  have hkk : ((k : Int) - 1074 - -1074).toNat = k := by omega
  rw [hkk]
  generalize hn : mag <<< (place - (↑k - 1074)).toNat = n
  generalize hdr : (((k : Int) - 1074) - place).toNat = drop
  rw [Nat.shiftLeft_eq] at hn
  -- n / 2^drop = unN / (unD * 2^k)
  have hrel : n * (unD place * 2^k) = unN mag place * 2^drop := by
    unfold unN unD
    subst hn
    rw [Nat.mul_assoc, Nat.mul_assoc, ← Nat.pow_add, ← Nat.pow_add, ← Nat.pow_add]
    congr 2
    omega
  have hDp := unD_pos place
  generalize hN : unN mag place = N at *
  generalize hDD : unD place = D at *
  have p2d : 0 < 2^drop := Nat.two_pow_pos _
  have p2k : 0 < 2^k := Nat.two_pow_pos _
  -- the size of n / 2^drop
  have hsz : n / 2^drop < 2^53 ∧ (k = 0 ∨ 2^52 ≤ n / 2^drop) := by
    subst hn
    constructor
    · rw [Nat.div_lt_iff_lt_mul p2d, ← Nat.pow_add]
      have : mag * 2 ^ (place - (↑k - 1074)).toNat < 2^(L+1) * 2 ^ (place - (↑k - 1074)).toNat := Nat.mul_lt_mul_of_pos_right l1 (Nat.two_pow_pos _)
      refine Nat.lt_of_lt_of_le this ?_
      rw [← Nat.pow_add]
      exact Nat.pow_le_pow_right (by omega) (by omega)
    · by_cases hk0 : k = 0
      · exact .inl hk0
      · right
        rw [Nat.le_div_iff_mul_le p2d, ← Nat.pow_add]
        refine Nat.le_trans ?_ (Nat.mul_le_mul_right _ l2)
        rw [← Nat.pow_add]
        exact Nat.pow_le_pow_right (by omega) (by omega)
  obtain ⟨s1, s2⟩ := hsz
  generalize hq : n / 2^drop = q at *
  have hv0 : V (k * 2^52 + q) = q * 2^k := V_mk _ _ (by omega) s2
  have hv1 : V (k * 2^52 + q + 1) = (q + 1) * 2^k := by rw [Nat.add_assoc]; exact V_mk _ _ (by omega) (by omega)
  have e1 : q * 2^drop ≤ n := by rw [← hq]; exact Nat.div_mul_le_self _ _
  have e2 : n < (q + 1) * 2^drop := by rw [← hq]; have := Nat.lt_div_mul_add (a := n) p2d; rw [Nat.add_mul]; omega
  have f1 : V (k * 2^52 + q) * D ≤ N := by
    rw [hv0]
    refine Nat.le_of_mul_le_mul_right (c := 2^drop) ?_ p2d
    rw [← hrel]
    calc q * 2^k * D * 2^drop = (q * 2^drop) * (D * 2^k) := by ac_rfl
      _ ≤ n * (D * 2^k) := Nat.mul_le_mul_right _ e1
  have f2 : N < V (k * 2^52 + q + 1) * D := by
    rw [hv1]
    refine Nat.lt_of_mul_lt_mul_right (a := 2^drop) ?_
    rw [← hrel]
    calc n * (D * 2^k) < ((q+1) * 2^drop) * (D * 2^k) := Nat.mul_lt_mul_of_pos_right e2 (Nat.mul_pos hDp p2k)
      _ = (q + 1) * 2^k * D * 2^drop := by ac_rfl
  have hfl : flq N D = k * 2^52 + q := flq_eq hDp f1 f2
  rcases cut_even neg n drop with hc | ⟨hc, hne⟩
  · left; rw [hc, hq, hfl]
  · right
    rw [hc, hq, hfl]
    refine ⟨by omega, ?_⟩
    rw [← Nat.add_assoc]
    symm
    refine clq_eq hDp ?_ (by omega)
    rcases Nat.lt_or_eq_of_le f1 with h | h
    · exact h
    · exfalso
      rw [hv0] at h
      have : n * (D * 2^k) = (q * 2^drop) * (D * 2^k) := by rw [hrel, ← h]; ac_rfl
      have := Nat.eq_of_mul_eq_mul_right (Nat.mul_pos hDp p2k) this
      exact hne (by rw [this, Nat.mul_mod_left])
theorem nearest_exact (neg : Bool) (mag : Nat) (place : Int) (r : Nat) (h : unN mag place = V r * unD place) (hr : r ≤ 9218868437227405312) :
    double.nearest neg mag place = double.word neg r := by
  obtain ⟨R, h1, h2⟩ := nearest_bare neg mag place
  rw [h1]
  have hD := unD_pos place
  have e : R = r := by
    rcases h2 with h2 | ⟨_, h2⟩
    · rw [h2]; exact flq_exact hD h.symm
    · rw [h2]; exact clq_exact hD h.symm
  rw [e, Nat.min_eq_left hr]

/-! words -/
def rg (b : Nat) : Nat := b % 9223372036854775808
def ng (b : Nat) : Bool := b / 9223372036854775808 % 2 == 1
/-- a finite number -/
def fin (b : Nat) : Prop := rg b < 9218868437227405312
instance (b : Nat) : Decidable (fin b) := by unfold fin; infer_instance
/-- not a NaN -/
def nn (b : Nat) : Prop := rg b ≤ 9218868437227405312
/-- the value, in units of 2^-1074 (an infinity counts as the number that its rung would have) -/
def I (b : Nat) : Int := if ng b then -(V (rg b) : Int) else V (rg b)

theorem word_eq (neg : Bool) (r : Nat) : double.word neg r = if neg then 9223372036854775808 + r else r := by
  unfold Format.word; rw [show double.signWeight = 9223372036854775808 by decide]

theorem rg_word (neg : Bool) {r : Nat} (h : r < 9223372036854775808) : rg (double.word neg r) = r := by
  rw [word_eq]; unfold rg; cases neg <;> simp <;> omega
theorem ng_word (neg : Bool) {r : Nat} (h : r < 9223372036854775808) : ng (double.word neg r) = neg := by
  rw [word_eq]; unfold ng
  cases neg
  · simp; omega
  · simp; omega
theorem word_rg {b : Nat} (h : b < 18446744073709551616) : double.word (ng b) (rg b) = b := by
  rw [word_eq]; unfold ng rg
  by_cases h1 : b / 9223372036854775808 % 2 = 1
  · simp [h1]; omega
  · simp [h1]; omega

theorem read_eq (b : Nat) : double.read b =
    if rg b < 4503599627370496 then .number (ng b) (rg b) (-1074)
    else if rg b < 9218868437227405312 then .number (ng b) (4503599627370496 + rg b % 4503599627370496) (-1074 + (rg b / 4503599627370496 - 1 : Nat))
    else if rg b = 9218868437227405312 then .infinity (ng b)
    else .nan (ng b) (rg b - 9218868437227405312) := by
  unfold Format.read rg ng
  rw [show double.signWeight = 9223372036854775808 by decide, show double.binade = 4503599627370496 by decide, show double.infRung = 9218868437227405312 by decide, show double.leastPlace = -1074 by decide]

theorem read_fin {b : Nat} (h : fin b) : ∃ m p, double.read b = .number (ng b) m p ∧ -1074 ≤ p ∧ m * 2 ^ (p + 1074).toNat = V (rg b) := by
  rw [read_eq]
  unfold fin at h
  by_cases h1 : rg b < 4503599627370496
  · rw [if_pos h1]
    refine ⟨_, _, rfl, by omega, ?_⟩
    have := V_mk 0 (rg b) (by omega) (.inl rfl)
    simp at this ⊢; rw [this]
  · rw [if_neg h1, if_pos h]
    refine ⟨_, _, rfl, by omega, ?_⟩
    generalize rg b = r at *
    have e : r = (r / 4503599627370496 - 1) * 2^52 + (4503599627370496 + r % 4503599627370496) := by omega
    have := V_mk (r / 4503599627370496 - 1) (4503599627370496 + r % 4503599627370496) (by omega) (by omega)
    rw [← e] at this
    rw [this]
    congr 2
    omega

theorem read_inf {b : Nat} (h : rg b = 9218868437227405312) : double.read b = .infinity (ng b) := by
  rw [read_eq, if_neg (by omega), if_neg (by omega), if_pos h]
theorem read_nan {b : Nat} (h : ¬ nn b) : double.read b = .nan (ng b) (rg b - 9218868437227405312) := by
  unfold nn at h
  rw [read_eq, if_neg (by omega), if_neg (by omega), if_neg (by omega)]

theorem signed_eq (neg : Bool) (m u : Nat) : signed neg m u = (if neg then -1 else 1) * ((m * 2^u : Nat) : Int) := by
  unfold signed; rw [Nat.shiftLeft_eq]; cases neg <;> simp

theorem I_eq (b : Nat) : I b = (if ng b then -1 else 1) * (V (rg b) : Int) := by
  unfold I; cases ng b <;> simp

theorem pow_int (a : Nat) : ((2^a : Nat) : Int) = (2:Int)^a := by simp

theorem signed_I {b m : Nat} {p base : Int} (h1 : m * 2 ^ (p + 1074).toNat = V (rg b)) (h2 : -1074 ≤ base) (h3 : base ≤ p) :
    signed (ng b) m (p - base).toNat * ((2^(base + 1074).toNat : Nat) : Int) = I b := by
  rw [signed_eq, I_eq, ← h1, Int.mul_assoc]
  congr 1
  rw [← Int.natCast_mul, Nat.mul_assoc, ← Nat.pow_add]
  congr 3
  omega

/-- a sum's sign: of nothing, it is -0 only of two -0 -/
def sumNeg (x y : Nat) : Bool := if I x + I y = 0 then ng x && ng y else decide (I x + I y < 0)

theorem add_bare {x y : Nat} (hx : fin x) (hy : fin y) :
    ∃ R, double.add x y = some (double.word (sumNeg x y) (min R 9218868437227405312)) ∧
      (R = flq (I x + I y).natAbs 1 ∨ (R = flq (I x + I y).natAbs 1 + 1 ∧ R = clq (I x + I y).natAbs 1)) := by
  obtain ⟨m, i, hrx, hi, hvx⟩ := read_fin hx
  obtain ⟨n, j, hry, hj, hvy⟩ := read_fin hy
  unfold Format.add
  rw [hrx, hry]
  simp only [Datum.sum, Option.map_some, Format.write]
  generalize hb : min i j = base
  have hb1 : -1074 ≤ base := by omega
  have e1 := signed_I hvx hb1 (by omega)
  have e2 := signed_I hvy hb1 (by omega)
  generalize hT : signed (ng x) m (i - base).toNat + signed (ng y) n (j - base).toNat = T
  have hS : T * ((2^(base + 1074).toNat : Nat) : Int) = I x + I y := by
    rw [← hT, Int.add_mul, e1, e2]
  have hP : (0 : Int) < ((2^(base + 1074).toNat : Nat) : Int) := Int.natCast_pos.2 (Nat.two_pow_pos _)
  have hn : unN T.natAbs base = (I x + I y).natAbs := by
    unfold unN
    rw [← hS, Int.natAbs_mul, Int.natAbs_natCast]
  have hd : unD base = 1 := by
    unfold unD
    rw [show (-1074 - base).toNat = 0 by omega, Nat.pow_zero]
  have hneg : (if T = 0 then ng x && ng y else decide (T < 0)) = sumNeg x y := by
    unfold sumNeg
    rw [← hS]
    generalize ((2^(base + 1074).toNat : Nat) : Int) = P at hP
    have z : T = 0 ↔ T * P = 0 := by
      constructor
      · intro h; rw [h, Int.zero_mul]
      · intro h; rcases Int.mul_eq_zero.1 h with h | h
        · exact h
        · omega
    have l : T < 0 ↔ T * P < 0 := by
      constructor
      · intro h; exact Int.mul_neg_of_neg_of_pos h hP
      · intro h
        rcases Int.lt_or_le T 0 with h' | h'
        · exact h'
        · have := Int.mul_nonneg h' (Int.le_of_lt hP); omega
    by_cases h0 : T = 0
    · rw [if_pos h0, if_pos (z.1 h0)]
    · rw [if_neg h0, if_neg (mt z.2 h0)]; exact decide_eq_decide.2 l
  rw [hneg]
  have := nearest_bare (sumNeg x y) T.natAbs base
  rw [hn, hd] at this
  obtain ⟨R, h1, h2⟩ := this
  exact ⟨R, by rw [h1], h2⟩

theorem add_exact {x y r : Nat} (hx : fin x) (hy : fin y) (h : (I x + I y).natAbs = V r) (hr : r ≤ 9218868437227405312) :
    double.add x y = some (double.word (sumNeg x y) r) := by
  obtain ⟨R, h1, h2⟩ := add_bare hx hy
  have e : R = r := by
    rcases h2 with h2 | ⟨_, h2⟩
    · rw [h2]; exact flq_exact (by omega) (by omega)
    · rw [h2]; exact clq_exact (by omega) (by omega)
  rw [h1, e, Nat.min_eq_left hr]
/-- what the rung of infinity would stand for: 2^1024 -/
def top : Nat := V 9218868437227405312
theorem top_eq (k : Nat) (hk : k = 2046) : top = 2^52 * 2^k := by
  have := V_mk k (2^52) (by omega) (.inr (by omega))
  rw [show k * 2^52 + 2^52 = 9218868437227405312 by omega] at this
  exact this
theorem V_inf : V 9218868437227405312 = top := rfl
theorem top_pos : 0 < top := by
  have h := @V_mono 0 9218868437227405312 (by omega)
  rw [V_zero] at h; exact h

instance (b : Nat) : Decidable (nn b) := by unfold nn; infer_instance
theorem cmp_mul (a b P : Int) (hP : 0 < P) : compare (a * P) (b * P) = compare a b := by
  rcases Int.lt_trichotomy a b with h | h | h
  · rw [Int.compare_eq_lt.2 h, Int.compare_eq_lt.2 (Int.mul_lt_mul_of_pos_right h hP)]
  · subst h; rw [Int.compare_eq_eq.2 rfl, Int.compare_eq_eq.2 rfl]
  · rw [Int.compare_eq_gt.2 h, Int.compare_eq_gt.2 (Int.mul_lt_mul_of_pos_right h hP)]

theorem I_inf {b : Nat} (h : rg b = 9218868437227405312) : I b = if ng b then -(top : Int) else (top : Int) := by
  unfold I; rw [h, V_inf]
theorem I_fin {b : Nat} (h : fin b) : -(top : Int) < I b ∧ I b < (top : Int) := by
  unfold fin at h
  have h1 := V_mono h
  rw [V_inf] at h1
  unfold I
  generalize top = P at *
  split <;> omega

theorem order_num {x y : Nat} (hx : nn x) (hy : nn y) : double.order x y = some (compare (I x) (I y)) := by
  unfold nn at hx hy
  unfold Format.order
  rcases Nat.lt_or_eq_of_le hx with hx | hx <;> rcases Nat.lt_or_eq_of_le hy with hy | hy
  · obtain ⟨m, i, hrx, hi, hvx⟩ := read_fin hx
    obtain ⟨n, j, hry, hj, hvy⟩ := read_fin hy
    rw [hrx, hry]
    simp only [Datum.order]
    generalize hb : min i j = base
    have hb1 : -1074 ≤ base := by omega
    have e1 := signed_I hvx hb1 (by omega)
    have e2 := signed_I hvy hb1 (by omega)
    rw [← e1, ← e2, cmp_mul _ _ _ (Int.natCast_pos.2 (Nat.two_pow_pos _))]
  · obtain ⟨m, i, hrx, hi, hvx⟩ := read_fin hx
    rw [hrx, read_inf hy, I_inf hy]
    have := I_fin hx
    simp only [Datum.order]
    cases ng y
    · simp only [Bool.false_eq_true, if_false]; rw [Int.compare_eq_lt.2 this.2]
    · simp only [if_true]; rw [Int.compare_eq_gt.2 this.1]
  · obtain ⟨n, j, hry, hj, hvy⟩ := read_fin hy
    rw [hry, read_inf hx, I_inf hx]
    have := I_fin hy
    simp only [Datum.order]
    cases ng x
    · simp only [Bool.false_eq_true, if_false]; rw [Int.compare_eq_gt.2 this.2]
    · simp only [if_true]; rw [Int.compare_eq_lt.2 this.1]
  · rw [read_inf hx, read_inf hy, I_inf hx, I_inf hy]
    have p : (0 : Int) < (top : Int) := Int.natCast_pos.2 top_pos
    generalize (top : Int) = P at *
    simp only [Datum.order]
    cases ng x <;> cases ng y <;> simp only [Bool.false_eq_true, if_false, if_true, Bool.toNat_true, Bool.toNat_false]
    · rw [Int.compare_eq_eq.2 rfl]; rfl
    · rw [Int.compare_eq_gt.2 (by omega)]; rfl
    · rw [Int.compare_eq_lt.2 (by omega)]; rfl
    · rw [Int.compare_eq_eq.2 rfl]; rfl

theorem order_nan_l {x y : Nat} (hx : ¬ nn x) : double.order x y = none := by
  unfold Format.order; rw [read_nan hx]; simp [Datum.order]
theorem order_nan_r {x y : Nat} (hy : ¬ nn y) : double.order x y = none := by
  unfold Format.order; rw [read_nan hy]
  cases double.read x <;> simp [Datum.order]

theorem lt_num {x y : Nat} (hx : nn x) (hy : nn y) : (double.order x y == some .lt) = decide (I x < I y) := by
  rw [order_num hx hy, Bool.eq_iff_iff]
  rcases Int.lt_trichotomy (I x) (I y) with h | h | h
  · rw [Int.compare_eq_lt.2 h]; simp [h]
  · rw [Int.compare_eq_eq.2 h]; simp; omega
  · rw [Int.compare_eq_gt.2 h]; simp; omega
theorem gt_num {x y : Nat} (hx : nn x) (hy : nn y) : (double.order x y == some .gt) = decide (I y < I x) := by
  rw [order_num hx hy, Bool.eq_iff_iff]
  rcases Int.lt_trichotomy (I x) (I y) with h | h | h
  · rw [Int.compare_eq_lt.2 h]; simp; omega
  · rw [Int.compare_eq_eq.2 h]; simp; omega
  · rw [Int.compare_eq_gt.2 h]; simp [h]
theorem eq_num {x y : Nat} (hx : nn x) (hy : nn y) : (double.order x y == some .eq) = decide (I x = I y) := by
  rw [order_num hx hy, Bool.eq_iff_iff]
  rcases Int.lt_trichotomy (I x) (I y) with h | h | h
  · rw [Int.compare_eq_lt.2 h]; simp; omega
  · rw [Int.compare_eq_eq.2 h]; simp [h]
  · rw [Int.compare_eq_gt.2 h]; simp; omega
theorem ne_num {x y : Nat} (hx : nn x) (hy : nn y) : (double.order x y != some .eq) = decide (I x ≠ I y) := by
  have := eq_num hx hy
  unfold bne; rw [this]; simp
theorem le_num {x y : Nat} (hx : nn x) (hy : nn y) : (double.order x y == some .lt || double.order x y == some .eq) = decide (I x ≤ I y) := by
  rw [lt_num hx hy, eq_num hx hy, Bool.eq_iff_iff]; simp; omega
theorem ge_num {x y : Nat} (hx : nn x) (hy : nn y) : (double.order x y == some .gt || double.order x y == some .eq) = decide (I y ≤ I x) := by
  rw [gt_num hx hy, eq_num hx hy, Bool.eq_iff_iff]; simp; omega
theorem nan_self (x : Nat) : (double.order x x != some .eq) = decide (¬ nn x) := by
  by_cases h : nn x
  · rw [ne_num h h]; simp [h]
  · rw [order_nan_l h]; simp [h]
theorem I_zero : I 0 = 0 := by decide
theorem I_eq_zero {x : Nat} : I x = 0 ↔ rg x = 0 := by
  unfold I
  have : V (rg x) = 0 ↔ rg x = 0 := by
    constructor
    · intro h; exact V_inj (by rw [h, V_zero])
    · intro h; rw [h, V_zero]
  split <;> omega
theorem I_inj {x y : Nat} (hx : x < 18446744073709551616) (hy : y < 18446744073709551616) (h : I x = I y) (h0 : I x ≠ 0) : x = y := by
  have e0 : rg x ≠ 0 := mt I_eq_zero.2 h0
  have px : 0 < V (rg x) := by have := @V_mono 0 (rg x) (by omega); omega
  have py : 0 < V (rg y) := by
    have := mt (@I_eq_zero y).2 (by omega)
    have := @V_mono 0 (rg y) (by omega); omega
  unfold I at h
  rw [← word_rg hx, ← word_rg hy]
  cases hnx : ng x <;> cases hny : ng y <;> simp only [hnx, hny, Bool.false_eq_true, if_false, if_true] at h
  · rw [V_inj (by omega : V (rg x) = V (rg y))]
  · omega
  · omega
  · rw [V_inj (by omega : V (rg x) = V (rg y))]

/-- +0 in the place of -0 -/
def pl (x : Nat) : Nat := if rg x = 0 then 0 else x
theorem add_zero_pl {x : Nat} (hx : nn x) (hb : x < 18446744073709551616) : double.add x 0 = some (pl x) := by
  unfold nn at hx
  rcases Nat.lt_or_eq_of_le hx with hx | hx
  · rw [add_exact (r := rg x) hx (by decide) (by rw [I_zero]; unfold I; split <;> omega) (by omega)]
    unfold pl sumNeg
    rw [I_zero, Int.add_zero]
    by_cases h : rg x = 0
    · rw [if_pos h, h, if_pos (I_eq_zero.2 h), word_eq]; simp; rw [show ng 0 = false by decide]; simp
    · rw [if_neg h, if_neg (mt I_eq_zero.1 h)]
      have hn : decide (I x < 0) = ng x := by
        have : 0 < V (rg x) := by have := @V_mono 0 (rg x) (by omega); omega
        unfold I; cases ng x <;> simp <;> omega
      rw [hn, word_rg hb]
  · unfold Format.add
    rw [read_inf hx]
    have : double.read 0 = .number false 0 (-1074) := by decide
    rw [this]
    simp only [Datum.sum, Option.map_some, Format.write]
    rw [show double.infRung = 9218868437227405312 by decide]
    unfold pl; rw [if_neg (by omega), ← hx, word_rg hb]
theorem pl_lt {x : Nat} (h : x < 18446744073709551616) : pl x < 18446744073709551616 := by unfold pl; split <;> omega
theorem rg_pl (x : Nat) : rg (pl x) = rg x := by
  unfold pl; split
  · rename_i h; rw [h]; rfl
  · rfl
theorem I_pl (x : Nat) : I (pl x) = I x := by
  unfold pl; split
  · rename_i h; rw [I_zero, I_eq_zero.2 h]
  · rfl
theorem rg_lt (x : Nat) : rg x < 9223372036854775808 := Nat.mod_lt _ (by omega)
theorem rg_rg (x : Nat) : rg (rg x) = rg x := by unfold rg; omega
theorem ng_rg (x : Nat) : ng (rg x) = false := by
  unfold ng rg
  rw [Nat.div_eq_of_lt (Nat.mod_lt _ (by omega))]; rfl
theorem I_rg (x : Nat) : I (rg x) = V (rg x) := by unfold I; rw [ng_rg, rg_rg]; rfl
theorem isInf_eq (x : Nat) : (double.order (rg x) 9218868437227405311 == some .gt) = decide (rg x = 9218868437227405312) := by
  by_cases h : nn (rg x)
  · rw [gt_num h (by decide), I_rg, show I 9218868437227405311 = V 9218868437227405311 from I_rg 9218868437227405311]
    unfold nn at h; rw [rg_rg] at h
    have := @V_lt 9218868437227405311 (rg x)
    exact decide_eq_decide.2 ⟨fun h' => by omega, fun h' => by omega⟩
  · rw [order_nan_l h]
    unfold nn at h; rw [rg_rg] at h
    simp; omega
theorem fin_iff (x : Nat) : fin x ↔ nn x ∧ ¬ rg x = 9218868437227405312 := by unfold fin nn; omega
theorem fin.nn {x : Nat} (h : fin x) : nn x := ((fin_iff x).1 h).1
/-- how many bits -/
def blen (x : Nat) : Nat := if x = 0 then 0 else x.log2 + 1
theorem blen_lt (x : Nat) : x < 2 ^ blen x := by
  unfold blen; split
  · rename_i h; rw [h]; decide
  · exact Nat.lt_log2_self
theorem blen_le {x : Nat} (h : x ≠ 0) : 2 ^ (blen x - 1) ≤ x := by
  unfold blen; rw [if_neg h]; exact Nat.log2_self_le h
theorem blen_pos {x : Nat} (h : x ≠ 0) : 0 < blen x := by unfold blen; rw [if_neg h]; omega
theorem blen_zero : blen 0 = 0 := rfl
theorem blen_eq {x n : Nat} (h1 : 2^n ≤ x) (h2 : x < 2^(n+1)) : blen x = n + 1 := by
  have h0 : x ≠ 0 := by have := Nat.two_pow_pos n; omega
  unfold blen; rw [if_neg h0, (Nat.log2_eq_iff h0).2 ⟨h1, h2⟩]
theorem blen_le_of_lt {x n : Nat} (h : x < 2^n) : blen x ≤ n := by
  by_cases h0 : x = 0
  · rw [h0, blen_zero]; omega
  · have h1 := blen_le h0
    have : 2^(blen x - 1) < 2^n := by omega
    have := (Nat.pow_lt_pow_iff_right (by omega : 1 < 2)).1 this
    omega
theorem le_of_blen {x n : Nat} (h : n < blen x) : 2^n ≤ x := by
  have h0 : x ≠ 0 := by intro e; rw [e, blen_zero] at h; omega
  exact Nat.le_trans (Nat.pow_le_pow_right (by omega) (by omega)) (blen_le h0)
theorem blen_half {x : Nat} (h : x ≠ 0) : blen x = 1 + blen (x / 2) := by
  by_cases h1 : x = 1
  · subst h1; decide
  · have h2 : x / 2 ≠ 0 := by omega
    have a := blen_le h2
    have b := blen_lt (x / 2)
    have p := blen_pos h2
    obtain ⟨k, hk⟩ : ∃ k, blen (x / 2) = k + 1 := ⟨blen (x/2) - 1, by omega⟩
    rw [hk] at a b ⊢
    rw [blen_eq (n := k + 1) (by rw [Nat.pow_succ]; simp at a; omega) (by rw [Nat.pow_succ]; omega)]
    omega
theorem blen_mul_pow {x : Nat} (h : x ≠ 0) (k : Nat) : blen (x * 2^k) = blen x + k := by
  have a := blen_le h
  have b := blen_lt x
  have p := blen_pos h
  obtain ⟨l, hl⟩ : ∃ l, blen x = l + 1 := ⟨blen x - 1, by omega⟩
  rw [hl] at a b ⊢
  rw [blen_eq (n := l + k)]
  · omega
  · rw [Nat.pow_add]; exact Nat.mul_le_mul_right _ a
  · rw [show l + k + 1 = (l + 1) + k by omega, Nat.pow_add]; exact Nat.mul_lt_mul_of_pos_right b (Nat.two_pow_pos _)
/-- one in units: 2^1074 -/
def U : Nat := V 4607182418800017408
theorem U_eq (k : Nat) (hk : k = 1074) : U = 2 ^ k := by
  obtain ⟨j, hj⟩ : ∃ j, j = 1022 := ⟨_, rfl⟩
  have := V_mk j (2^52) (by omega) (.inr (by omega))
  rw [show j * 2^52 + 2^52 = 4607182418800017408 by omega, ← Nat.pow_add, show 52 + j = k by omega] at this
  exact this
theorem U_pos : 0 < U := by
  obtain ⟨k, hk⟩ : ∃ k, k = 1074 := ⟨_, rfl⟩
  rw [U_eq k hk]; exact Nat.two_pow_pos _
theorem flq_ratio {n d n' d' : Nat} (hd : 0 < d) (hd' : 0 < d') (h : n * d' = n' * d) : flq n d = flq n' d' := by
  rw [← flq_scale n d d' hd', ← flq_scale n' d' d hd, h, Nat.mul_comm d]
theorem clq_ratio {n d n' d' : Nat} (hd : 0 < d) (hd' : 0 < d') (h : n * d' = n' * d) : clq n d = clq n' d' := by
  rw [← clq_scale n d d' hd', ← clq_scale n' d' d hd, h, Nat.mul_comm d]
theorem unN_mul (a : Nat) (p : Int) (k : Nat) (hk : k = 1074) : ∀ A : Nat, a * 2 ^ (p + 2148).toNat = A → -2148 ≤ p → unN a p * 2^k = A * unD p := by
  intro A hA hp
  subst hA
  unfold unN unD
  rw [Nat.mul_assoc, Nat.mul_assoc, ← Nat.pow_add, ← Nat.pow_add]
  congr 2
  omega
theorem mul_bare {x y : Nat} (hx : fin x) (hy : fin y) :
    ∃ R, double.mul x y = some (double.word (ng x ^^ ng y) (min R 9218868437227405312)) ∧
      (R = flq (V (rg x) * V (rg y)) U ∨ (R = flq (V (rg x) * V (rg y)) U + 1 ∧ R = clq (V (rg x) * V (rg y)) U)) := by
  obtain ⟨m, i, hrx, hi, hvx⟩ := read_fin hx
  obtain ⟨n, j, hry, hj, hvy⟩ := read_fin hy
  unfold Format.mul
  rw [hrx, hry]
  simp only [Datum.product, Option.map_some, Format.write]
  have := nearest_bare (ng x ^^ ng y) (m * n) (i + j)
  obtain ⟨k, hk⟩ : ∃ k, k = 1074 := ⟨_, rfl⟩
  have e : unN (m * n) (i + j) * U = (V (rg x) * V (rg y)) * unD (i + j) := by
    rw [U_eq k hk]
    refine unN_mul (m * n) (i + j) k hk _ ?_ (by omega)
    rw [← hvx, ← hvy, Nat.mul_mul_mul_comm, ← Nat.pow_add]
    congr 2
    omega
  rw [flq_ratio (unD_pos _) U_pos e, clq_ratio (unD_pos _) U_pos e] at this
  obtain ⟨R, h1, h2⟩ := this
  exact ⟨R, by rw [h1], h2⟩
theorem mul_exact {x y r : Nat} (hx : fin x) (hy : fin y) (h : V (rg x) * V (rg y) = V r * U) (hr : r ≤ 9218868437227405312) :
    double.mul x y = some (double.word (ng x ^^ ng y) r) := by
  obtain ⟨R, h1, h2⟩ := mul_bare hx hy
  have e : R = r := by
    rcases h2 with h2 | ⟨_, h2⟩
    · rw [h2]; exact flq_exact U_pos h.symm
    · rw [h2]; exact clq_exact U_pos h.symm
  rw [h1, e, Nat.min_eq_left hr]

/-- the word of a whole number: its digits moved up to 53 -/
theorem whole_form {m : Nat} (h0 : 0 < m) (h : m ≤ 2^53) : ∃ L μ, L ≤ 53 ∧ 2^52 ≤ μ ∧ μ < 2^53 ∧ m * 2^52 = μ * 2^L := by
  by_cases hm : m = 2^53
  · subst hm; exact ⟨53, 2^52, by omega, by omega, by omega, by decide⟩
  · have a := Nat.log2_self_le (n := m) (by omega)
    have b := Nat.lt_log2_self (n := m)
    have hL : m.log2 < 53 := by
      have : 2^m.log2 < 2^53 := by omega
      exact (Nat.pow_lt_pow_iff_right (by omega : 1 < 2)).1 this
    generalize m.log2 = L at *
    have hp := Nat.two_pow_pos (52 - L)
    refine ⟨L, m * 2^(52-L), by omega, ?_, ?_, ?_⟩
    · have := Nat.mul_le_mul_right (2^(52-L)) a
      rw [← Nat.pow_add, show L + (52 - L) = 52 by omega] at this; exact this
    · have := Nat.mul_lt_mul_of_pos_right b hp
      rw [← Nat.pow_add, show L + 1 + (52 - L) = 53 by omega] at this; exact this
    · rw [Nat.mul_assoc, ← Nat.pow_add, show 52 - L + L = 52 by omega]
theorem whole_nearest {m L μ : Nat} (hL : L ≤ 53) (h1 : 2^52 ≤ μ) (h2 : μ < 2^53) (h : m * 2^52 = μ * 2^L) (neg : Bool) :
    double.nearest neg m 0 = double.word neg ((L + 1022) * 2^52 + μ) := by
  refine nearest_exact neg m 0 _ ?_ ?_
  · rw [V_mk _ _ (by omega) (.inr h1)]
    obtain ⟨k, hk⟩ : ∃ k, k = 1022 := ⟨_, rfl⟩
    unfold unN unD
    rw [show (0 + 1074 : Int).toNat = 52 + k by omega, show (-1074 - 0 : Int).toNat = 0 by omega, Nat.pow_zero, Nat.mul_one, Nat.pow_add, ← Nat.mul_assoc, h, ← hk, Nat.pow_add, Nat.mul_assoc]
  · omega
end Go.Proofs.Ytknijppdnfcknaa.FF
