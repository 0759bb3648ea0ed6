/- Plain law: what 'to' makes of a word is the real number, rounded; the sum of two words is the real sum. -/
import Derived.Test.YtknijppdnfcknaaWx
namespace Go.Proofs.Ytknijppdnfcknaa
open FF

/-- n / d units with a sign, rounded down or up -/
def rndW (down neg : Bool) (n d : Nat) : Nat :=
  let r := if neg == down then min (clq n d) 9218868437227405312 else min (flq n d) 9218868437227405311
  if r = 0 then 0 else Ieee.double.word neg r

theorem V_flr_whole {m j : Nat} (h : m ≤ 2^53) : V (flr (m * 2^j)) = m * 2^j := by
  by_cases h53 : m = 2^53
  · subst h53
    rw [← Nat.pow_add]
    rw [V_flr, Nat.shiftRight_eq_div_pow, Nat.log2_two_pow]
    rw [Nat.div_mul_cancel]
    exact Nat.pow_dvd_pow 2 (by omega)
  · by_cases h0 : m = 0
    · subst h0; rw [Nat.zero_mul]; decide
    · rw [V_flr, Nat.shiftRight_eq_div_pow, Nat.div_mul_cancel]
      have hl : (m * 2^j).log2 = m.log2 + j := by
        have hp := Nat.two_pow_pos j
        refine (Nat.log2_eq_iff (Nat.mul_ne_zero h0 (by omega))).2 ⟨?_, ?_⟩
        · rw [Nat.pow_add]; exact Nat.mul_le_mul_right _ (Nat.log2_self_le h0)
        · rw [show m.log2 + j + 1 = (m.log2 + 1) + j by omega, Nat.pow_add]; exact Nat.mul_lt_mul_of_pos_right Nat.lt_log2_self hp
      have hm : m.log2 < 53 := by
        have a := Nat.log2_self_le h0
        have : 2^m.log2 < 2^53 := by omega
        exact (Nat.pow_lt_pow_iff_right (by omega : 1 < 2)).1 this
      rw [hl]
      exact Nat.dvd_trans (Nat.pow_dvd_pow 2 (by omega : m.log2 + j - 52 ≤ j)) (Nat.dvd_mul_left _ _)

/-- a size's float, with its sign -/
theorem end_word (neg : Bool) (f : Nat) (hf : f ≤ 9218868437227405312) :
    pl (if neg = true then Op.negFloat .f64 f else f) = if f = 0 then 0 else Ieee.double.word neg f := by
  have hr : rg f = f := Nat.mod_eq_of_lt (by omega)
  cases neg
  · simp only [Bool.false_eq_true, if_false]
    unfold pl; rw [hr, word_eq]; rfl
  · simp only [if_true]
    rw [negFloat_eq f (by omega)]
    have : rg (9223372036854775808 + f) = f := by unfold rg; omega
    unfold pl; rw [this, word_eq]; rfl

theorem endW_eq {neg down : Bool} {m : Nat} {E : Int} {n d : Nat} {mo : Bool} {r : Nat}
    (hm : flr (m * 2 ^ (E + 1074).toNat) = r + (mo && (neg == down)).toNat) (h1 : flq n d = r) (h2 : clq n d = r + mo.toNat) :
    endW neg (neg == down) m E = rndW down neg n d := by
  unfold endW rndW ldW
  rw [hm, h1, h2]
  cases hg : (neg == down)
  · simp only [Bool.and_false, Bool.toNat_false, Nat.add_zero, Bool.false_eq_true, if_false, and_true]
    have hf : (if rg (min r 9218868437227405312) = 9218868437227405312 then 9218868437227405311 else min r 9218868437227405312) = min r 9218868437227405311 := by
      have : rg (min r 9218868437227405312) = min r 9218868437227405312 := Nat.mod_eq_of_lt (by omega)
      rw [this]; split <;> omega
    rw [hf]
    exact end_word neg _ (by omega)
  · simp only [Bool.and_true, Bool.true_eq_false, and_false, if_false, if_true]
    exact end_word neg _ (by omega)

/-- what a word of 128 bits stands for, against n / d units -/
structure Rep (N : Nat) (e : Int) (more : Bool) (n d : Nat) : Prop where
  le : unN N e * d ≤ n * unD e
  eq : more = false → unN N e * d = n * unD e
  lt : more = true → unN N e * d < n * unD e ∧ n * unD e < unN (N + 1) e * d
  big : more = true → 2^53 ≤ N

theorem toW_eq {neg : Bool} {N : Nat} {e : Int} {more down : Bool} {n d : Nat} (hd : 0 < d) (h : Rep N e more n d) : toW neg N e more down = rndW down neg n d := by
  unfold toW
  simp only []
  generalize hk : max ((blen N : Int) - 53) (-1074 - e) = k
  by_cases hp : 0 < k
  · rw [if_pos hp]
    obtain ⟨t, rfl⟩ : ∃ t : Nat, k = t := ⟨k.toNat, by omega⟩
    rw [Int.toNat_natCast]
    obtain ⟨j, hj⟩ : ∃ j : Nat, e + t = j - 1074 := ⟨(e + t + 1074).toNat, by omega⟩
    have hjj : (e + (t : Int) + 1074).toNat = j := by omega
    have pt := Nat.two_pow_pos t
    have pj := Nat.two_pow_pos j
    -- the word, moved
    obtain ⟨M, hM⟩ : ∃ M, M = N / 2^t := ⟨_, rfl⟩
    obtain ⟨R, hR⟩ : ∃ R, R = N % 2^t := ⟨_, rfl⟩
    have hN : N = M * 2^t + R := by rw [hM, hR, Nat.mul_comm]; exact (Nat.div_add_mod N (2^t)).symm
    have hRl : R < 2^t := by rw [hR]; exact Nat.mod_lt _ pt
    rw [← hM, ← hR]
    have hMl : M < 2^53 := by
      rw [hM, Nat.div_lt_iff_lt_mul pt, ← Nat.pow_add]
      exact Nat.lt_of_lt_of_le (blen_lt N) (Nat.pow_le_pow_right (by omega) (by omega))
    have hMb : j = 0 ∨ 2^52 ≤ M := by
      by_cases hj0 : j = 0
      · exact .inl hj0
      · right
        have hb : (blen N : Int) - 53 = t := by omega
        have h0 : N ≠ 0 := by intro h0; rw [h0, blen_zero] at hb; omega
        rw [hM, Nat.le_div_iff_mul_le pt, ← Nat.pow_add, show 52 + t = blen N - 1 by omega]
        exact blen_le h0
    -- in units
    have key : ∀ x : Nat, unN x e * 2^t = x * 2^j * unD e := by
      intro x
      unfold unN unD
      rw [Nat.mul_assoc, Nat.mul_assoc, ← Nat.pow_add, ← Nat.pow_add]
      congr 2; omega
    have hDp := unD_pos e
    have hV0 : V (j * 2^52 + M) = M * 2^j := V_mk _ _ (by omega) hMb
    have hV1 : V (j * 2^52 + M + 1) = (M + 1) * 2^j := by rw [Nat.add_assoc]; exact V_mk _ _ (by omega) (by omega)
    -- cross products
    have c0 : V (j * 2^52 + M) * d * (unD e * 2^t) = M * 2^t * (2^j * unD e * d) := by rw [hV0]; ac_rfl
    have cN : ∀ x : Nat, unN x e * d * 2^t = x * (2^j * unD e * d) := by
      intro x
      rw [show unN x e * d * 2^t = (unN x e * 2^t) * d by ac_rfl, key]; ac_rfl
    have c1 : V (j * 2^52 + M + 1) * d * (unD e * 2^t) = (M + 1) * 2^t * (2^j * unD e * d) := by rw [hV1]; ac_rfl
    have hQ : 0 < 2^j * unD e * d := Nat.mul_pos (Nat.mul_pos pj hDp) hd
    have hDt : 0 < unD e * 2^t := Nat.mul_pos hDp pt
    have cn : n * (unD e * 2^t) = n * unD e * 2^t := by ac_rfl
    generalize hq : 2^j * unD e * d = Q at *
    have hNM : N * Q = M * 2^t * Q + R * Q := by rw [hN, Nat.add_mul]
    have hM1 : (M + 1) * 2^t * Q = M * 2^t * Q + 2^t * Q := by rw [Nat.add_mul, Nat.one_mul, Nat.add_mul]
    have hRQ : R * Q + Q ≤ 2^t * Q := by rw [← Nat.succ_mul]; exact Nat.mul_le_mul_right _ hRl
    have hle : V (j * 2^52 + M) * d ≤ n := by
      refine Nat.le_of_mul_le_mul_right (c := unD e * 2^t) ?_ hDt
      rw [c0, cn]
      have a := Nat.mul_le_mul_right (2^t) h.le
      rw [cN] at a; omega
    have hlt : n < V (j * 2^52 + M + 1) * d := by
      refine Nat.lt_of_mul_lt_mul_right (a := unD e * 2^t) ?_
      rw [c1, cn]
      cases hmo : more
      · have a := h.eq hmo
        have a' : unN N e * d * 2^t = n * unD e * 2^t := by rw [a]
        rw [cN] at a'; omega
      · have a := (h.lt hmo).2
        have a' := Nat.mul_lt_mul_of_pos_right a pt
        rw [cN, Nat.add_mul, Nat.one_mul] at a'; omega
    have hfl : flq n d = j * 2^52 + M := flq_eq hd hle hlt
    have hex : (more || decide (R ≠ 0)) = false ↔ V (j * 2^52 + M) * d = n := by
      constructor
      · intro hh
        simp at hh
        have a := h.eq hh.1
        have a' : unN N e * d * 2^t = n * unD e * 2^t := by rw [a]
        rw [cN, hNM, hh.2, Nat.zero_mul, Nat.add_zero] at a'
        refine Nat.eq_of_mul_eq_mul_right hDt ?_
        rw [c0, cn]; exact a'
      · intro hh
        have a : V (j * 2^52 + M) * d * (unD e * 2^t) = n * (unD e * 2^t) := by rw [hh]
        rw [c0, cn] at a
        cases hmo : more
        · have b := h.eq hmo
          have b' : unN N e * d * 2^t = n * unD e * 2^t := by rw [b]
          rw [cN] at b'
          have : R * Q = 0 := by omega
          rcases Nat.mul_eq_zero.1 this with h' | h'
          · simp [h']
          · omega
        · have b := (h.lt hmo).1
          have b' := Nat.mul_lt_mul_of_pos_right b pt
          rw [cN] at b'; omega
    have hcl : clq n d = j * 2^52 + M + (more || decide (R ≠ 0)).toNat := by
      cases hx : (more || decide (R ≠ 0))
      · rw [Bool.toNat_false, Nat.add_zero]; exact clq_exact hd (hex.1 hx)
      · refine clq_eq hd ?_ (Nat.le_of_lt hlt)
        rcases Nat.lt_or_eq_of_le hle with h' | h'
        · exact h'
        · rw [hex.2 h'] at hx; cases hx
    refine endW_eq (mo := more || decide (R ≠ 0)) ?_ hfl hcl
    rw [hjj]
    cases ((more || decide (R ≠ 0)) && (neg == down))
    · simp only [Bool.toNat_false, Nat.add_zero]
      rw [← hV0, flr_V]
    · simp only [Bool.toNat_true]
      rw [← hV1, flr_V]
  · rw [if_neg hp]
    have hmo : more = false := by
      cases hm : more
      · rfl
      · have := h.big hm
        have h2 : 2^53 < 2^(blen N) := Nat.lt_of_le_of_lt this (blen_lt N)
        have := (Nat.pow_lt_pow_iff_right (by omega : 1 < 2)).1 h2
        omega
    subst hmo
    have hN : N ≤ 2^53 := by
      have := Nat.lt_of_lt_of_le (blen_lt N) (Nat.pow_le_pow_right (by omega) (by omega : blen N ≤ 53)); omega
    have a := h.eq rfl
    have hD : unD e = 1 := by unfold unD; rw [show (-1074 - e).toNat = 0 by omega, Nat.pow_zero]
    rw [hD, Nat.mul_one] at a
    have hv := V_flr_whole (j := (e + 1074).toNat) hN
    have hx : V (flr (N * 2 ^ (e + 1074).toNat)) * d = n := by rw [hv]; exact a
    refine endW_eq (mo := false) ?_ (flq_exact hd hx) (by rw [Bool.toNat_false, Nat.add_zero]; exact clq_exact hd hx)
    simp
theorem rndW_zero (down neg : Bool) (d : Nat) : rndW down neg 0 d = 0 := by
  unfold rndW
  have h1 : flq 0 d = 0 := by unfold flq; rw [Nat.zero_div]; decide
  have h2 : clq 0 d = 0 := by unfold clq; rw [h1, V_zero]; simp
  rw [h1, h2]; simp

/-- a whole number of units, rounded down or up -/
def rndI (down : Bool) (S : Int) : Nat := rndW down (decide (S < 0)) S.natAbs 1

theorem mnt_lt (x : Nat) : mnt x < 9007199254740992 := by unfold mnt; split <;> omega
theorem exo_ge (x : Nat) : -1074 ≤ exo x := by unfold exo; split <;> omega
theorem exo_le (x : Nat) : exo x ≤ 1000 := by unfold exo; split <;> omega
theorem V_split (x : Nat) : V (rg x) = mnt x * 2 ^ (exo x + 1074).toNat := by
  have e : x / 4503599627370496 % 2048 = rg x / 4503599627370496 := by unfold rg; omega
  have m : x % 4503599627370496 = rg x % 4503599627370496 := by unfold rg; omega
  unfold mnt exo
  rw [e, m]
  generalize rg x = r at *
  by_cases h0 : r / 4503599627370496 = 0
  · rw [if_pos h0, if_pos h0, show (-1074 + 1074 : Int).toNat = 0 from rfl, Nat.pow_zero, Nat.mul_one]
    have := V_mk 0 (r % 4503599627370496) (by omega) (.inl rfl)
    rw [Nat.zero_mul, Nat.zero_add, Nat.pow_zero, Nat.mul_one] at this
    rw [show r = r % 4503599627370496 by omega, Nat.mod_mod]; exact this
  · rw [if_neg h0, if_neg h0]
    obtain ⟨k, hk⟩ : ∃ k, k = r / 4503599627370496 - 1 := ⟨_, rfl⟩
    have hv := V_mk k (r % 4503599627370496 + 4503599627370496) (by omega) (by omega)
    have hr : k * 2^52 + (r % 4503599627370496 + 4503599627370496) = r := by omega
    rw [hr] at hv
    rw [hv]
    congr 2
    omega

/-- with its sign -/
def sg (neg : Bool) (v : Nat) : Int := if neg then -(v : Int) else v
theorem I_sg (x : Nat) : I x = sg (ng x) (mnt x * 2 ^ (exo x + 1074).toNat) := by
  rw [← V_split x]; rfl

theorem sumV_rep {na nb : Bool} {Na Nb : Nat} {ea eb : Int} (hNa : Na < 9007199254740992) (hNb : Nb < 9007199254740992) (a1 : -1074 ≤ ea) (b1 : -1074 ≤ eb)
    (ho : Nb ≠ 0 → Na ≠ 0 ∧ eb + (blen Nb : Int) ≤ ea + (blen Na : Int)) :
    Rep (sumV na Na ea nb Nb eb).2.1 (sumV na Na ea nb Nb eb).2.2.1 (sumV na Na ea nb Nb eb).2.2.2 (sg na (Na * 2 ^ (ea + 1074).toNat) + sg nb (Nb * 2 ^ (eb + 1074).toNat)).natAbs 1 ∧
    (sg na (Na * 2 ^ (ea + 1074).toNat) + sg nb (Nb * 2 ^ (eb + 1074).toNat) ≠ 0 → (sumV na Na ea nb Nb eb).1 = decide (sg na (Na * 2 ^ (ea + 1074).toNat) + sg nb (Nb * 2 ^ (eb + 1074).toNat) < 0)) := by
  unfold sumV
  by_cases hz : Nb = 0
  · rw [if_pos hz]
    subst hz
    have hD : unD ea = 1 := by unfold unD; rw [show (-1074 - ea).toNat = 0 by omega, Nat.pow_zero]
    have hs : sg nb (0 * 2 ^ (eb + 1074).toNat) = 0 := by rw [Nat.zero_mul]; unfold sg; cases nb <;> rfl
    rw [hs, Int.add_zero]
    have hn : (sg na (Na * 2 ^ (ea + 1074).toNat)).natAbs = unN Na ea := by
      unfold sg unN
      cases na
      · exact Int.natAbs_natCast _
      · show (-((Na * 2 ^ (ea + 1074).toNat : Nat) : Int)).natAbs = _
        rw [Int.natAbs_neg, Int.natAbs_natCast]
    rw [hn]
    refine ⟨⟨by show unN Na ea * 1 ≤ unN Na ea * unD ea; rw [hD]; exact Nat.le_refl _, fun _ => (by show unN Na ea * 1 = unN Na ea * unD ea; rw [hD]), fun h => (by cases h), fun h => (by cases h)⟩, fun h => ?_⟩
    unfold sg at h ⊢
    generalize Na * 2 ^ (ea + 1074).toNat = v at *
    cases na
    · simp at h ⊢
    · simp at h ⊢; omega
  · rw [if_neg hz]
    obtain ⟨hcz, hle⟩ := ho hz
    have hla : blen Na ≤ 53 := blen_le_of_lt (n := 53) (by omega)
    have hpb := blen_pos hz
    have hlb : blen Nb ≤ 53 := blen_le_of_lt (n := 53) (by omega)
    obtain ⟨k, hk⟩ : ∃ k : Nat, k = 126 - blen Na := ⟨_, rfl⟩
    obtain ⟨e, he⟩ : ∃ e : Int, e = ea - k := ⟨_, rfl⟩
    simp only [← hk, ← he]
    have hAs := size_left hcz (by omega)
    rw [← hk] at hAs
    obtain ⟨Va, hVa⟩ : ∃ v, v = Na * 2 ^ (ea + 1074).toNat := ⟨_, rfl⟩
    obtain ⟨Vb, hVb⟩ : ∃ v, v = Nb * 2 ^ (eb + 1074).toNat := ⟨_, rfl⟩
    obtain ⟨A, hA⟩ : ∃ v, v = Na * 2^k := ⟨_, rfl⟩
    obtain ⟨B, hB⟩ : ∃ v, v = bAt Nb eb e := ⟨_, rfl⟩
    obtain ⟨m, hm⟩ : ∃ v, v = bMore Nb eb e := ⟨_, rfl⟩
    obtain ⟨D, hD⟩ : ∃ v, v = unD e := ⟨_, rfl⟩
    obtain ⟨P, hP⟩ : ∃ v, v = 2 ^ (e + 1074).toNat := ⟨_, rfl⟩
    rw [← hVa, ← hVb, ← hA, ← hB, ← hm]
    rw [← hA] at hAs
    have hDp : 0 < D := by rw [hD]; exact unD_pos _
    have hPp : 0 < P := by rw [hP]; exact Nat.two_pow_pos _
    have hN : ∀ x, unN x e = x * P := fun x => by rw [hP]; rfl
    have hVA : Va * D = A * P := by
      rw [hVa, hD, hA, hP]; unfold unD
      rw [Nat.mul_assoc, Nat.mul_assoc, ← Nat.pow_add, ← Nat.pow_add]; congr 2; omega
    have hVB : B * P ≤ Vb * D ∧ (m = false → B * P = Vb * D) ∧ (m = true → B * P < Vb * D ∧ Vb * D < (B + 1) * P ∧ B < 9007199254740992) := by
      by_cases hlt : e < eb
      · have hB' : B = Nb * 2^(eb - e).toNat := by rw [hB]; unfold bAt; rw [if_pos hlt]
        have hm' : m = false := by rw [hm]; unfold bMore; rw [if_pos hlt]
        have : B * P = Vb * D := by
          rw [hVb, hD, hB', hP]; unfold unD
          rw [Nat.mul_assoc, Nat.mul_assoc, ← Nat.pow_add, ← Nat.pow_add]; congr 2; omega
        rw [hm']
        exact ⟨by omega, fun _ => this, fun h => (by cases h)⟩
      · obtain ⟨t, ht⟩ : ∃ t : Nat, t = (e - eb).toNat := ⟨_, rfl⟩
        have hB' : B = Nb / 2^t := by rw [hB, ht]; unfold bAt; rw [if_neg hlt]
        have hm' : m = decide (Nb % 2^t ≠ 0) := by rw [hm, ht]; unfold bMore; rw [if_neg hlt]
        have hD1 : D = 1 := by rw [hD]; unfold unD; rw [show (-1074 - e).toNat = 0 by omega, Nat.pow_zero]
        obtain ⟨T, hT⟩ : ∃ T, T = 2 ^ (eb + 1074).toNat := ⟨_, rfl⟩
        have hTp : 0 < T := by rw [hT]; exact Nat.two_pow_pos _
        have hPT : P = 2^t * T := by rw [hP, hT, ← Nat.pow_add]; congr 1; omega
        have hdm := Nat.div_add_mod Nb (2^t)
        have hml := Nat.mod_lt Nb (Nat.two_pow_pos t)
        have hVb' : Vb * D = B * P + (Nb % 2^t) * T := by
          rw [hD1, Nat.mul_one, hVb, ← hT, hPT, hB']
          generalize Nb % 2^t = r at *
          generalize Nb / 2^t = q at *
          rw [← hdm, Nat.add_mul]; congr 1; ac_rfl
        have hBl : B < 9007199254740992 := by rw [hB']; exact Nat.lt_of_le_of_lt (Nat.div_le_self _ _) hNb
        generalize Nb % 2^t = r at *
        have hr : r * T + T ≤ P := by rw [hPT, ← Nat.succ_mul]; exact Nat.mul_le_mul_right _ hml
        have hB1 : (B + 1) * P = B * P + P := by rw [Nat.add_mul, Nat.one_mul]
        refine ⟨by omega, fun h => ?_, fun h => ?_⟩
        · rw [hm'] at h; simp at h; rw [hVb', h, Nat.zero_mul, Nat.add_zero]
        · rw [hm'] at h; simp at h
          have : 0 < r * T := Nat.mul_pos (by omega) hTp
          exact ⟨by omega, by omega, hBl⟩
    obtain ⟨v1, v2, v3⟩ := hVB
    have hB126 : B < 85070591730234615865843651857942052864 := by
      rw [hB, he, hk]; exact size_b (by omega) (by omega) hNb
    clear hVa hVb hA hB hm hP hk he
    by_cases hsg : na = nb
    · subst hsg
      have hS : (sg na Va + sg na Vb).natAbs = Va + Vb := by unfold sg; cases na <;> simp <;> omega
      have hsum : sumN na A na B m = (na, A + B) := by unfold sumN; rw [if_pos rfl]
      rw [hsum, hS]
      have hVab : (Va + Vb) * D = A * P + Vb * D := by rw [Nat.add_mul, hVA]
      refine ⟨⟨?_, ?_, ?_, ?_⟩, ?_⟩
      · rw [hN, ← hD, hVab, Nat.mul_one, Nat.add_mul]; omega
      · intro h; rw [hN, ← hD, hVab, Nat.mul_one, Nat.add_mul]; have := v2 h; omega
      · intro h
        obtain ⟨w1, w2, _⟩ := v3 h
        rw [hN, hN, ← hD, hVab, Nat.mul_one, Nat.mul_one, Nat.add_assoc, Nat.add_mul, Nat.add_mul]
        omega
      · intro h; show 2^53 ≤ A + B; omega
      · intro h
        unfold sg at h ⊢
        cases na
        · simp at h ⊢; omega
        · simp at h ⊢; omega
    · have hS : (sg na Va + sg nb Vb).natAbs = if Va < Vb then Vb - Va else Va - Vb := by
        unfold sg
        cases na <;> cases nb <;> simp at hsg ⊢ <;> split <;> omega
      have hsgn : sg na Va + sg nb Vb ≠ 0 → decide (sg na Va + sg nb Vb < 0) = if Va < Vb then !na else na := by
        intro h
        have e1 : sg na Va + sg nb Vb = if na then (Vb : Int) - Va else (Va : Int) - Vb := by
          unfold sg; cases na <;> cases nb <;> simp at hsg ⊢ <;> omega
        rw [e1] at h ⊢
        cases na
        · simp only [Bool.false_eq_true, if_false] at h ⊢
          by_cases hv : Va < Vb
          · rw [if_pos hv]; simp; omega
          · rw [if_neg hv]; simp; omega
        · simp only [if_true] at h ⊢
          by_cases hv : Va < Vb
          · rw [if_pos hv]; simp; omega
          · rw [if_neg hv]; simp; omega
      have hsum : sumN na A nb B m = if A < B + m.toNat then (!na, B + m.toNat - A) else (na, A - (B + m.toNat)) := by
        unfold sumN; rw [if_neg hsg]
      rw [hsum, hS]
      by_cases hlt : A < B + m.toNat
      · -- the second is greater: nothing has fallen out
        have hm : m = false := by
          cases hm : m
          · rfl
          · obtain ⟨_, _, w⟩ := v3 hm; rw [hm, Bool.toNat_true] at hlt; omega
        subst hm
        rw [Bool.toNat_false, Nat.add_zero] at hlt
        have e2 := v2 rfl
        have hab : A * P < B * P := Nat.mul_lt_mul_of_pos_right hlt hPp
        have hV : Va < Vb := Nat.lt_of_mul_lt_mul_right (a := D) (by omega)
        rw [Bool.toNat_false, Nat.add_zero, if_pos hlt, if_pos hV]
        refine ⟨⟨?_, ?_, fun h => (by cases h), fun h => (by cases h)⟩, ?_⟩
        · rw [hN, ← hD, Nat.mul_one, Nat.mul_sub_right_distrib, Nat.mul_sub_right_distrib]; omega
        · intro _; rw [hN, ← hD, Nat.mul_one, Nat.mul_sub_right_distrib, Nat.mul_sub_right_distrib]; omega
        · intro h; rw [hsgn h, if_pos hV]
      · rw [if_neg hlt]
        cases hm : m
        · rw [hm, Bool.toNat_false, Nat.add_zero] at hlt
          have e2 := v2 hm
          have hab : B * P ≤ A * P := Nat.mul_le_mul_right _ (by omega)
          have hV : ¬ Va < Vb := by
            intro h
            have := Nat.mul_lt_mul_of_pos_right h hDp; omega
          rw [Bool.toNat_false, Nat.add_zero, if_neg hV]
          refine ⟨⟨?_, ?_, fun h => (by cases h), fun h => (by cases h)⟩, ?_⟩
          · rw [hN, ← hD, Nat.mul_one, Nat.mul_sub_right_distrib, Nat.mul_sub_right_distrib]; omega
          · intro _; rw [hN, ← hD, Nat.mul_one, Nat.mul_sub_right_distrib, Nat.mul_sub_right_distrib]; omega
          · intro h; rw [hsgn h, if_neg hV]
        · rw [hm, Bool.toNat_true] at hlt
          obtain ⟨w1, w2, w3⟩ := v3 hm
          have hab : (B + 1) * P ≤ A * P := Nat.mul_le_mul_right _ (by omega)
          have hV : ¬ Va < Vb := by
            intro h
            have := Nat.mul_lt_mul_of_pos_right h hDp; omega
          rw [Bool.toNat_true, if_neg hV]
          refine ⟨⟨?_, fun h => (by cases h), ?_, ?_⟩, ?_⟩
          · rw [hN, ← hD, Nat.mul_one, Nat.mul_sub_right_distrib, Nat.mul_sub_right_distrib]; omega
          · intro _
            rw [hN, hN, ← hD, Nat.mul_one, Nat.mul_one, show A - (B + 1) + 1 = A - B by omega, Nat.mul_sub_right_distrib, Nat.mul_sub_right_distrib, Nat.mul_sub_right_distrib]; omega
          · intro _; show 2^53 ≤ A - (B + 1); omega
          · intro h; rw [hsgn h, if_neg hV]

theorem rndW_sign {down neg : Bool} {S : Int} (h : S ≠ 0 → neg = decide (S < 0)) : rndW down neg S.natAbs 1 = rndI down S := by
  unfold rndI
  by_cases h0 : S = 0
  · subst h0; simp only [Int.natAbs_zero]; rw [rndW_zero, rndW_zero]
  · rw [h h0]

theorem add_law (a b : Nat) (down : Bool) :
    toW (sumW (ng a) (mnt a) (exo a) (ng b) (mnt b) (exo b)).1 (sumW (ng a) (mnt a) (exo a) (ng b) (mnt b) (exo b)).2.1 (sumW (ng a) (mnt a) (exo a) (ng b) (mnt b) (exo b)).2.2.1 (sumW (ng a) (mnt a) (exo a) (ng b) (mnt b) (exo b)).2.2.2 down = rndI down (I a + I b) := by
  rw [I_sg a, I_sg b]
  unfold sumW
  have a1 := mnt_lt a; have a2 := exo_ge a; have b1 := mnt_lt b; have b2 := exo_ge b
  cases hs : swp (mnt a) (mnt b) (exo a) (exo b)
  · simp only [Bool.false_eq_true, if_false]
    obtain ⟨h1, h2⟩ := sumV_rep (na := ng a) (nb := ng b) a1 b1 a2 b2 (by unfold swp at hs; simp at hs; omega)
    rw [toW_eq (by omega) h1, rndW_sign h2]
  · simp only [if_true]
    obtain ⟨h1, h2⟩ := sumV_rep (na := ng b) (nb := ng a) b1 a1 b2 a2 (by unfold swp at hs; simp at hs; omega)
    rw [toW_eq (by omega) h1, rndW_sign h2, Int.add_comm]
end Go.Proofs.Ytknijppdnfcknaa
