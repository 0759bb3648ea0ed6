/- The walks of layer 1 (round), fifth part: the sum of two words. -/
import Derived.Test.YtknijppdnfcknaaWu
namespace Go.Proofs.Ytknijppdnfcknaa
open Go.RowKit FF

instance : Nonempty Ext := ⟨⟨#[], 0⟩⟩
theorem call_add64' (x y c : Int) (hx : 0 ≤ x) (hy : 0 ≤ y) (hc : 0 ≤ c) (hc1 : c ≤ 1) (w : World) : (callFunc 92 #[.int .u64 x, .int .u64 y, .int .u64 c]).run Try.prog w = .ok (.value (.tuple #[.int .u64 ((x + y + c) % 18446744073709551616), .int .u64 ((x + y + c) / 18446744073709551616)])) w := by
  obtain ⟨x, rfl⟩ := Int.eq_ofNat_of_zero_le hx
  obtain ⟨y, rfl⟩ := Int.eq_ofNat_of_zero_le hy
  obtain ⟨c, rfl⟩ := Int.eq_ofNat_of_zero_le hc
  rw [call_add64 x y c (by omega)]; simp
theorem call_sub64' (x y c : Int) (hx : 0 ≤ x) (hy : 0 ≤ y) (hy1 : y < 18446744073709551616) (hc : 0 ≤ c) (hc1 : c ≤ 1) (w : World) : (callFunc 93 #[.int .u64 x, .int .u64 y, .int .u64 c]).run Try.prog w = .ok (.value (.tuple #[.int .u64 ((x - y - c) % 18446744073709551616), .int .u64 (if x < y + c then 1 else 0)])) w := by
  obtain ⟨x, rfl⟩ := Int.eq_ofNat_of_zero_le hx
  obtain ⟨y, rfl⟩ := Int.eq_ofNat_of_zero_le hy
  obtain ⟨c, rfl⟩ := Int.eq_ofNat_of_zero_le hc
  rw [call_sub64 x y c (by omega)]
  have e1 : ((x + 18446744073709551616 - y - c : Nat) : Int) % 18446744073709551616 = ((x : Int) - y - c) % 18446744073709551616 := by omega
  have e2 : ((if x < y + c then 1 else 0 : Nat) : Int) = if (x : Int) < (y : Int) + (c : Int) then 1 else 0 := by
    split <;> split <;> omega
  rw [← e1, ← e2]; simp

/-- is the second number's size the greater? -/
def swp (Na Nb : Nat) (ea eb : Int) : Bool := decide (Na = 0) || (!decide (Nb = 0) && decide (ea + blen Na < eb + blen Nb))
abbrev exO (neg : Bool) (N : Nat) (e : Int) (more : Bool) : Obj := .cells #[.bool neg, .int .u64 (hiW N), .int .u64 (loW N), .int .i64 e, .bool more] 119

/-- the second number, at the power of the first -/
def bAt (Nb : Nat) (eb e : Int) : Nat := if e < eb then Nb * 2^(eb - e).toNat else Nb / 2^(e - eb).toNat
def bMore (Nb : Nat) (eb e : Int) : Bool := if e < eb then false else decide (Nb % 2^(e - eb).toNat ≠ 0)
/-- the sum, a's size not below b's, b not 0 -/
def sumN (na : Bool) (A : Nat) (nb : Bool) (B : Nat) (m : Bool) : Bool × Nat :=
  if na = nb then (na, A + B) else if A < B + m.toNat then (!na, B + m.toNat - A) else (na, A - (B + m.toNat))
def sumV (na : Bool) (Na : Nat) (ea : Int) (nb : Bool) (Nb : Nat) (eb : Int) : Bool × Nat × Int × Bool :=
  if Nb = 0 then (na, Na, ea, false) else
    let k := 126 - blen Na
    let e := ea - k
    let B := bAt Nb eb e
    let m := bMore Nb eb e
    let r := sumN na (Na * 2^k) nb B m
    (r.1, r.2, e, m)
def sumW (na : Bool) (Na : Nat) (ea : Int) (nb : Bool) (Nb : Nat) (eb : Int) : Bool × Nat × Int × Bool :=
  if swp Na Nb ea eb then sumV nb Nb eb na Na ea else sumV na Na ea nb Nb eb
abbrev exT (r : Bool × Nat × Int × Bool) : Value := exN r.1 r.2.1 r.2.2.1 r.2.2.2

theorem add_pure {A B : Nat} (hA : A < 85070591730234615865843651857942052864) (hB : B < 85070591730234615865843651857942052864) {l c h : Int} (h1 : l = (loW A + loW B + 0) % 18446744073709551616) (h2 : c = (loW A + loW B + 0) / 18446744073709551616)
    (h3 : h = (hiW A + hiW B + c) % 18446744073709551616) : ((A + B : Nat) : Int) = h * 18446744073709551616 + l ∧ 0 ≤ l ∧ l < 18446744073709551616 := by
  have a := W_eq A; have b := W_eq B
  have a1 := loW_nonneg A; have a2 := loW_lt A; have a3 := hiW_nonneg A
  have b1 := loW_nonneg B; have b2 := loW_lt B; have b3 := hiW_nonneg B
  omega
theorem sub_pure {A B k : Nat} (hA : A < 85070591730234615865843651857942052864) (hB : B < 85070591730234615865843651857942052864) (hk : k ≤ 1) {l c h d : Int} (h1 : l = (loW A - loW B - k) % 18446744073709551616) (h2 : c = if loW A < loW B + k then 1 else 0)
    (h3 : h = (hiW A - hiW B - c) % 18446744073709551616) (h4 : d = if hiW A < hiW B + c then 1 else 0) :
    0 ≤ l ∧ l < 18446744073709551616 ∧ 0 ≤ h ∧ h < 18446744073709551616 ∧ (¬ A < B + k → d = 0 ∧ ((A - (B + k) : Nat) : Int) = h * 18446744073709551616 + l) ∧ (A < B + k → d = 1 ∧ ((B + k - A : Nat) : Int) = 340282366920938463463374607431768211456 - (h * 18446744073709551616 + l)) := by
  have a := W_eq A; have b := W_eq B
  have a1 := loW_nonneg A; have a2 := loW_lt A; have a3 := hiW_nonneg A
  have b1 := loW_nonneg B; have b2 := loW_lt B; have b3 := hiW_nonneg B
  generalize hiW A = HA at *
  generalize hiW B = HB at *
  generalize loW A = LA at *
  generalize loW B = LB at *
  by_cases hc : LA < LB + k
  · rw [if_pos hc] at h2; subst h2
    by_cases hd : HA < HB + 1
    · rw [if_pos hd] at h4; subst h4; omega
    · rw [if_neg hd] at h4; subst h4; omega
  · rw [if_neg hc] at h2; subst h2
    by_cases hd : HA < HB + 0
    · rw [if_pos hd] at h4; subst h4; omega
    · rw [if_neg hd] at h4; subst h4; omega
theorem neg_pure {l h : Int} (hl : 0 ≤ l ∧ l < 18446744073709551616) (hh : 0 ≤ h ∧ h < 18446744073709551616) (hp : 0 < h * 18446744073709551616 + l) {l2 c2 h2 : Int} (e1 : l2 = (0 - l - 0) % 18446744073709551616) (e2 : c2 = if 0 < l + 0 then 1 else 0) (e3 : h2 = (0 - h - c2) % 18446744073709551616) :
    0 ≤ l2 ∧ l2 < 18446744073709551616 ∧ 340282366920938463463374607431768211456 - (h * 18446744073709551616 + l) = h2 * 18446744073709551616 + l2 := by
  by_cases hc : 0 < l + 0
  · rw [if_pos hc] at e2; subst e2; omega
  · rw [if_neg hc] at e2; subst e2; omega
theorem pow126 : (85070591730234615865843651857942052864 : Nat) = 2^126 := by decide
theorem size_left {N : Nat} (h : N ≠ 0) (hb : blen N ≤ 126) : N * 2^(126 - blen N) < 85070591730234615865843651857942052864 ∧ 42535295865117307932921825928971026432 ≤ N * 2^(126 - blen N) := by
  have a := blen_lt N
  have b := blen_le h
  have c := blen_pos h
  constructor
  · rw [pow126]
    have := Nat.mul_lt_mul_of_pos_right a (Nat.two_pow_pos (126 - blen N))
    rw [← Nat.pow_add, show blen N + (126 - blen N) = 126 by omega] at this
    exact this
  · have := Nat.mul_le_mul_right (2^(126 - blen N)) b
    rw [← Nat.pow_add, show blen N - 1 + (126 - blen N) = 125 by omega] at this
    exact this
theorem size_b {Nd : Nat} {ed ec : Int} {lc : Nat} (hlc : lc ≤ 126) (hle : ed + (blen Nd : Int) ≤ ec + lc) (hd : Nd < 9007199254740992) :
    bAt Nd ed (ec - ((126 - lc : Nat) : Int)) < 85070591730234615865843651857942052864 := by
  unfold bAt
  split
  · rw [pow126]
    refine Nat.lt_of_lt_of_le (Nat.mul_lt_mul_of_pos_right (blen_lt Nd) (Nat.two_pow_pos _)) ?_
    rw [← Nat.pow_add]
    exact Nat.pow_le_pow_right (by omega) (by omega)
  · exact Nat.lt_of_le_of_lt (Nat.div_le_self _ _) (by omega)
set_option maxRecDepth 100000 in
set_option maxHeartbeats 4000000 in
theorem sum_b (na : Bool) (Na : Nat) (ea : Int) (nb : Bool) (Nb : Nat) (eb : Int) (hNa : Na < 9007199254740992) (hNb : Nb < 9007199254740992) (a1 : -1074 ≤ ea) (a2 : ea ≤ 1000) (b1 : -1074 ≤ eb) (b2 : eb ≤ 1000) :
    Bl 73 #[exN na Na ea false, exN nb Nb eb false] (exT (sumW na Na ea nb Nb eb)) := by
  intro w
  have hla : blen Na ≤ 53 := blen_le_of_lt (n := 53) (by omega)
  have hlb : blen Nb ≤ 53 := blen_le_of_lt (n := 53) (by omega)
  have hs1 : IntKind.i64.wrap (ea + (blen Na : Int)) = ea + (blen Na : Int) := IntWalk.i64_in _ (by omega)
  have hs2 : IntKind.i64.wrap (eb + (blen Nb : Int)) = eb + (blen Nb : Int) := IntWalk.i64_in _ (by omega)
  have LA := Lib.hid (length_b na Na ea false (by omega))
  have LB := Lib.hid (length_b nb Nb eb false (by omega))
  have ZA := Lib.hid (zero_b na Na ea false)
  have ZB := Lib.hid (zero_b nb Nb eb false)
  obtain ⟨s, hs⟩ : ∃ s, s = swp Na Nb ea eb := ⟨_, rfl⟩
  -- the two, the greater first
  obtain ⟨nc, hnc⟩ : ∃ x, x = if s then nb else na := ⟨_, rfl⟩
  obtain ⟨Nc, hNc⟩ : ∃ x, x = if s then Nb else Na := ⟨_, rfl⟩
  obtain ⟨ec, hec⟩ : ∃ x, x = if s then eb else ea := ⟨_, rfl⟩
  obtain ⟨nd, hnd⟩ : ∃ x, x = if s then na else nb := ⟨_, rfl⟩
  obtain ⟨Nd, hNd⟩ : ∃ x, x = if s then Na else Nb := ⟨_, rfl⟩
  obtain ⟨ed, hed⟩ : ∃ x, x = if s then ea else eb := ⟨_, rfl⟩
  have hres : sumW na Na ea nb Nb eb = sumV nc Nc ec nd Nd ed := by
    unfold sumW; rw [← hs, hnc, hNc, hec, hnd, hNd, hed]
    cases s <;> rfl
  have hord : Nd ≠ 0 → Nc ≠ 0 ∧ ed + (blen Nd : Int) ≤ ec + (blen Nc : Int) := by
    rw [hNd, hNc, hed, hec]
    unfold swp at hs
    cases s
    · simp at hs ⊢; omega
    · simp at hs ⊢; omega
  have hbd : Nc < 9007199254740992 ∧ Nd < 9007199254740992 ∧ -1074 ≤ ec ∧ ec ≤ 1000 ∧ -1074 ≤ ed ∧ ed ≤ 1000 ∧ blen Nc ≤ 53 ∧ blen Nd ≤ 53 := by
    rw [hNd, hNc, hed, hec]
    cases s <;> simp <;> omega
  rw [hres]
  have HS := Lib.hid hs
  have HC := Lib.hid (And.intro hnc (And.intro hNc (And.intro hec (And.intro hnd (And.intro hNd hed)))))
  have HO := Lib.hid hord
  clear hs hnc hNc hec hnd hNd hed hres hord
  go_enter Try.func73, Try.ntmps73
  go_upto_region 1 with fail
  go_cut [26] (fun s26 wx => s26 = .bool s ∧ ∃ X, wx = (((w.alloc (exO na Na ea false)).alloc (exO nb Nb eb false)).alloc (exO false 0 0 false)).over X)
  case first => as_aux_lemma =>
    have hs : swp Na Nb ea eb = (decide (Na = 0) || (!decide (Nb = 0) && decide (ea + (blen Na : Int) < eb + (blen Nb : Int)))) := rfl
    rw [← HS.out] at hs
    generalize decide (Na = 0) = za at *
    generalize decide (Nb = 0) = zb at *
    have HS' := Lib.hid hs
    clear hs HS HO HC hbd
    cases za <;> cases zb <;> by_cases hlt : ea + (blen Na : Int) < eb + (blen Nb : Int)
    all_goals
      refine wp_region_over0 (by kernel_rfl) (by kernel_rfl) ?_
      repeat (go_big_quiet_step (first | (with_reducible exact ZA.out.quiet _ _) | (with_reducible exact ZB.out.quiet _ _) | (with_reducible exact LA.out.quiet _ _) | (with_reducible exact LB.out.quiet _ _)))
      refine wpQuiet_nil ?_; intro _ hw'; obtain ⟨X, hw''⟩ := hw'; subst hw''
      go_wp2_with fail
      go_meet
      refine ⟨?_, _, rfl⟩
      rw [HS'.out]
      simp [hlt]
  case rest => as_aux_lemma =>
    obtain ⟨rfl, X, rfl⟩ := hcut
    clear hs1 hs2 LA LB ZA ZB HS
    go_upto_if 26 with fail
    go_cut [] (fun wx => wx = (((w.alloc (exO nc Nc ec false)).alloc (exO nd Nd ed false)).alloc (exO false 0 0 false)).over X)
    case first => as_aux_lemma =>
      obtain ⟨h1, h2, h3, h4, h5, h6⟩ := HC.out
      clear HC HO hbd
      cases s
      · simp only [Bool.false_eq_true, if_false] at h1 h2 h3 h4 h5 h6
        subst h1 h2 h3 h4 h5 h6
        go_wp2_with fail
        go_meet
        rfl
      · simp only [if_true] at h1 h2 h3 h4 h5 h6
        subst h1 h2 h3 h4 h5 h6
        go_wp2_with fail
        go_meet
        rfl
    case rest => as_aux_lemma =>
      subst hcut
      have ho := HO.out
      clear HC HO hNa hNb a1 a2 b1 b2 hla hlb
      obtain ⟨hNc, hNd, c1, c2, d1, d2, hlc, hld⟩ := hbd
      have HO := Lib.hid ho
      clear ho
      by_cases hz : Nd = 0
      · have Z : Bl 90 #[exN nd Nd ed false] (.bool true) := by
          have := zero_b nd Nd ed false
          rw [decide_eq_true hz] at this; exact this
        have hr : sumV nc Nc ec nd Nd ed = (nc, Nc, ec, false) := by unfold sumV; rw [if_pos hz]
        have HR := Lib.hid hr
        have Z' := Lib.hid Z
        clear Z hr hz HO
        go_wp2_with fail
        refine ((Z'.out).at _).mono ?_
        rintro _ _ ⟨rfl, X1, rfl⟩
        go_wp2_with fail
        refine bodyPost_ret (v := _) (by simp [results, Try.results73, go_sem]; rfl) rfl ⟨?_, ?_⟩
        · rw [HR.out]
        · repeat (first | exact Below.refl _ _ | refine Below.drew ?_ | refine below_drewN ?_ _ | refine Below.over ?_ (by simp <;> omega) _ | refine Below.alloc ?_ (by simp <;> omega) _ | refine Below.setCell ?_ (by simp <;> omega) _ | refine Below.alloc ?_ (by simp) _ | refine Below.setCell ?_ (by simp) _ | refine Below.over ?_ (by simp) _)
      · obtain ⟨hcz, hle⟩ := HO.out hz
        have Z : Bl 90 #[exN nd Nd ed false] (.bool false) := by
          have := zero_b nd Nd ed false
          rw [decide_eq_false hz] at this; exact this
        have Z' := Lib.hid Z
        obtain ⟨k, hk⟩ : ∃ k : Nat, k = 126 - blen Nc := ⟨_, rfl⟩
        obtain ⟨A, hA⟩ : ∃ A, A = Nc * 2^k := ⟨_, rfl⟩
        obtain ⟨e, he⟩ : ∃ e : Int, e = ec - k := ⟨_, rfl⟩
        obtain ⟨B, hB⟩ : ∃ B, B = bAt Nd ed e := ⟨_, rfl⟩
        obtain ⟨m, hm⟩ : ∃ m, m = bMore Nd ed e := ⟨_, rfl⟩
        have hr : sumV nc Nc ec nd Nd ed = ((sumN nc A nd B m).1, (sumN nc A nd B m).2, e, m) := by
          unfold sumV; rw [if_neg hz]; simp only [← hk, ← hA, ← he, ← hB, ← hm]
        have HR := Lib.hid hr
        have hAs := size_left hcz (by omega)
        rw [← hk, ← hA] at hAs
        have hBs : B < 85070591730234615865843651857942052864 := by
          rw [hB, he, hk]; exact size_b (by omega) (by omega) hNd
        have hkb : 73 ≤ k ∧ k ≤ 126 := by omega
        have heb : -1200 ≤ e ∧ e ≤ 927 := by omega
        have LA := Lib.hid (length_b nc Nc ec false (by omega))
        have LL := Lib.hid (left_b nc Nc ec false (126 - (blen Nc : Int)) (by omega) (by rw [show (126 - (blen Nc : Int)).toNat = k by omega, ← hA]; omega) (by have := blen_pos hcz; omega) (by omega) (by omega))
        have eL : exN nc (Nc * 2 ^ (126 - (blen Nc : Int)).toNat) (ec - (126 - (blen Nc : Int))) false = exN nc A e false := by
          rw [show (126 - (blen Nc : Int)).toNat = k by omega, ← hA, show ec - (126 - (blen Nc : Int)) = e by omega]
        rw [eL] at LL
        have hw : IntKind.i64.wrap (126 - (blen Nc : Int)) = 126 - (blen Nc : Int) := IntWalk.i64_in _ (by omega)
        have BL : e < ed → Bl 77 #[exN nd Nd ed false, .int .i64 (ed - e)] (exN nd B e m) := by
          intro h
          have hB' : B = Nd * 2^(ed - e).toNat := by rw [hB]; unfold bAt; rw [if_pos h]
          have hm' : m = false := by rw [hm]; unfold bMore; rw [if_pos h]
          have hn : ed - e ≤ 127 := by
            have := blen_pos hz; omega
          have := left_b nd Nd ed false (ed - e) (by omega) (by rw [← hB']; omega) hn (by omega) (by omega)
          rw [← hB', show ed - (ed - e) = e by omega] at this
          rw [hm']; exact this
        have BR : ¬ e < ed → Bl 91 #[exN nd Nd ed false, .int .i64 (e - ed)] (exN nd B e m) := by
          intro h
          have hB' : B = Nd / 2^(e - ed).toNat := by rw [hB]; unfold bAt; rw [if_neg h]
          have hm' : m = decide (Nd % 2^(e - ed).toNat ≠ 0) := by rw [hm]; unfold bMore; rw [if_neg h]
          have := right_b nd Nd ed false (e - ed) (by omega) (by omega) (by omega) (by omega) (by omega)
          rw [← hB', show ed + (e - ed) = e by omega, Bool.false_or, ← hm'] at this
          exact this
        have BL' := Lib.hid BL; have BR' := Lib.hid BR
        clear Z hr hcz hle hk hA he hB hm eL BL BR
        obtain ⟨hA1, hA2⟩ := hAs
        obtain ⟨k1, k2⟩ := hkb
        obtain ⟨e1, e2⟩ := heb
        go_wp2_with fail
        refine ((Z'.out).at _).mono ?_
        rintro _ _ ⟨rfl, X1, rfl⟩
        rw [World.over_over]
        generalize X.and X1 = X
        go_upto_region 5 with fail
        go_cut [] (fun wx => ∃ X, wx = (((w.alloc (exO nc A e false)).alloc (exO nd Nd ed false)).alloc (exO false 0 0 false)).over X)
        case first => as_aux_lemma =>
          clear BL' BR'
          go_region_with (first | ((with_reducible refine ((LA.out).at _).mono ?_); rintro _ _ ⟨rfl, X, rfl⟩) | ((with_reducible refine ((LL.out).at _).mono ?_); rintro _ _ ⟨rfl, X, rfl⟩))
          all_goals (go_wp2_with fail; go_meet; refine ⟨_, rfl⟩)
        case rest => as_aux_lemma =>
          obtain ⟨X, rfl⟩ := hcut
          clear hw LA LL Z' hNc hlc hld
          go_upto_if 41 with fail
          go_cut [] (fun wx => ∃ X, wx = (((w.alloc (exO nc A e false)).alloc (exO nd B e m)).alloc (exO false 0 0 false)).over X)
          case first => as_aux_lemma =>
            by_cases hgt : e < ed
            · have BL := Lib.hid (BL'.out hgt)
              clear BL' BR'
              go_wp2_with fail
              refine ((BL.out).at _).mono ?_
              rintro _ _ ⟨rfl, X1, rfl⟩
              go_wp2_with fail
              go_meet
              exact ⟨_, rfl⟩
            · have BR := Lib.hid (BR'.out (by omega))
              have hgt' : ed ≤ e := by omega
              clear BL' BR'
              go_wp2_with fail
              refine ((BR.out).at _).mono ?_
              rintro _ _ ⟨rfl, X1, rfl⟩
              go_wp2_with fail
              go_meet
              exact ⟨_, rfl⟩
          case rest => as_aux_lemma =>
            obtain ⟨X, rfl⟩ := hcut
            clear BL' BR' c1 c2 d1 d2 hNd
            by_cases hsg : nc = nd
            · subst hsg
              obtain ⟨l, hl⟩ : ∃ l : Int, l = (loW A + loW B + 0) % 18446744073709551616 := ⟨_, rfl⟩
              obtain ⟨c, hc⟩ : ∃ c : Int, c = (loW A + loW B + 0) / 18446744073709551616 := ⟨_, rfl⟩
              obtain ⟨h, hh⟩ : ∃ h : Int, h = (hiW A + hiW B + c) % 18446744073709551616 := ⟨_, rfl⟩
              have R1 := fun W => call_add64' (loW A) (loW B) 0 (loW_nonneg A) (loW_nonneg B) (by omega) (by omega) W
              have hcb : 0 ≤ c ∧ c ≤ 1 := by
                have a1 := loW_nonneg A; have a2 := loW_lt A; have b1 := loW_nonneg B; have b2 := loW_lt B
                omega
              have R2 := fun W => call_add64' (hiW A) (hiW B) c (hiW_nonneg A) (hiW_nonneg B) hcb.1 hcb.2 W
              rw [← hl, ← hc] at R1
              rw [← hh] at R2
              have HP := Lib.hid (add_pure hA1 hBs hl hc hh)
              generalize (hiW A + hiW B + c) / 18446744073709551616 = c' at R2
              clear hl hc hh hcb hA1 hA2 hBs
              have hself : (nc == nc) = true := by simp
              go_wp2_with fail
              refine bodyPost_ret (v := _) (by simp [results, Try.results73, go_sem]; rfl) rfl ⟨?_, ?_⟩
              · obtain ⟨p1, p2, p3⟩ := HP.out
                rw [HR.out]
                refine ret_val (exN_mk' ?_ p2 p3 ?_ rfl rfl)
                · unfold sumN; rw [if_pos rfl]
                · unfold sumN; rw [if_pos rfl]; exact p1
              · repeat (first | exact Below.refl _ _ | refine Below.drew ?_ | refine below_drewN ?_ _ | refine Below.over ?_ (by simp <;> omega) _ | refine Below.alloc ?_ (by simp <;> omega) _ | refine Below.setCell ?_ (by simp <;> omega) _ | refine Below.alloc ?_ (by simp) _ | refine Below.setCell ?_ (by simp) _ | refine Below.over ?_ (by simp) _)
            · have hself : (nc == nd) = false := by simpa using hsg
              have hsn : sumN nc A nd B m = if A < B + m.toNat then (!nc, B + m.toNat - A) else (nc, A - (B + m.toNat)) := by
                unfold sumN; rw [if_neg hsg]
              obtain ⟨k0, hk0⟩ : ∃ k0 : Nat, k0 = m.toNat := ⟨_, rfl⟩
              have hk1 : k0 ≤ 1 := by rw [hk0]; exact Bool.toNat_le m
              rw [← hk0] at hsn
              obtain ⟨l, hl⟩ : ∃ l : Int, l = (loW A - loW B - k0) % 18446744073709551616 := ⟨_, rfl⟩
              obtain ⟨c, hc⟩ : ∃ c : Int, c = if loW A < loW B + k0 then 1 else 0 := ⟨_, rfl⟩
              obtain ⟨h, hh⟩ : ∃ h : Int, h = (hiW A - hiW B - c) % 18446744073709551616 := ⟨_, rfl⟩
              obtain ⟨d, hd⟩ : ∃ d : Int, d = if hiW A < hiW B + c then 1 else 0 := ⟨_, rfl⟩
              have hcb : 0 ≤ c ∧ c ≤ 1 := by rw [hc]; split <;> omega
              have R1 := fun W => call_sub64' (loW A) (loW B) k0 (loW_nonneg A) (loW_nonneg B) (loW_lt B) (by omega) (by omega) W
              have R2 := fun W => call_sub64' (hiW A) (hiW B) c (hiW_nonneg A) (hiW_nonneg B) (hiW_lt (by omega)) hcb.1 hcb.2 W
              rw [← hl, ← hc] at R1
              rw [← hh, ← hd] at R2
              obtain ⟨q1, q2, q3, q4, q5, q6⟩ := sub_pure hA1 hBs hk1 hl hc hh hd
              have hm0 : m = decide (k0 = 1) := by rw [hk0]; cases m <;> rfl
              have HM0 := Lib.hid hm0
              clear hl hc hh hd hcb hA2 hm0 hsg
              by_cases hlt : A < B + k0
              · obtain ⟨hd, q7⟩ := q6 hlt
                subst hd
                rw [if_pos hlt] at hsn
                have HSN := Lib.hid hsn
                have hp : 0 < h * 18446744073709551616 + l := by omega
                obtain ⟨l2, hl2⟩ : ∃ l2 : Int, l2 = (0 - l - 0) % 18446744073709551616 := ⟨_, rfl⟩
                obtain ⟨c2, hc2⟩ : ∃ c2 : Int, c2 = if 0 < l + 0 then 1 else 0 := ⟨_, rfl⟩
                obtain ⟨h2, hh2⟩ : ∃ h2 : Int, h2 = (0 - h - c2) % 18446744073709551616 := ⟨_, rfl⟩
                have hcb : 0 ≤ c2 ∧ c2 ≤ 1 := by rw [hc2]; split <;> omega
                have R3 := fun W => call_sub64' 0 l 0 (by omega) q1 q2 (by omega) (by omega) W
                have R4 := fun W => call_sub64' 0 h c2 (by omega) q3 q4 hcb.1 hcb.2 W
                rw [← hl2, ← hc2] at R3
                rw [← hh2] at R4
                generalize (if 0 < h + c2 then (1 : Int) else 0) = c' at R4
                obtain ⟨r1, r2, r3⟩ := neg_pure ⟨q1, q2⟩ ⟨q3, q4⟩ hp hl2 hc2 hh2
                have Q := Lib.hid (And.intro r1 (And.intro r2 (q7.trans r3)))
                clear hl2 hc2 hh2 hcb hsn hlt hp q1 q2 q3 q4 q5 q6 q7 r1 r2 r3 hA1 hBs
                rcases (by omega : k0 = 0 ∨ k0 = 1) with rfl | rfl
                · have hm1 : m = false := HM0.out
                  subst hm1
                  clear HM0 hk0 hk1
                  simp only [Int.natCast_zero] at R1
                  go_wp2_with fail
                  refine bodyPost_ret (v := _) (by simp [results, Try.results73, go_sem]; rfl) rfl ⟨?_, ?_⟩
                  · rw [HR.out, HSN.out]
                    exact ret_val (exN_mk' rfl Q.out.1 Q.out.2.1 Q.out.2.2 rfl rfl)
                  · repeat (first | exact Below.refl _ _ | refine Below.drew ?_ | refine below_drewN ?_ _ | refine Below.over ?_ (by simp <;> omega) _ | refine Below.alloc ?_ (by simp <;> omega) _ | refine Below.setCell ?_ (by simp <;> omega) _ | refine Below.alloc ?_ (by simp) _ | refine Below.setCell ?_ (by simp) _ | refine Below.over ?_ (by simp) _)
                · have hm1 : m = true := HM0.out
                  subst hm1
                  clear HM0 hk0 hk1
                  simp only [Int.natCast_one] at R1
                  go_wp2_with fail
                  refine bodyPost_ret (v := _) (by simp [results, Try.results73, go_sem]; rfl) rfl ⟨?_, ?_⟩
                  · rw [HR.out, HSN.out]
                    exact ret_val (exN_mk' rfl Q.out.1 Q.out.2.1 Q.out.2.2 rfl rfl)
                  · repeat (first | exact Below.refl _ _ | refine Below.drew ?_ | refine below_drewN ?_ _ | refine Below.over ?_ (by simp <;> omega) _ | refine Below.alloc ?_ (by simp <;> omega) _ | refine Below.setCell ?_ (by simp <;> omega) _ | refine Below.alloc ?_ (by simp) _ | refine Below.setCell ?_ (by simp) _ | refine Below.over ?_ (by simp) _)
              · obtain ⟨hd, q7⟩ := q5 hlt
                subst hd
                rw [if_neg hlt] at hsn
                have HSN := Lib.hid hsn
                have Q := Lib.hid (And.intro q1 (And.intro q2 q7))
                clear hsn hlt q1 q2 q3 q4 q5 q6 q7 hA1 hBs
                rcases (by omega : k0 = 0 ∨ k0 = 1) with rfl | rfl
                · have hm1 : m = false := HM0.out
                  subst hm1
                  clear HM0 hk0 hk1
                  simp only [Int.natCast_zero] at R1
                  go_wp2_with fail
                  refine bodyPost_ret (v := _) (by simp [results, Try.results73, go_sem]; rfl) rfl ⟨?_, ?_⟩
                  · rw [HR.out, HSN.out]
                    exact ret_val (exN_mk' rfl Q.out.1 Q.out.2.1 Q.out.2.2 rfl rfl)
                  · repeat (first | exact Below.refl _ _ | refine Below.drew ?_ | refine below_drewN ?_ _ | refine Below.over ?_ (by simp <;> omega) _ | refine Below.alloc ?_ (by simp <;> omega) _ | refine Below.setCell ?_ (by simp <;> omega) _ | refine Below.alloc ?_ (by simp) _ | refine Below.setCell ?_ (by simp) _ | refine Below.over ?_ (by simp) _)
                · have hm1 : m = true := HM0.out
                  subst hm1
                  clear HM0 hk0 hk1
                  simp only [Int.natCast_one] at R1
                  go_wp2_with fail
                  refine bodyPost_ret (v := _) (by simp [results, Try.results73, go_sem]; rfl) rfl ⟨?_, ?_⟩
                  · rw [HR.out, HSN.out]
                    exact ret_val (exN_mk' rfl Q.out.1 Q.out.2.1 Q.out.2.2 rfl rfl)
                  · repeat (first | exact Below.refl _ _ | refine Below.drew ?_ | refine below_drewN ?_ _ | refine Below.over ?_ (by simp <;> omega) _ | refine Below.alloc ?_ (by simp <;> omega) _ | refine Below.setCell ?_ (by simp <;> omega) _ | refine Below.alloc ?_ (by simp) _ | refine Below.setCell ?_ (by simp) _ | refine Below.over ?_ (by simp) _)
end Go.Proofs.Ytknijppdnfcknaa
