/- The walks of the document's answer for layer 1: a word, rounded. -/
import Derived.Test.YtknijppdnfcknaaRc
namespace Go.Proofs.Ytknijppdnfcknaa
open Go.RowKit FF

theorem V_pw (e : Int) (h1 : -1074 ≤ e) (h2 : e ≤ 1023) : V (pw e) = 2 ^ (e + 1074).toNat ∧ pw e < 9218868437227405312 := by
  unfold pw
  by_cases h : -1022 ≤ e
  · rw [if_pos h]
    obtain ⟨k, hk⟩ : ∃ k : Nat, (e + 1022) = k := ⟨(e + 1022).toNat, by omega⟩
    have e1 : (e + 1023).toNat * 4503599627370496 = k * 2^52 + 2^52 := by omega
    rw [e1, V_mk k (2^52) (by omega) (.inr (by omega)), ← Nat.pow_add]
    exact ⟨by congr 1; omega, by omega⟩
  · rw [if_neg h]
    obtain ⟨k, hk⟩ : ∃ k : Nat, (e + 1074).toNat = k := ⟨_, rfl⟩
    rw [hk]
    have : (2 : Nat)^k < 2^52 := Nat.pow_lt_pow_right (by omega) (by omega)
    have hv := V_mk 0 (2^k) (by omega) (.inl rfl)
    rw [Nat.zero_mul, Nat.zero_add, Nat.pow_zero, Nat.mul_one] at hv
    exact ⟨hv, by omega⟩
/-- a whole number up to 2^53 as a float: its value -/
theorem whole_V {m : Nat} (h0 : 0 < m) (h : m ≤ 2^53) : V (floatOfInt .f64 (m : Int)) = m * U ∧ floatOfInt .f64 (m : Int) < 9218868437227405312 := by
  obtain ⟨L, μ, hL, h1, h2, hμ⟩ := whole_form h0 h
  have hx : floatOfInt .f64 (m : Int) = (L + 1022) * 2^52 + μ := by
    have := whole_nearest hL h1 h2 hμ false
    show Ieee.double.nearest (decide ((m : Int) < 0)) (m : Int).natAbs 0 = _
    rw [show decide ((m : Int) < 0) = false by simp, Int.natAbs_natCast, this, word_eq]; rfl
  rw [hx]
  constructor
  · rw [V_mk _ _ (by omega) (.inr h1)]
    obtain ⟨k, hk⟩ : ∃ k, k = 1074 := ⟨_, rfl⟩
    rw [U_eq k hk]
    refine Nat.eq_of_mul_eq_mul_right (Nat.two_pow_pos 52) ?_
    rw [Nat.mul_right_comm m, hμ, Nat.mul_assoc, Nat.mul_assoc, ← Nat.pow_add, ← Nat.pow_add]
    congr 2; omega
  · omega
/-- m times 2^E, where it is not too great -/
theorem near_mul {m : Nat} {E : Int} (h0 : 0 < m) (h : m ≤ 2^53) (e1 : -1074 ≤ E) (e2 : E ≤ 1023) (ht : (blen m : Int) - 1 + E ≤ 1023) :
    floatBits .mul .f64 (floatOfInt .f64 (m : Int)) (pw E) = some (ldW m E) ∧ ldW m E < 9218868437227405312 := by
  obtain ⟨v1, v2⟩ := whole_V h0 h
  obtain ⟨p1, p2⟩ := V_pw E e1 e2
  have hv := V_flr_whole (j := (E + 1074).toNat) h
  have hlt : flr (m * 2 ^ (E + 1074).toNat) < 9218868437227405312 := by
    rcases Nat.lt_or_ge (flr (m * 2 ^ (E + 1074).toNat)) 9218868437227405312 with h' | h'
    · exact h'
    · exfalso
      have h' := le_flr.1 h'
      rw [V_inf] at h'
      obtain ⟨k, hk⟩ : ∃ k, k = 2046 := ⟨_, rfl⟩
      rw [top_eq k hk, ← Nat.pow_add] at h'
      have hb := Nat.mul_lt_mul_of_pos_right (blen_lt m) (Nat.two_pow_pos (E + 1074).toNat)
      rw [← Nat.pow_add] at hb
      have := (Nat.pow_lt_pow_iff_right (by omega : 1 < 2)).1 (Nat.lt_of_le_of_lt h' hb)
      omega
  have hl : ldW m E = flr (m * 2 ^ (E + 1074).toNat) := by unfold ldW; rw [Nat.min_eq_left (by omega)]
  rw [hl]
  refine ⟨?_, hlt⟩
  generalize floatOfInt .f64 (m : Int) = x at *
  generalize pw E = y at *
  generalize hr : flr (m * 2 ^ (E + 1074).toNat) = r at *
  have rx : rg x = x := Nat.mod_eq_of_lt (by omega)
  have ry : rg y = y := Nat.mod_eq_of_lt (by omega)
  have nx : ng x = false := by have := ng_rg x; rw [rx] at this; exact this
  have ny : ng y = false := by have := ng_rg y; rw [ry] at this; exact this
  have hm : V (rg x) * V (rg y) = V r * U := by rw [rx, ry, v1, p1, hv]; exact Nat.mul_right_comm _ _ _
  have := mul_exact (x := x) (y := y) (r := r) (by unfold fin; omega) (by unfold fin; omega) hm (Nat.le_of_lt hlt)
  rw [floatBits_mul, this, nx, ny, word_eq]; rfl
/-- too great -/
theorem near_top {m : Nat} {E : Int} (h0 : 0 < m) (ht : 1023 < (blen m : Int) - 1 + E) (e1 : -1074 ≤ E) : ldW m E = 9218868437227405312 := by
  unfold ldW
  refine Nat.min_eq_right ?_
  rw [le_flr, V_inf]
  obtain ⟨k, hk⟩ : ∃ k, k = 2046 := ⟨_, rfl⟩
  rw [top_eq k hk, ← Nat.pow_add]
  have hb := Nat.mul_le_mul_right (2 ^ (E + 1074).toNat) (blen_le (x := m) (by omega))
  have := blen_pos (x := m) (by omega)
  refine Nat.le_trans ?_ hb
  rw [← Nat.pow_add]
  exact Nat.pow_le_pow_right (by omega) (by omega)
/-- the size of what 'Near' gives -/
def nearW (N : Nat) (e : Int) (more grow : Bool) : Nat :=
  let n := max ((blen N : Int) - 53) (-1074 - e)
  let f := ldW (N / 2^n.toNat + ((more || decide (N % 2^n.toNat ≠ 0)) && grow).toNat) (e + n.toNat)
  if rg f = 9218868437227405312 ∧ grow = false then 9218868437227405311 else f
set_option maxRecDepth 100000 in
set_option maxHeartbeats 2000000 in
theorem near_b (N : Nat) (e : Int) (more grow : Bool) (hN : N < 340282366920938463463374607431768211456) (e1 : -10000 ≤ e) (e2 : e ≤ 10000) (hc : blen N ≤ 53 → e ≤ 971) :
    Bl 98 #[woN N e more, .bool grow] (.float .f64 (nearW N e more grow)) := by
  intro w
  have hb : blen N ≤ 128 := blen_le_of_lt (n := 128) hN
  obtain ⟨n, hn⟩ : ∃ n : Int, n = max ((blen N : Int) - 53) (-1074 - e) := ⟨_, rfl⟩
  obtain ⟨M, hM⟩ : ∃ M, M = N / 2^n.toNat := ⟨_, rfl⟩
  obtain ⟨mo, hmo⟩ : ∃ mo : Bool, mo = (more || decide (N % 2^n.toNat ≠ 0)) := ⟨_, rfl⟩
  obtain ⟨E, hE⟩ : ∃ E : Int, E = e + n.toNat := ⟨_, rfl⟩
  have hn2 : n < 9000 := by omega
  have LB := Lib.hid (rlen_b N e more hN)
  have DB := Lib.hid (down_b N e more n hN (by omega) (by omega) (by omega))
  rw [← hM, ← hmo, ← hE] at DB
  have hsz : M < 9007199254740992 := by
    by_cases h : 0 ≤ n
    · rw [hM]; exact down_size N n h (by omega)
    · rw [hM, show n.toNat = 0 by omega, Nat.pow_zero, Nat.div_one]
      have := Nat.lt_of_lt_of_le (blen_lt N) (Nat.pow_le_pow_right (by omega) (by omega : blen N ≤ 53)); omega
  have hE1 : -1074 ≤ E := by omega
  have hE2 : E ≤ 20000 := by omega
  have hE3 : M < 4503599627370496 → E ≤ 971 := by
    intro h
    by_cases h0 : 0 < n
    · by_cases h1 : n = -1074 - e
      · omega
      · exfalso
        have hbn : (blen N : Int) - 53 = n := by omega
        have hN0 : N ≠ 0 := by intro h0; rw [h0, blen_zero] at hbn; omega
        have := blen_le hN0
        have hq : 2^52 ≤ M := by
          rw [hM, Nat.le_div_iff_mul_le (Nat.two_pow_pos _), ← Nat.pow_add, show 52 + n.toNat = blen N - 1 by omega]; exact this
        omega
    · have := hc (by omega); omega
  have hres : nearW N e more grow = if rg (ldW (M + (mo && grow).toNat) E) = 9218868437227405312 ∧ grow = false then 9218868437227405311 else ldW (M + (mo && grow).toNat) E := by
    unfold nearW; simp only [← hn, ← hM, ← hmo, ← hE]
  obtain ⟨g, hg⟩ : ∃ g, g = nearW N e more grow := ⟨_, rfl⟩
  rw [← hg]
  rw [hres] at hg
  obtain ⟨k, hk⟩ : ∃ k : Nat, k = M + (mo && grow).toNat := ⟨_, rfl⟩
  rw [← hk] at hg
  have HG := Lib.hid hg
  have hk1 : k ≤ 9007199254740992 := by have := Bool.toNat_le (mo && grow); omega
  have hkM : k < 4503599627370496 → E ≤ 971 := fun h => hE3 (by omega)
  have hlo := loW_small (N := M) (by omega)
  have HN := Lib.hid hn
  have HK := Lib.hid hk
  have HL := Lib.hid hlo
  have HKM := Lib.hid hkM
  have hkl : hiW k = 0 ∧ loW k = (k : Int) := by unfold hiW loW; omega
  have LK := Lib.hid (rlen_b k 0 false (by omega))
  rw [woN, hkl.1, hkl.2] at LK
  have hkb : blen k ≤ 54 := blen_le_of_lt (n := 54) (by omega)
  have hs1 : IntKind.i64.wrap ((blen k : Int) - 1) = (blen k : Int) - 1 := IntWalk.i64_in _ (by omega)
  have hs2 : IntKind.i64.wrap ((blen k : Int) - 1 + E) = (blen k : Int) - 1 + E := IntWalk.i64_in _ (by omega)
  have HS := Lib.hid (And.intro hs1 hs2)
  clear hkl hs1 hs2
  clear hn hM hmo hE hE3 hres hk hkM hlo hc hg
  go_enter Try.func98, Try.ntmps98
  go_upto_if 15 with ((with_reducible refine ((LB.out).at _).mono ?_); rintro _ _ ⟨rfl, X, rfl⟩)
  go_cut [5] (fun s5 wx => s5 = .int .i64 n ∧ ∃ X, wx = (w.alloc (woO N e more)).over X)
  case first => as_aux_lemma =>
    by_cases hg : (blen N : Int) - 53 < -1074 - e
    · go_wp2_with fail
      go_meet
      exact ⟨by rw [HN.out, Int.max_eq_right (by omega)], _, rfl⟩
    · have hg' : -1074 - e ≤ (blen N : Int) - 53 := by omega
      go_wp2_with fail
      go_meet
      exact ⟨by rw [HN.out, Int.max_eq_left (by omega)], _, rfl⟩
  case rest => as_aux_lemma =>
    obtain ⟨rfl, X, rfl⟩ := hcut
    clear LB
    go_wp2_with fail
    refine ((DB.out).at _).mono ?_
    rintro _ _ ⟨rfl, X1, rfl⟩
    have hlo := HL.out
    go_upto_region 6 with fail
    go_cut [28] (fun s28 wx => s28 = .bool (mo && grow) ∧ ∃ X, wx = (w.alloc (.cells #[.int .u64 (hiW M), .int .u64 (M : Int), .int .i64 E, .bool mo] 129)).over X)
    case first => as_aux_lemma =>
      cases mo
      all_goals (go_wp2_with fail; go_meet; exact ⟨by simp, _, rfl⟩)
    case rest => as_aux_lemma =>
      obtain ⟨rfl, X2, rfl⟩ := hcut
      go_upto_if 28 with fail
      go_cut [6] (fun s6 wx => s6 = .int .u64 (k : Int) ∧ ∃ X, wx = (w.alloc (.cells #[.int .u64 (hiW M), .int .u64 (M : Int), .int .i64 E, .bool mo] 129)).over X)
      case first => as_aux_lemma =>
        cases hg : (mo && grow)
        · go_wp2_with fail
          go_meet
          rw [HK.out, hg]
          exact ⟨rfl, _, rfl⟩
        · go_wp2_with fail
          go_meet
          rw [HK.out, hg]
          exact ⟨rfl, _, rfl⟩
      case rest => as_aux_lemma =>
        obtain ⟨rfl, X3, rfl⟩ := hcut
        clear HN HL DB
        by_cases hk0 : k = 0
        · subst hk0
          have hz : g = 0 := by
            rw [HG.out, ldW_zero]; simp; intro h; exact absurd h (by decide)
          subst hz
          clear LK HS HKM HK HG
          go_wp2_with fail
          refine bodyPost_ret (v := _) (by simp [results, Try.results98, go_sem] <;> rfl) rfl ⟨rfl, ?_⟩
          · repeat (first | exact Below.refl _ _ | refine Below.drew ?_ | refine below_drewN ?_ _ | refine Below.over ?_ (by simp <;> omega) _ | refine Below.alloc ?_ (by simp <;> omega) _ | refine Below.setCell ?_ (by simp <;> omega) _ | refine Below.alloc ?_ (by simp) _ | refine Below.setCell ?_ (by simp) _ | refine Below.over ?_ (by simp) _)
        · have hkz : ((k : Int) == 0) = false := by simp; exact hk0
          have hkp : 0 < k := by omega
          obtain ⟨hs1, hs2⟩ := HS.out
          go_upto_region 10 with fail
          go_cut [7] (fun s7 wx => s7 = .int .i64 ((blen k : Int) - 1 + E) ∧ ∃ X, wx = (w.alloc (.cells #[.int .u64 (hiW M), .int .u64 (M : Int), .int .i64 E, .bool mo] 129)).over X)
          case first => as_aux_lemma =>
            refine wp_region_over1 (by kernel_rfl) (by kernel_rfl) ?_
            repeat (go_big_quiet_step (first | (with_reducible exact LK.out.quiet _ _)))
            refine wpQuiet_nil ?_; intro _ hw'; obtain ⟨X, hw''⟩ := hw'; subst hw''
            go_wp2_with fail
            go_meet
            exact ⟨rfl, _, rfl⟩
          case rest => as_aux_lemma =>
            obtain ⟨rfl, X4, rfl⟩ := hcut
            clear hs1 hs2 LK HS
            by_cases ht : 1023 < (blen k : Int) - 1 + E
            · have hl := near_top hkp ht hE1
              have hr : rg 9218868437227405312 = 9218868437227405312 := by decide
              cases grow
              · have HZ : g = 9218868437227405311 := by rw [HG.out, hl, if_pos ⟨hr, rfl⟩]
                subst HZ
                clear hl hr HG
                go_wp2_with ((with_reducible refine (rmost_q.at _).mono ?_); rintro _ _ ⟨rfl, rfl⟩)
                refine bodyPost_ret (v := _) (by simp [results, Try.results98, go_sem] <;> rfl) rfl ⟨rfl, ?_⟩
                · repeat (first | exact Below.refl _ _ | refine Below.drew ?_ | refine below_drewN ?_ _ | refine Below.over ?_ (by simp <;> omega) _ | refine Below.alloc ?_ (by simp <;> omega) _ | refine Below.setCell ?_ (by simp <;> omega) _ | refine Below.alloc ?_ (by simp) _ | refine Below.setCell ?_ (by simp) _ | refine Below.over ?_ (by simp) _)
              · have HZ : g = 9218868437227405312 := by rw [HG.out, hl, if_neg (fun h => by cases h.2)]
                subst HZ
                clear hl hr HG
                go_wp2_with ((with_reducible refine (rinf_q.at _).mono ?_); rintro _ _ ⟨rfl, rfl⟩)
                refine bodyPost_ret (v := _) (by simp [results, Try.results98, go_sem] <;> rfl) rfl ⟨rfl, ?_⟩
                · repeat (first | exact Below.refl _ _ | refine Below.drew ?_ | refine below_drewN ?_ _ | refine Below.over ?_ (by simp <;> omega) _ | refine Below.alloc ?_ (by simp <;> omega) _ | refine Below.setCell ?_ (by simp <;> omega) _ | refine Below.alloc ?_ (by simp) _ | refine Below.setCell ?_ (by simp) _ | refine Below.over ?_ (by simp) _)
            · have hE9 : E ≤ 971 := by
                by_cases h : k < 4503599627370496
                · exact HKM.out h
                · have : 52 < blen k := by
                    rcases Nat.lt_or_ge 52 (blen k) with h' | h'
                    · exact h'
                    · exfalso
                      have := Nat.lt_of_lt_of_le (blen_lt k) (Nat.pow_le_pow_right (by omega) h'); omega
                  omega
              have ht' : (blen k : Int) - 1 + E ≤ 1023 := by omega
              obtain ⟨hm, hlt⟩ := near_mul hkp (by omega) hE1 (by omega) ht'
              have HZ : g = ldW k E := by
                rw [HG.out, if_neg]
                rintro ⟨h1, _⟩
                have : rg (ldW k E) = ldW k E := Nat.mod_eq_of_lt (by omega)
                omega
              rw [← HZ] at hm
              clear HG HZ hlt
              have PQ := Lib.hid (power_q E hE1 (by omega))
              have hk := fun W => run_float_arith (P := Try.prog) W .mul 35 .f64 _ _ _ hm
              generalize pw E = pE at *
              clear hm ht HKM HK
              go_wp2_with ((with_reducible refine (PQ.out.at _).mono ?_); rintro _ _ ⟨rfl, rfl⟩)
              refine bodyPost_ret (v := _) (by simp [results, Try.results98, go_sem] <;> rfl) rfl ⟨rfl, ?_⟩
              · repeat (first | exact Below.refl _ _ | refine Below.drew ?_ | refine below_drewN ?_ _ | refine Below.over ?_ (by simp <;> omega) _ | refine Below.alloc ?_ (by simp <;> omega) _ | refine Below.setCell ?_ (by simp <;> omega) _ | refine Below.alloc ?_ (by simp) _ | refine Below.setCell ?_ (by simp) _ | refine Below.over ?_ (by simp) _)
end Go.Proofs.Ytknijppdnfcknaa
