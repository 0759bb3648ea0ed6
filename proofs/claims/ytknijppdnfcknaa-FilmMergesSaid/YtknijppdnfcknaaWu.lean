/- The walks of layer 1 (round), fourth part: a word, rounded to a float. -/
import Derived.Test.YtknijppdnfcknaaWt
import Derived.Deep.RegionWith
import Derived.Deep.RegionHeld3
import Derived.Deep.DeepCutAuto
namespace Go.Proofs.Ytknijppdnfcknaa
open Go.RowKit FF

theorem down_size (N : Nat) (n : Int) (h0 : 0 ≤ n) (h1 : (blen N : Int) - 53 ≤ n) : N / 2^n.toNat < 9007199254740992 := by
  have hp := Nat.two_pow_pos n.toNat
  rw [Nat.div_lt_iff_lt_mul hp, show (9007199254740992 : Nat) = 2^53 by decide, ← Nat.pow_add]
  exact Nat.lt_of_lt_of_le (blen_lt N) (Nat.pow_le_pow_right (by omega) (by omega))
theorem loW_small {N : Nat} (h : N < 18446744073709551616) : loW N = (N : Int) := by unfold loW; omega
/-- a float's sign turned -/
@[go_sem] theorem run_neg_float (P : Program) (x : Nat) (w : World) : (Op.unary UnOp.neg (Value.float .f64 x)).run P w = .ok (.float .f64 (Op.negFloat .f64 x)) w := rfl
theorem negFloat_eq (x : Nat) (h : x < 9223372036854775808) : Op.negFloat .f64 x = 9223372036854775808 + x := by
  show x ^^^ 2 ^ 63 = _
  have e : x ^^^ 2^63 = x ||| 2^63 := by
    apply Nat.eq_of_testBit_eq
    intro i
    rw [Nat.testBit_xor, Nat.testBit_or, Nat.testBit_two_pow]
    by_cases hi : 63 = i
    · subst hi
      have : x.testBit 63 = false := Nat.testBit_lt_two_pow h
      simp [this]
    · simp [hi]
  rw [e, Nat.or_comm, nat_join 63 (2^63) x (Nat.mod_self _) h]
/-- the end of 'to': the size m times 2^E, with its sign -/
def endW (neg grow : Bool) (m : Nat) (E : Int) : Nat :=
  let f := ldW m E
  let f := if rg f = 9218868437227405312 ∧ grow = false then 9218868437227405311 else f
  pl (if neg = true then Op.negFloat .f64 f else f)
/-- 'to': rounded down or up -/
def toW (neg : Bool) (N : Nat) (e : Int) (more down : Bool) : Nat :=
  let n := max ((blen N : Int) - 53) (-1074 - e)
  if 0 < n then endW neg (neg == down) (N / 2^n.toNat + ((more || decide (N % 2^n.toNat ≠ 0)) && (neg == down)).toNat) (e + n)
  else endW neg (neg == down) (N + (more && (neg == down)).toNat) e
set_option maxRecDepth 100000 in
set_option maxHeartbeats 2000000 in
theorem to_b (neg : Bool) (N : Nat) (e : Int) (more down : Bool) (hN : N < 340282366920938463463374607431768211456) (e1 : -10000 ≤ e) (e2 : e ≤ 10000) :
    Bl 75 #[exN neg N e more, .bool down] (.float .f64 (toW neg N e more down)) := by
  intro w
  obtain ⟨n, hn⟩ : ∃ n : Int, n = max ((blen N : Int) - 53) (-1074 - e) := ⟨_, rfl⟩
  obtain ⟨M, hM⟩ : ∃ M : Nat, M = if 0 < n then N / 2^n.toNat else N := ⟨_, rfl⟩
  obtain ⟨E, hE⟩ : ∃ E : Int, E = if 0 < n then e + n else e := ⟨_, rfl⟩
  obtain ⟨mo, hmo⟩ : ∃ mo : Bool, mo = if 0 < n then (more || decide (N % 2^n.toNat ≠ 0)) else more := ⟨_, rfl⟩
  have hb : blen N ≤ 128 := blen_le_of_lt hN
  have hs1 : IntKind.i64.wrap ((blen N : Int) - 53) = (blen N : Int) - 53 := IntWalk.i64_in _ (by omega)
  have hs2 : IntKind.i64.wrap (-1074 - e) = -1074 - e := IntWalk.i64_in _ (by omega)
  have hn2 : n < 9000 := by omega
  have hn3 : -10000 < n := by omega
  have hsz : M < 9007199254740992 := by
    by_cases h : 0 < n
    · rw [hM, if_pos h]; exact down_size N n (by omega) (by omega)
    · rw [hM, if_neg h]
      have := Nat.lt_of_lt_of_le (blen_lt N) (Nat.pow_le_pow_right (by omega) (by omega : blen N ≤ 53)); omega
  have hE1 : -1074 ≤ E := by
    by_cases h : 0 < n
    · rw [hE, if_pos h]; omega
    · rw [hE, if_neg h]; omega
  have hE2 : E ≤ 20000 := by
    by_cases h : 0 < n
    · rw [hE, if_pos h]; omega
    · rw [hE, if_neg h]; omega
  have hto : toW neg N e more down = endW neg (neg == down) (M + (mo && (neg == down)).toNat) E := by
    unfold toW
    rw [← hn]
    by_cases h : 0 < n
    · rw [hM, hE, hmo]; simp only [if_pos h]
    · rw [hM, hE, hmo]; simp only [if_neg h]
  have hlo := loW_small (N := M) (by omega)
  rw [hto]
  have H := Lib.hid hn; clear hn hto
  have HLO := Lib.hid hlo; clear hlo
  have HM := Lib.hid hM; clear hM
  have HE := Lib.hid hE; clear hE
  have HMO := Lib.hid hmo; clear hmo
  go_enter Try.func75, Try.ntmps75
  obtain ⟨gr, hgr⟩ : ∃ gr : Bool, gr = (neg == down) := ⟨_, rfl⟩
  rw [← hgr]
  have HGR := Lib.hid hgr; clear hgr
  go_upto_region 1 with fail
  go_cut [5] (fun s5 wx => s5 = .bool gr ∧ wx = w.alloc (Obj.cells #[Value.bool neg, Value.int IntKind.u64 (hiW N), Value.int IntKind.u64 (loW N), Value.int IntKind.i64 e, Value.bool more] 119))
  case first => as_aux_lemma =>
    go_wp2_with fail
    go_meet
    exact ⟨by rw [HGR.out], rfl⟩
  case rest => as_aux_lemma =>
  obtain ⟨rfl, rfl⟩ := hcut
  go_upto_region 2 with fail
  go_cut [6] (fun s6 wx => s6 = .int .i64 n ∧ ∃ X, wx = (w.alloc (Obj.cells #[Value.bool neg, Value.int IntKind.u64 (hiW N), Value.int IntKind.u64 (loW N), Value.int IntKind.i64 e, Value.bool more] 119)).over X)
  case first => as_aux_lemma =>
    go_region_with ((with_reducible refine ((length_b _ _ _ _ hN).at _).mono ?_); rintro e w' ⟨rfl, X, rfl⟩)
    all_goals (go_wp2_with fail; go_meet; exact ⟨by rw [H.out], _, rfl⟩)
  case rest => as_aux_lemma =>
    obtain ⟨rfl, X, rfl⟩ := hcut
    clear hs1 hs2
    go_upto_if 21 with fail
    go_cut [] (fun wx => ∃ X, wx = (w.alloc (Obj.cells #[Value.bool neg, Value.int IntKind.u64 (hiW M), Value.int IntKind.u64 (loW M), Value.int IntKind.i64 E, Value.bool mo] 119)).over X)
    case first => as_aux_lemma =>
      by_cases hpos : 0 < n
      · go_wp2_with fail
        refine ((right_b _ _ _ _ _ hN (by omega) (by omega) (by omega) (by omega)).at _).mono ?_
        rintro _ _ ⟨rfl, X1, rfl⟩
        go_wp2_with fail
        go_meet
        have hM := HM.out; have hE := HE.out; have hmo := HMO.out
        rw [if_pos hpos] at hM hE hmo
        rw [hM, hE, hmo]
        refine ⟨X.and X1, ?_⟩
        simp
      · have h' : n ≤ 0 := by omega
        go_wp2_with fail
        go_meet
        have hM := HM.out; have hE := HE.out; have hmo := HMO.out
        rw [if_neg (by omega)] at hM hE hmo
        rw [hM, hE, hmo]
        exact ⟨_, rfl⟩
    case rest => as_aux_lemma =>
      obtain ⟨X, rfl⟩ := hcut
      have hlo := HLO.out
      go_upto_region 6 with fail
      go_cut [31] (fun s31 wx => s31 = .bool (mo && gr) ∧ wx = (w.alloc (Obj.cells #[Value.bool neg, Value.int IntKind.u64 (hiW M), Value.int IntKind.u64 (M : Int), Value.int IntKind.i64 E, Value.bool mo] 119)).over X)
      case first => as_aux_lemma =>
        cases mo
        all_goals (go_wp2_with fail; go_meet; exact ⟨by simp, rfl⟩)
      case rest => as_aux_lemma =>
        obtain ⟨rfl, rfl⟩ := hcut
        go_upto_if 31 with fail
        go_cut [7] (fun s7 wx => s7 = .int .u64 ((M + (mo && gr).toNat : Nat) : Int) ∧ wx = (w.alloc (Obj.cells #[Value.bool neg, Value.int IntKind.u64 (hiW M), Value.int IntKind.u64 (M : Int), Value.int IntKind.i64 E, Value.bool mo] 119)).over X)
        case first => as_aux_lemma =>
          cases hg : (mo && gr)
          · go_wp2_with fail
            go_meet
            rw [hg]
            exact ⟨rfl, rfl⟩
          · go_wp2_with fail
            go_meet
            rw [hg]
            exact ⟨rfl, rfl⟩
        case rest => as_aux_lemma =>
          obtain ⟨rfl, rfl⟩ := hcut
          obtain ⟨k, hk⟩ : ∃ k, k = M + (mo && gr).toNat := ⟨_, rfl⟩
          have hk1 : k ≤ 9007199254740992 := by have := Bool.toNat_le (mo && gr); omega
          rw [← hk]
          have HK := Lib.hid hk; clear hk
          obtain ⟨F, hF0⟩ : ∃ F, F = ldW k E := ⟨_, rfl⟩
          have hF : F ≤ 9218868437227405312 := by rw [hF0]; exact ldW_le k E
          obtain ⟨i, hi⟩ : ∃ i, i = decide (rg F = 9218868437227405312) := ⟨_, rfl⟩
          obtain ⟨G, hG⟩ : ∃ G, G = if i = true ∧ gr = false then 9218868437227405311 else F := ⟨_, rfl⟩
          have hG1 : G ≤ 9218868437227405312 := by rw [hG]; split <;> omega
          have HG := Lib.hid hG; clear hG
          have c := isInf_q F (by omega)
          rw [← hi] at c
          have CI := Lib.hid c; clear c
          have HI := Lib.hid hi; clear hi
          go_wp2_with fail
          refine ((ldexp_i _ _ (by omega) (by omega) (by omega) (by omega)).at _).mono ?_
          rintro _ _ ⟨rfl, rfl⟩
          rw [show ((k : Int)).toNat = k by omega, ← hF0]
          have HF0 := Lib.hid hF0; clear hF0
          go_upto_region 9 with fail
          go_cut [44] (fun s44 wx => s44 = .bool (i && !gr) ∧ wx = (w.alloc (Obj.cells #[Value.bool neg, Value.int IntKind.u64 (hiW M), Value.int IntKind.u64 (M : Int), Value.int IntKind.i64 E, Value.bool mo] 119)).over X)
          case first => as_aux_lemma =>
            cases i
            · go_wp2_with ((with_reducible refine ((CI.out).at _).mono ?_); rintro _ _ ⟨rfl, rfl⟩)
              go_meet
              exact ⟨rfl, rfl⟩
            · go_wp2_with ((with_reducible refine ((CI.out).at _).mono ?_); rintro _ _ ⟨rfl, rfl⟩)
              go_meet
              exact ⟨rfl, rfl⟩
          case rest => as_aux_lemma =>
            obtain ⟨rfl, rfl⟩ := hcut
            go_upto_if 44 with fail
            go_cut [8] (fun s8 wx => s8 = .float .f64 G ∧ wx = (w.alloc (Obj.cells #[Value.bool neg, Value.int IntKind.u64 (hiW M), Value.int IntKind.u64 (M : Int), Value.int IntKind.i64 E, Value.bool mo] 119)).over X)
            case first => as_aux_lemma =>
              cases hg : (i && !gr)
              · go_wp2_with fail
                go_meet
                refine ⟨?_, rfl⟩
                rw [HG.out, if_neg (by simpa using hg)]
              · go_wp2_with fail
                go_meet
                refine ⟨?_, rfl⟩
                rw [HG.out, if_pos (by simpa using hg)]
            case rest => as_aux_lemma =>
              obtain ⟨rfl, rfl⟩ := hcut
              go_upto_if 46 with fail
              go_cut [8] (fun s8 wx => s8 = .float .f64 (if neg = true then Op.negFloat .f64 G else G) ∧ wx = (w.alloc (Obj.cells #[Value.bool neg, Value.int IntKind.u64 (hiW M), Value.int IntKind.u64 (M : Int), Value.int IntKind.i64 E, Value.bool mo] 119)).over X)
              case first => as_aux_lemma =>
                cases neg
                · go_wp2_with fail
                  go_meet
                  exact ⟨rfl, rfl⟩
                · go_wp2_with fail
                  go_meet
                  exact ⟨rfl, rfl⟩
              case rest => as_aux_lemma =>
                obtain ⟨rfl, rfl⟩ := hcut
                obtain ⟨Z, hZ⟩ : ∃ Z, Z = if neg = true then Op.negFloat .f64 G else G := ⟨_, rfl⟩
                have hZ1 : Z < 18446744073709551616 ∧ nn Z := by
                  rw [hZ]
                  split
                  · rw [negFloat_eq G (by omega)]; unfold nn rg; omega
                  · unfold nn rg; omega
                rw [← hZ]
                have HZ := Lib.hid hZ; clear hZ
                have HP := Lib.hid (plain_q Z hZ1.1 hZ1.2)
                clear hZ1
                go_wp2_with ((with_reducible refine ((HP.out).at _).mono ?_); rintro _ _ ⟨rfl, rfl⟩)
                go_ret
                refine ⟨ret_float ?_, ?_⟩
                · have hk := HK.out; have hF0 := HF0.out; have hi := HI.out; have hG := HG.out; have hZ := HZ.out
                  subst hi
                  unfold endW
                  rw [← hk, ← hF0]
                  rw [hZ, hG]
                  simp only [decide_eq_true_eq]
                · repeat (first | exact Below.refl _ _ | refine Below.drew ?_ | refine below_drewN ?_ _ | refine Below.over ?_ (by simp <;> omega) _ | refine Below.alloc ?_ (by simp <;> omega) _ | refine Below.setCell ?_ (by simp <;> omega) _ | refine Below.alloc ?_ (by simp) _ | refine Below.setCell ?_ (by simp) _ | refine Below.over ?_ (by simp) _)
end Go.Proofs.Ytknijppdnfcknaa
