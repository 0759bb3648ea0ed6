/- The walks of the document's answer for layer 1: what is a number, powers, sums of words. -/
import Derived.Test.YtknijppdnfcknaaRb
namespace Go.Proofs.Ytknijppdnfcknaa
open Go.RowKit FF

theorem cut_nan (t : Nat) : ¬ nn ((t % 2) * 2 ^ 63 + 0x7ff0000000000000 + 1 + (t / 2) % (2 ^ 52 - 1)) ∧ (t % 2) * 2 ^ 63 + 0x7ff0000000000000 + 1 + (t / 2) % (2 ^ 52 - 1) < 18446744073709551616 := by
  have h1 : t % 2 < 2 := Nat.mod_lt _ (by omega)
  have h2 : (t / 2) % (2 ^ 52 - 1) < 2^52 - 1 := Nat.mod_lt _ (by omega)
  generalize t % 2 = a at *
  generalize (t / 2) % (2 ^ 52 - 1) = b at *
  unfold nn rg
  have : a = 0 ∨ a = 1 := by omega
  rcases this with rfl | rfl <;> omega
/-- an operation that has no answer: a NaN, whose bits are asked -/
theorem run_float_none {P : Program} (op : BinOp) (hop : op = .add ∨ op = .sub ∨ op = .mul ∨ op = .quo) (t : TypeId) (x y : Nat) (h : floatBits op .f64 x y = none) :
    ∃ f : World → Nat, (∀ W, (binOp op t (.float .f64 x) (.float .f64 y)).run P W = .ok (.float .f64 (f W)) W.drew) ∧ ∀ W, ¬ nn (f W) ∧ f W < 18446744073709551616 := by
  refine ⟨fun W => (Question.nanBits .f64 x y).cut (W.tape W.drawn (Question.nanBits .f64 x y)), fun W => ?_, fun W => cut_nan (W.tape W.drawn (Question.nanBits .f64 x y))⟩
  rcases hop with rfl | rfl | rfl | rfl <;> (unfold floatBits at h; simp only at h; simp [binOp, Op.floatArith, h, choose, Sem.run, Question.forced])
theorem sub_self_fin {x : Nat} (h : fin x) : floatBits .sub .f64 x x = some 0 := by
  show Ieee.double.sub x x = some 0
  obtain ⟨m, p, hr, hp, hv⟩ := read_fin h
  unfold Ieee.Format.sub
  rw [hr]
  simp only [Ieee.Datum.opposite, Ieee.Datum.sum, Option.map_some, Ieee.Format.write]
  have hs : Ieee.signed (ng x) m (p - min p p).toNat + Ieee.signed (!ng x) m (p - min p p).toNat = 0 := by
    unfold Ieee.signed; cases ng x <;> simp <;> omega
  rw [hs]
  have : (if (0 : Int) = 0 then ng x && !ng x else decide ((0 : Int) < 0)) = false := by simp
  rw [this]
  unfold Ieee.Format.nearest
  simp [word_eq]
theorem sub_self_none {x : Nat} (h : ¬ fin x) : floatBits .sub .f64 x x = none := by
  show Ieee.double.sub x x = none
  unfold Ieee.Format.sub
  by_cases hn : nn x
  · have : rg x = 9218868437227405312 := by unfold nn at hn; unfold fin at h; omega
    rw [read_inf this]
    simp only [Ieee.Datum.opposite, Ieee.Datum.sum]
    cases ng x <;> rfl
  · rw [read_nan hn]; rfl
set_option maxRecDepth 100000 in
theorem rnum_b (x : Nat) : Bl 39 #[.float .f64 x] (.bool (decide (fin x))) := by
  intro w
  by_cases h : fin x
  · have hk := fun W => run_float_arith (P := Try.prog) W .sub 35 .f64 x x 0 (sub_self_fin h)
    have he : (FloatKind.f64.format.order 0 0 == some .eq) = true := by decide
    rw [decide_eq_true h]
    clear h
    go_enter Try.func39, Try.ntmps39
    go_wp2
    refine bodyPost_ret (v := _) (by simp [results, Try.results39, go_sem] <;> rfl) rfl ⟨?_, ?_⟩
    · simp
    · repeat (first | exact Below.refl _ _ | refine Below.drew ?_ | refine below_drewN ?_ _ | refine Below.over ?_ (by simp <;> omega) _ | refine Below.alloc ?_ (by simp <;> omega) _ | refine Below.setCell ?_ (by simp <;> omega) _ | refine Below.alloc ?_ (by simp) _ | refine Below.setCell ?_ (by simp) _ | refine Below.over ?_ (by simp) _)
  · obtain ⟨f, hk, hf⟩ := run_float_none (P := Try.prog) .sub (.inr (.inl rfl)) 35 x x (sub_self_none h)
    have he : ∀ W, (FloatKind.f64.format.order (f W) 0 == some .eq) = false := fun W => by
      rw [show FloatKind.f64.format = Ieee.double from rfl, order_nan_l (hf W).1]; rfl
    rw [decide_eq_false h]
    clear h hf
    go_enter Try.func39, Try.ntmps39
    go_wp2
    refine bodyPost_ret (v := _) (by simp [results, Try.results39, go_sem] <;> rfl) rfl ⟨?_, ?_⟩
    · simp
    · repeat (first | exact Below.refl _ _ | refine Below.drew ?_ | refine below_drewN ?_ _ | refine Below.over ?_ (by simp <;> omega) _ | refine Below.alloc ?_ (by simp <;> omega) _ | refine Below.setCell ?_ (by simp <;> omega) _ | refine Below.alloc ?_ (by simp) _ | refine Below.setCell ?_ (by simp) _ | refine Below.over ?_ (by simp) _)
theorem rinf_q : Qt 63 #[] (.float .f64 9218868437227405312) := by
  intro w
  go_enter Try.func63, Try.ntmps63
  go_wp2
  go_ret
  exact ⟨rfl, rfl⟩
theorem rmost_q : Qt 101 #[] (.float .f64 9218868437227405311) := by
  intro w
  go_enter Try.func101, Try.ntmps101
  go_wp2
  go_ret
  exact ⟨rfl, rfl⟩
theorem rzero_q (x : Nat) (hn : nn x) : Qt 62 #[.float .f64 x] (.float .f64 (pl x)) := by
  intro w
  have he : (FloatKind.f64.format.order x 0 == some .eq) = decide (rg x = 0) := by
    rw [show FloatKind.f64.format = Ieee.double from rfl, eq_num hn (by decide), I_zero]
    exact decide_eq_decide.2 I_eq_zero
  by_cases h : rg x = 0
  · have e : pl x = 0 := by unfold pl; rw [if_pos h]
    rw [decide_eq_true h] at he
    rw [e]
    clear h e hn
    go_enter Try.func62, Try.ntmps62
    go_wp2
    go_ret
    exact ⟨rfl, rfl⟩
  · have e : pl x = x := by unfold pl; rw [if_neg h]
    rw [decide_eq_false h] at he
    rw [e]
    clear h e hn
    go_enter Try.func62, Try.ntmps62
    go_wp2
    go_ret
    exact ⟨rfl, rfl⟩
/-- 2 to the e -/
def pw (e : Int) : Nat := if -1022 ≤ e then (e + 1023).toNat * 4503599627370496 else 2 ^ (e + 1074).toNat
set_option maxRecDepth 100000 in
theorem power_q (e : Int) (h1 : -1074 ≤ e) (h2 : e ≤ 1023) : Qt 102 #[.int .i64 e] (.float .f64 (pw e)) := by
  intro w
  by_cases h : -1022 ≤ e
  · have hp : pw e = ((e + 1023) * 4503599627370496).toNat := by
      unfold pw; rw [if_pos h]; omega
    rw [hp]
    clear hp
    go_enter Try.func102, Try.ntmps102
    go_wp2
    go_ret
    exact ⟨rfl, rfl⟩
  · have hp : pw e = 2 ^ (e + 1074).toNat := by
      unfold pw; rw [if_neg h]
    rw [hp]
    clear hp
    go_enter Try.func102, Try.ntmps102
    go_wp2
    refine bodyPost_ret (v := _) (by simp [results, Try.results102, go_sem] <;> rfl) rfl ⟨?_, ?_⟩
    · refine ret_float ?_
      obtain ⟨k, hk⟩ : ∃ k : Nat, (e + 1074).toNat = k := ⟨_, rfl⟩
      have hk1 : k ≤ 51 := by omega
      rw [hk, wrap_u64]
      have : (2 : Nat)^k < 2^52 := Nat.pow_lt_pow_right (by omega) (by omega)
      rw [pow_cast]
      generalize 2^k = p at *
      omega
    · rfl
theorem wplus {A B : Nat} (h : A + B < 340282366920938463463374607431768211456) :
    (IntKind.u64.wrap (loW A + loW B) < loW A → ((A + B : Nat) : Int) = IntKind.u64.wrap (IntKind.u64.wrap (hiW A + hiW B) + 1) * 18446744073709551616 + IntKind.u64.wrap (loW A + loW B)) ∧
    (¬ IntKind.u64.wrap (loW A + loW B) < loW A → ((A + B : Nat) : Int) = IntKind.u64.wrap (hiW A + hiW B) * 18446744073709551616 + IntKind.u64.wrap (loW A + loW B)) ∧
    0 ≤ IntKind.u64.wrap (loW A + loW B) ∧ IntKind.u64.wrap (loW A + loW B) < 18446744073709551616 := by
  have a := W_eq A; have b := W_eq B
  have a1 := loW_nonneg A; have a2 := loW_lt A; have a3 := hiW_nonneg A
  have b1 := loW_nonneg B; have b2 := loW_lt B; have b3 := hiW_nonneg B
  simp only [wrap_u64]
  generalize hiW A = HA at *
  generalize hiW B = HB at *
  generalize loW A = LA at *
  generalize loW B = LB at *
  refine ⟨fun h1 => ?_, fun h1 => ?_, by omega, by omega⟩ <;> omega
theorem wminus {A B : Nat} (h : A < 340282366920938463463374607431768211456) (hB : B ≤ A) :
    (loW A < loW B → ((A - B : Nat) : Int) = IntKind.u64.wrap (IntKind.u64.wrap (hiW A - hiW B) - 1) * 18446744073709551616 + IntKind.u64.wrap (loW A - loW B)) ∧
    (¬ loW A < loW B → ((A - B : Nat) : Int) = IntKind.u64.wrap (hiW A - hiW B) * 18446744073709551616 + IntKind.u64.wrap (loW A - loW B)) ∧
    0 ≤ IntKind.u64.wrap (loW A - loW B) ∧ IntKind.u64.wrap (loW A - loW B) < 18446744073709551616 := by
  have a := W_eq A; have b := W_eq B
  have a1 := loW_nonneg A; have a2 := loW_lt A; have a3 := hiW_nonneg A
  have b1 := loW_nonneg B; have b2 := loW_lt B; have b3 := hiW_nonneg B
  simp only [wrap_u64]
  generalize hiW A = HA at *
  generalize hiW B = HB at *
  generalize loW A = LA at *
  generalize loW B = LB at *
  refine ⟨fun h1 => ?_, fun h1 => ?_, by omega, by omega⟩ <;> omega
theorem wbelow (A B : Nat) : decide (A < B) = (decide (hiW A < hiW B) || ((hiW A == hiW B) && decide (loW A < loW B))) := by
  have a := W_eq A; have b := W_eq B
  have a1 := loW_nonneg A; have a2 := loW_lt A
  have b1 := loW_nonneg B; have b2 := loW_lt B
  rw [Bool.eq_iff_iff]; simp
  omega
set_option maxRecDepth 100000 in
theorem plus_b (A B : Nat) (e e' : Int) (m m' : Bool) (h : A + B < 340282366920938463463374607431768211456) : Bl 86 #[woN A e m, woN B e' m'] (woN (A + B) e (m || m')) := by
  intro w
  have HP := Lib.hid (wplus h); clear h
  by_cases hc : IntKind.u64.wrap (loW A + loW B) < loW A
  · have HC := Lib.hid hc
    go_enter Try.func86, Try.ntmps86
    go_wp2
    all_goals refine bodyPost_ret (v := _) (by simp [results, Try.results86, go_sem] <;> rfl) rfl ⟨?_, ?_⟩
    all_goals first
      | (obtain ⟨p1, p2, p3, p4⟩ := HP.out
         refine ret_val (woN_mk p3 p4 (p1 HC.out) rfl ?_); clear p1 p2 p3 p4 HP; simp_all)
      | (repeat (first | exact Below.refl _ _ | refine Below.drew ?_ | refine below_drewN ?_ _ | refine Below.over ?_ (by simp <;> omega) _ | refine Below.alloc ?_ (by simp <;> omega) _ | refine Below.setCell ?_ (by simp <;> omega) _ | refine Below.alloc ?_ (by simp) _ | refine Below.setCell ?_ (by simp) _ | refine Below.over ?_ (by simp) _))
  · have HC := Lib.hid hc
    go_enter Try.func86, Try.ntmps86
    go_wp2
    all_goals refine bodyPost_ret (v := _) (by simp [results, Try.results86, go_sem] <;> rfl) rfl ⟨?_, ?_⟩
    all_goals first
      | (obtain ⟨p1, p2, p3, p4⟩ := HP.out
         refine ret_val (woN_mk p3 p4 (p2 HC.out) rfl ?_); clear p1 p2 p3 p4 HP; simp_all)
      | (repeat (first | exact Below.refl _ _ | refine Below.drew ?_ | refine below_drewN ?_ _ | refine Below.over ?_ (by simp <;> omega) _ | refine Below.alloc ?_ (by simp <;> omega) _ | refine Below.setCell ?_ (by simp <;> omega) _ | refine Below.alloc ?_ (by simp) _ | refine Below.setCell ?_ (by simp) _ | refine Below.over ?_ (by simp) _))
set_option maxRecDepth 100000 in
theorem minus_b (A B : Nat) (e e' : Int) (m m' : Bool) (h : A < 340282366920938463463374607431768211456) (hB : B ≤ A) : Bl 88 #[woN A e m, woN B e' m'] (woN (A - B) e false) := by
  intro w
  have HP := Lib.hid (wminus h hB); clear h hB
  by_cases hc : loW A < loW B
  · have HC := Lib.hid hc
    go_enter Try.func88, Try.ntmps88
    go_wp2
    all_goals refine bodyPost_ret (v := _) (by simp [results, Try.results88, go_sem] <;> rfl) rfl ⟨?_, ?_⟩
    all_goals first
      | (obtain ⟨p1, p2, p3, p4⟩ := HP.out
         refine ret_val (woN_mk p3 p4 (p1 HC.out) rfl ?_); clear p1 p2 p3 p4 HP; rfl)
      | (repeat (first | exact Below.refl _ _ | refine Below.drew ?_ | refine below_drewN ?_ _ | refine Below.over ?_ (by simp <;> omega) _ | refine Below.alloc ?_ (by simp <;> omega) _ | refine Below.setCell ?_ (by simp <;> omega) _ | refine Below.alloc ?_ (by simp) _ | refine Below.setCell ?_ (by simp) _ | refine Below.over ?_ (by simp) _))
  · have HC := Lib.hid hc
    go_enter Try.func88, Try.ntmps88
    go_wp2
    all_goals refine bodyPost_ret (v := _) (by simp [results, Try.results88, go_sem] <;> rfl) rfl ⟨?_, ?_⟩
    all_goals first
      | (obtain ⟨p1, p2, p3, p4⟩ := HP.out
         refine ret_val (woN_mk p3 p4 (p2 HC.out) rfl ?_); clear p1 p2 p3 p4 HP; rfl)
      | (repeat (first | exact Below.refl _ _ | refine Below.drew ?_ | refine below_drewN ?_ _ | refine Below.over ?_ (by simp <;> omega) _ | refine Below.alloc ?_ (by simp <;> omega) _ | refine Below.setCell ?_ (by simp <;> omega) _ | refine Below.alloc ?_ (by simp) _ | refine Below.setCell ?_ (by simp) _ | refine Below.over ?_ (by simp) _))
set_option maxRecDepth 100000 in
theorem below_b (A B : Nat) (e e' : Int) (m m' : Bool) : Bl 87 #[woN A e m, woN B e' m'] (.bool (decide (A < B))) := by
  intro w
  have HP := Lib.hid (wbelow A B)
  go_enter Try.func87, Try.ntmps87
  go_wp2
  all_goals refine bodyPost_ret (v := _) (by simp [results, Try.results87, go_sem] <;> rfl) rfl ⟨?_, ?_⟩
  all_goals first
    | (refine ret_bool ?_; rw [HP.out]; simp_all; done)
    | (repeat (first | exact Below.refl _ _ | refine Below.drew ?_ | refine below_drewN ?_ _ | refine Below.over ?_ (by simp <;> omega) _ | refine Below.alloc ?_ (by simp <;> omega) _ | refine Below.setCell ?_ (by simp <;> omega) _ | refine Below.alloc ?_ (by simp) _ | refine Below.setCell ?_ (by simp) _ | refine Below.over ?_ (by simp) _))
end Go.Proofs.Ytknijppdnfcknaa
