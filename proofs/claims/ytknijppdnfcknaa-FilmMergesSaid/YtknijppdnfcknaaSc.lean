/- span.Div. -/
import Derived.Test.YtknijppdnfcknaaSb
namespace Go.Proofs.Ytknijppdnfcknaa
open Go.RowKit FF
theorem idx2a (W : World) (x y : Nat) : (Instr.index 109 (.agg #[.float .f64 x, .float .f64 y]) (.int .i64 0)).run Try.prog W = .ok (.float .f64 x) W := by
  simp [Instr.index, run_underlying Try.underlying109, asIntOf, part, go_sem, Try.isAgg35, Try.sizeOf35]
theorem idx2b (W : World) (x y : Nat) : (Instr.index 109 (.agg #[.float .f64 x, .float .f64 y]) (.int .i64 1)).run Try.prog W = .ok (.float .f64 y) W := by
  simp [Instr.index, run_underlying Try.underlying109, asIntOf, part, go_sem, Try.isAgg35, Try.sizeOf35]
theorem over_self (W : World) : W = W.over ⟨#[], W.drawn⟩ := by simp [World.over]
set_option maxRecDepth 100000 in
theorem sall_b : Bl 58 #[] (spv 18442240474082181120 9218868437227405312) := by
  intro w
  go_enter Try.func58, Try.ntmps58
  go_wp2_with (first | ((with_reducible refine (inf_q.at _).mono ?_); rintro _ _ ⟨rfl, rfl⟩) | ((with_reducible refine (ninf_q.at _).mono ?_); rintro _ _ ⟨rfl, rfl⟩))
  refine bodyPost_ret (v := _) (by simp [results, Try.results58, go_sem] <;> rfl) rfl ⟨rfl, ?_⟩
  repeat (first | exact Below.refl _ _ | refine Below.drew ?_ | refine below_drewN ?_ _ | refine Below.over ?_ (by simp <;> omega) _ | refine Below.alloc ?_ (by simp <;> omega) _ | refine Below.setCell ?_ (by simp <;> omega) _ | refine Below.alloc ?_ (by simp) _ | refine Below.setCell ?_ (by simp) _ | refine Below.over ?_ (by simp) _)
abbrev spO (a b : Nat) : Obj := .cells #[.float .f64 a, .float .f64 b] 37
set_option maxRecDepth 100000 in
set_option maxHeartbeats 4000000 in
theorem sdiv_b (a b c d : Nat) (ha : Cl a) (hb : Cl b) (hc : Cl c) (hd : Cl d) : Bl 38 #[spv a b, spv c d] (spv (spdiv a b c d).1 (spdiv a b c d).2) := by
  intro w
  obtain ⟨v1, hv1⟩ : ∃ v, v = (spdiv a b c d).1 := ⟨_, rfl⟩
  obtain ⟨v2, hv2⟩ : ∃ v, v = (spdiv a b c d).2 := ⟨_, rfl⟩
  rw [← hv1, ← hv2]
  unfold spdiv zspan at hv1 hv2
  have W1 := Lib.hid (swide_b a b ha.b hb.b)
  have W2 := Lib.hid (swide_b c d hc.b hd.b)
  have hle : (FloatKind.f64.format.order c 0 == some .lt || FloatKind.f64.format.order c 0 == some .eq) = decide (I c ≤ 0) := by
    have := le_num hc.n (show nn 0 by decide); rw [I_zero] at this; exact this
  have hge : (FloatKind.f64.format.order d 0 == some .gt || FloatKind.f64.format.order d 0 == some .eq) = decide (0 ≤ I d) := by
    have := ge_num hd.n (show nn 0 by decide); rw [I_zero] at this; exact this
  have HV := Lib.hid (And.intro hv1 hv2)
  have D1 := Lib.hid (rdiv_b a c true ha.b hc.b)
  have D2 := Lib.hid (rdiv_b a d true ha.b hd.b)
  have D3 := Lib.hid (rdiv_b b c true hb.b hc.b)
  have D4 := Lib.hid (rdiv_b b d true hb.b hd.b)
  have U1 := Lib.hid (rdiv_b a c false ha.b hc.b)
  have U2 := Lib.hid (rdiv_b a d false ha.b hd.b)
  have U3 := Lib.hid (rdiv_b b c false hb.b hc.b)
  have U4 := Lib.hid (rdiv_b b d false hb.b hd.b)
  generalize decide (I c ≤ 0) = zc at *
  generalize decide (0 ≤ I d) = zd at *
  generalize wide a b = wa at *
  generalize wide c d = wb at *
  clear hv1 hv2
  go_enter Try.func38, Try.ntmps38
  go_upto_region 1 with fail
  go_cut [29] (fun s29 wx => s29 = .bool (zc && zd || wa || wb) ∧ ∃ X, wx = (((w.alloc (spO a b)).alloc (spO c d)).alloc (spO 0 0)).over X)
  case first => as_aux_lemma =>
    clear D1 D2 D3 D4 U1 U2 U3 U4 HV
    cases zc <;> cases zd <;> cases wa <;> cases wb
    all_goals
      go_wp2_with (first | ((with_reducible refine ((W1.out).at _).mono ?_); rintro _ _ ⟨rfl, X1, rfl⟩) | ((with_reducible refine ((W2.out).at _).mono ?_); rintro _ _ ⟨rfl, X2, rfl⟩))
      go_meet
      first | exact ⟨by simp, _, rfl⟩ | exact ⟨by simp, _, over_self _⟩
  case rest => as_aux_lemma =>
    obtain ⟨rfl, X, rfl⟩ := hcut
    obtain ⟨hv1, hv2⟩ := HV.out
    clear W1 W2 hle hge HV
    cases hall : (zc && zd || wa || wb)
    · rw [hall] at hv1 hv2
      simp only [Bool.false_eq_true, if_false] at hv1 hv2
      unfold sdLo at hv1
      unfold sdHi at hv2
      have c1 := cl_divR a c true; have c2 := cl_divR a d true; have c3 := cl_divR b c true; have c4 := cl_divR b d true
      have k1 := cl_divR a c false; have k2 := cl_divR a d false; have k3 := cl_divR b c false; have k4 := cl_divR b d false
      generalize divR a c true = p1 at *
      generalize divR a d true = p2 at *
      generalize divR b c true = p3 at *
      generalize divR b d true = p4 at *
      generalize divR a c false = q1 at *
      generalize divR a d false = q2 at *
      generalize divR b c false = q3 at *
      generalize divR b d false = q4 at *
      have m1 := fun W ts t => run_min_float (P := Try.prog) W ts t _ _ cl_inf.n c1.n
      have l1 := cl_inf.mn c1
      have x1 := fun W ts t => run_max_float (P := Try.prog) W ts t _ _ cl_ninf.n k1.n
      have g1 := cl_ninf.mx k1
      generalize fmn 9218868437227405312 p1 = o1 at *
      generalize fmx 18442240474082181120 q1 = h1 at *
      have m2 := fun W ts t => run_min_float (P := Try.prog) W ts t _ _ l1.n c2.n
      have l2 := l1.mn c2
      have x2 := fun W ts t => run_max_float (P := Try.prog) W ts t _ _ g1.n k2.n
      have g2 := g1.mx k2
      generalize fmn o1 p2 = o2 at *
      generalize fmx h1 q2 = h2 at *
      have m3 := fun W ts t => run_min_float (P := Try.prog) W ts t _ _ l2.n c3.n
      have l3 := l2.mn c3
      have x3 := fun W ts t => run_max_float (P := Try.prog) W ts t _ _ g2.n k3.n
      have g3 := g2.mx k3
      generalize fmn o2 p3 = o3 at *
      generalize fmx h2 q3 = h3 at *
      have m4 := fun W ts t => run_min_float (P := Try.prog) W ts t _ _ l3.n c4.n
      have x4 := fun W ts t => run_max_float (P := Try.prog) W ts t _ _ g3.n k4.n
      rw [← hv1] at m4
      rw [← hv2] at x4
      clear hv1 hv2 c1 c2 c3 c4 k1 k2 k3 k4 l1 l2 l3 g1 g2 g3 ha hb hc hd hall
      have i1 := fun W x y => idx2a W x y
      have i2 := fun W x y => idx2b W x y
      have y1 : ∀ Y : Ext, w.heap.size < w.heap.size + 1 + 1 + 1 + Y.n := fun Y => by omega
      have y2 : ∀ Y : Ext, w.heap.size < w.heap.size + 1 + 1 + 1 + Y.n + 1 := fun Y => by omega
      have y3 : ∀ Y : Ext, w.heap.size + 1 < w.heap.size + 1 + 1 + 1 + Y.n := fun Y => by omega
      have y4 : ∀ Y : Ext, w.heap.size + 1 < w.heap.size + 1 + 1 + 1 + Y.n + 1 := fun Y => by omega
      have y5 : ∀ Y : Ext, w.heap.size + 1 + 1 < w.heap.size + 1 + 1 + 1 + Y.n := fun Y => by omega
      have y6 : ∀ Y : Ext, w.heap.size + 1 + 1 < w.heap.size + 1 + 1 + 1 + Y.n + 1 := fun Y => by omega
      have y7 : ∀ Y Z : Ext, w.heap.size < w.heap.size + 1 + 1 + 1 + Y.n + 1 + Z.n := fun Y Z => by omega
      have y8 : ∀ Y Z : Ext, w.heap.size + 1 < w.heap.size + 1 + 1 + 1 + Y.n + 1 + Z.n := fun Y Z => by omega
      have y9 : ∀ Y Z : Ext, w.heap.size + 1 + 1 < w.heap.size + 1 + 1 + 1 + Y.n + 1 + Z.n := fun Y Z => by omega
      go_wp2_with (first | ((with_reducible refine (inf_q.at _).mono ?_); rintro _ _ ⟨rfl, rfl⟩) | ((with_reducible refine (ninf_q.at _).mono ?_); rintro _ _ ⟨rfl, rfl⟩))
      refine wp_loop_rounds 3 ?_
      rw [rounds_succ]
      go_wp2_with fail
      refine wp_loop_rounds 3 ?_
      rw [rounds_succ]
      go_wp2_with (first | ((with_reducible refine ((D1.out).at _).mono ?_); rintro _ _ ⟨rfl, X3, rfl⟩) | ((with_reducible refine ((U1.out).at _).mono ?_); rintro _ _ ⟨rfl, X3, rfl⟩))
      rw [rounds_succ]
      go_wp2_with (first | ((with_reducible refine ((D2.out).at _).mono ?_); rintro _ _ ⟨rfl, X3, rfl⟩) | ((with_reducible refine ((U2.out).at _).mono ?_); rintro _ _ ⟨rfl, X3, rfl⟩))
      rw [rounds_succ]
      go_wp2_with fail
      rw [rounds_succ]
      go_wp2_with fail
      refine wp_loop_rounds 3 ?_
      rw [rounds_succ]
      go_wp2_with (first | ((with_reducible refine ((D3.out).at _).mono ?_); rintro _ _ ⟨rfl, X3, rfl⟩) | ((with_reducible refine ((U3.out).at _).mono ?_); rintro _ _ ⟨rfl, X3, rfl⟩))
      rw [rounds_succ]
      go_wp2_with (first | ((with_reducible refine ((D4.out).at _).mono ?_); rintro _ _ ⟨rfl, X3, rfl⟩) | ((with_reducible refine ((U4.out).at _).mono ?_); rintro _ _ ⟨rfl, X3, rfl⟩))
      rw [rounds_succ]
      go_wp2_with fail
      rw [rounds_succ]
      go_wp2_with fail
      refine bodyPost_ret (v := _) (by simp [results, Try.results38, go_sem] <;> rfl) rfl ⟨rfl, ?_⟩
      repeat (first | exact Below.refl _ _ | refine Below.drew ?_ | refine below_drewN ?_ _ | refine Below.over ?_ (by simp <;> omega) _ | refine Below.alloc ?_ (by simp <;> omega) _ | refine Below.setCell ?_ (by simp <;> omega) _ | refine Below.alloc ?_ (by simp) _ | refine Below.setCell ?_ (by simp) _ | refine Below.over ?_ (by simp) _)
    · rw [hall] at hv1 hv2
      simp only [if_true] at hv1 hv2
      subst hv1 hv2
      clear D1 D2 D3 D4 U1 U2 U3 U4 ha hb hc hd
      go_wp2_with ((with_reducible refine (sall_b.at _).mono ?_); rintro _ _ ⟨rfl, X3, rfl⟩)
      refine bodyPost_ret (v := _) (by simp [results, Try.results38, go_sem] <;> rfl) rfl ⟨rfl, ?_⟩
      repeat (first | exact Below.refl _ _ | refine Below.drew ?_ | refine below_drewN ?_ _ | refine Below.over ?_ (by simp <;> omega) _ | refine Below.alloc ?_ (by simp <;> omega) _ | refine Below.setCell ?_ (by simp <;> omega) _ | refine Below.alloc ?_ (by simp) _ | refine Below.setCell ?_ (by simp) _ | refine Below.over ?_ (by simp) _)
end Go.Proofs.Ytknijppdnfcknaa
