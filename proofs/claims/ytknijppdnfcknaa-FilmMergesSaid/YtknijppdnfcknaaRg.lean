/- The walks of the document's answer for layers 2, 3: sums. -/
import Derived.Test.YtknijppdnfcknaaRf
import Derived.Test.YtknijppdnfcknaaGa
namespace Go.Proofs.Ytknijppdnfcknaa
open Go.RowKit FF

theorem loA_fin {x y : Nat} (h : fin x ∧ fin y) : loA x y = addR x y true ∧ addE x y = 0 := by
  unfold loA addR addE; rw [if_pos h, if_pos h, if_pos h]; exact ⟨rfl, rfl⟩
theorem hiA_fin {x y : Nat} (h : fin x ∧ fin y) : hiA x y = addR x y false := by
  unfold hiA addR; rw [if_pos h, if_pos h]
theorem A_inf {x y : Nat} (h : ¬ (fin x ∧ fin y)) : loA x y = 18442240474082181120 ∧ hiA x y = 9218868437227405312 ∧ addE x y = 10 := by
  unfold loA hiA addE; rw [if_neg h, if_neg h, if_neg h]; exact ⟨rfl, rfl, rfl⟩
set_option maxRecDepth 100000 in
theorem r2add_b (a b c d : Nat) (ha : a < 18446744073709551616) (hb : b < 18446744073709551616) (hc : c < 18446744073709551616) (hd : d < 18446744073709551616) :
    Bl 68 #[spv a b, spv c d] (spv (loA a c) (hiA b d)) := by
  intro w
  have A1 := Lib.hid (radd2_b a c true ha hc)
  have A2 := Lib.hid (radd2_b b d false hb hd)
  have ni : Op.negFloat .f64 9218868437227405312 = 18442240474082181120 := by rw [negFloat_eq _ (by omega)]
  have key : ∀ x y : Nat, (addE x y = 0 ∧ loA x y = addR x y true ∧ hiA x y = addR x y false) ∨ (addE x y = 10 ∧ loA x y = 18442240474082181120 ∧ hiA x y = 9218868437227405312) := by
    intro x y
    by_cases h : fin x ∧ fin y
    · exact .inl ⟨(loA_fin h).2, (loA_fin h).1, hiA_fin h⟩
    · exact .inr ⟨(A_inf h).2.2, (A_inf h).1, (A_inf h).2.1⟩
  obtain ⟨l, hl⟩ : ∃ l, l = loA a c := ⟨_, rfl⟩
  obtain ⟨h, hh⟩ : ∃ h, h = hiA b d := ⟨_, rfl⟩
  have k1 := key a c; have k2 := key b d
  rw [← hl] at k1 ⊢; rw [← hh] at k2 ⊢
  clear ha hb hc hd hl hh key
  generalize addR a c true = r1 at *
  generalize addR b d false = r2 at *
  generalize addE a c = e1 at *
  generalize addE b d = e2 at *
  generalize addR b d true = r3 at *
  generalize addR a c false = r4 at *
  generalize hiA a c = h4 at *
  generalize loA b d = l4 at *
  rcases k1 with ⟨rfl, rfl, _⟩ | ⟨rfl, rfl, _⟩ <;> rcases k2 with ⟨rfl, _, rfl⟩ | ⟨rfl, _, rfl⟩
  all_goals
    go_enter Try.func68, Try.ntmps68
    go_wp2_with (first | ((with_reducible refine ((A1.out).at _).mono ?_); rintro _ _ ⟨rfl, X1, rfl⟩) | ((with_reducible refine ((A2.out).at _).mono ?_); rintro _ _ ⟨rfl, X2, rfl⟩) | ((with_reducible refine (rinf_q.at _).mono ?_); rintro _ _ ⟨rfl, rfl⟩))
    refine bodyPost_ret (v := _) (by simp [results, Try.results68, go_sem] <;> rfl) rfl ⟨?_, ?_⟩
    · first | rfl | (rw [ni])
    · repeat (first | exact Below.refl _ _ | refine Below.drew ?_ | refine below_drewN ?_ _ | refine Below.over ?_ (by simp <;> omega) _ | refine Below.alloc ?_ (by simp <;> omega) _ | refine Below.setCell ?_ (by simp <;> omega) _ | refine Below.alloc ?_ (by simp) _ | refine Below.setCell ?_ (by simp) _ | refine Below.over ?_ (by simp) _)
abbrev v3v (a b c d e f : Nat) : Value := .agg #[.float .f64 a, .float .f64 b, .float .f64 c, .float .f64 d, .float .f64 e, .float .f64 f]
def C3.v (s : C3) : Value := v3v s.a s.b s.c s.d s.e s.f
def C3.add (s t : C3) : C3 := ⟨loA s.a t.a, hiA s.b t.b, loA s.c t.c, hiA s.d t.d, loA s.e t.e, hiA s.f t.f⟩
set_option maxRecDepth 100000 in
set_option maxHeartbeats 1000000 in
theorem r3add_b (s t : C3) (hs : s.ok) (ht : t.ok) :
    Bl 50 #[s.v, t.v] (s.add t).v := by
  intro w
  obtain ⟨s0, s1, s2, s3, s4, s5⟩ := s
  obtain ⟨t0, t1, t2, t3, t4, t5⟩ := t
  obtain ⟨a0, a1, a2, a3, a4, a5⟩ := hs
  obtain ⟨b0, b1, b2, b3, b4, b5⟩ := ht
  have A0 := Lib.hid (r2add_b s0 s1 t0 t1 a0 a1 b0 b1)
  have A1 := Lib.hid (r2add_b s2 s3 t2 t3 a2 a3 b2 b3)
  have A2 := Lib.hid (r2add_b s4 s5 t4 t5 a4 a5 b4 b5)
  unfold C3.add C3.v
  simp only
  clear a0 a1 a2 a3 a4 a5 b0 b1 b2 b3 b4 b5
  generalize loA s0 t0 = l0 at *
  generalize loA s2 t2 = l1 at *
  generalize loA s4 t4 = l2 at *
  generalize hiA s1 t1 = h0 at *
  generalize hiA s3 t3 = h1 at *
  generalize hiA s5 t5 = h2 at *
  go_enter Try.func50, Try.ntmps50
  go_wp2_with fail
  refine wp_region_lastD0 (List.cons_ne_nil _ _) (by kernel_rfl) (by kernel_rfl) (by kernel_rfl) ?_; simp only [List.dropLast_cons_cons, List.dropLast_singleton, List.getLast_cons_cons, List.getLast_singleton]
  repeat (go_big_quiet_step (first | (with_reducible exact A0.out.quiet _ _) | (with_reducible exact A1.out.quiet _ _) | (with_reducible exact A2.out.quiet _ _)))
  refine wpQuiet_nil ?_; intro _ hw'; obtain ⟨X, hw''⟩ := hw'; subst hw''
  go_wp2_with fail
  refine bodyPost_ret (v := _) (by simp [results, Try.results50, go_sem] <;> rfl) rfl ⟨rfl, ?_⟩
  repeat (first | exact Below.refl _ _ | refine Below.drew ?_ | refine below_drewN ?_ _ | refine Below.over ?_ (by simp <;> omega) _ | refine Below.alloc ?_ (by simp <;> omega) _ | refine Below.setCell ?_ (by simp <;> omega) _ | refine Below.alloc ?_ (by simp) _ | refine Below.setCell ?_ (by simp) _ | refine Below.over ?_ (by simp) _)
end Go.Proofs.Ytknijppdnfcknaa
