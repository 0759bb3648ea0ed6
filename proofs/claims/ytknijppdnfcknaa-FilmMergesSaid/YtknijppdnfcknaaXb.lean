/- The program's sums of three spans. -/
import Derived.Test.YtknijppdnfcknaaXa
import Derived.Test.YtknijppdnfcknaaRg
namespace Go.Proofs.Ytknijppdnfcknaa
open Go.RowKit FF
set_option maxRecDepth 100000 in
set_option maxHeartbeats 1000000 in
theorem each_b (s t : C3) (hs : s.ok) (ht : t.ok) :
    Bl 52 #[s.v, t.v, .func (.func 53) #[] #[]] (s.add t).v := by
  intro w
  obtain ⟨s0, s1, s2, s3, s4, s5⟩ := s
  obtain ⟨t0, t1, t2, t3, t4, t5⟩ := t
  obtain ⟨a0, a1, a2, a3, a4, a5⟩ := hs
  obtain ⟨b0, b1, b2, b3, b4, b5⟩ := ht
  have A0 := Lib.hid (sadd_b s0 s1 t0 t1 a0 a1 b0 b1)
  have A1 := Lib.hid (sadd_b s2 s3 t2 t3 a2 a3 b2 b3)
  have A2 := Lib.hid (sadd_b s4 s5 t4 t5 a4 a5 b4 b5)
  unfold C3.add C3.v
  simp only
  clear a0 a1 a2 a3 a4 a5 b0 b1 b2 b3 b4 b5
  generalize loA s0 t0 = l0 at *
  generalize loA s2 t2 = l1 at *
  generalize loA s4 t4 = l2 at *
  generalize hiA s1 t1 = h0 at *
  generalize hiA s3 t3 = h1 at *
  generalize hiA s5 t5 = h2 at *
  go_enter Try.func52, Try.ntmps52
  go_wp2_with fail
  refine wp_loop_rounds 4 ?_
  rw [rounds_succ]
  go_wp2_with fail
  refine wp_region_lastD0 (List.cons_ne_nil _ _) (by kernel_rfl) (by kernel_rfl) (by kernel_rfl) ?_; simp only [List.dropLast_cons_cons, List.dropLast_singleton, List.getLast_cons_cons, List.getLast_singleton]
  repeat (go_big_quiet_step (first | (with_reducible exact A0.out.quiet _ _) | (with_reducible exact A1.out.quiet _ _) | (with_reducible exact A2.out.quiet _ _)))
  refine wpQuiet_nil ?_; intro _ hw'; obtain ⟨X, hw''⟩ := hw'; subst hw''
  go_wp2_with fail
  rw [rounds_succ]
  go_wp2_with fail
  refine wp_region_lastD1 (List.cons_ne_nil _ _) (by kernel_rfl) (by kernel_rfl) (by kernel_rfl) ?_; simp only [List.dropLast_cons_cons, List.dropLast_singleton, List.getLast_cons_cons, List.getLast_singleton]
  repeat (go_big_quiet_step (first | (with_reducible exact A0.out.quiet _ _) | (with_reducible exact A1.out.quiet _ _) | (with_reducible exact A2.out.quiet _ _)))
  refine wpQuiet_nil ?_; intro _ hw'; obtain ⟨X, hw''⟩ := hw'; subst hw''
  go_wp2_with fail
  rw [rounds_succ]
  go_wp2_with fail
  refine wp_region_lastD1 (List.cons_ne_nil _ _) (by kernel_rfl) (by kernel_rfl) (by kernel_rfl) ?_; simp only [List.dropLast_cons_cons, List.dropLast_singleton, List.getLast_cons_cons, List.getLast_singleton]
  repeat (go_big_quiet_step (first | (with_reducible exact A0.out.quiet _ _) | (with_reducible exact A1.out.quiet _ _) | (with_reducible exact A2.out.quiet _ _)))
  refine wpQuiet_nil ?_; intro _ hw'; obtain ⟨X, hw''⟩ := hw'; subst hw''
  go_wp2_with fail
  rw [rounds_succ]
  go_wp2_with fail
  refine bodyPost_ret (v := _) (by simp [results, Try.results52, go_sem] <;> rfl) rfl ⟨rfl, ?_⟩
  repeat (first | exact Below.refl _ _ | refine Below.drew ?_ | refine below_drewN ?_ _ | refine Below.over ?_ (by simp <;> omega) _ | refine Below.alloc ?_ (by simp <;> omega) _ | refine Below.setCell ?_ (by simp <;> omega) _ | refine Below.alloc ?_ (by simp) _ | refine Below.setCell ?_ (by simp) _ | refine Below.over ?_ (by simp) _)
theorem vadd_b (s t : C3) (hs : s.ok) (ht : t.ok) : Bl 32 #[s.v, t.v] (s.add t).v := by
  intro w
  have E := Lib.hid (each_b s t hs ht)
  obtain ⟨s0, s1, s2, s3, s4, s5⟩ := s
  obtain ⟨t0, t1, t2, t3, t4, t5⟩ := t
  unfold C3.add C3.v at *
  simp only at *
  clear hs ht
  generalize loA s0 t0 = l0 at *
  generalize loA s2 t2 = l1 at *
  generalize loA s4 t4 = l2 at *
  generalize hiA s1 t1 = h0 at *
  generalize hiA s3 t3 = h1 at *
  generalize hiA s5 t5 = h2 at *
  go_enter Try.func32, Try.ntmps32
  go_wp2_with ((with_reducible refine ((E.out).at _).mono ?_); rintro _ _ ⟨rfl, X1, rfl⟩)
  refine bodyPost_ret (v := _) (by simp [results, Try.results32, go_sem] <;> rfl) rfl ⟨rfl, ?_⟩
  repeat (first | exact Below.refl _ _ | refine Below.drew ?_ | refine below_drewN ?_ _ | refine Below.over ?_ (by simp <;> omega) _ | refine Below.alloc ?_ (by simp <;> omega) _ | refine Below.setCell ?_ (by simp <;> omega) _ | refine Below.alloc ?_ (by simp) _ | refine Below.setCell ?_ (by simp) _ | refine Below.over ?_ (by simp) _)
end Go.Proofs.Ytknijppdnfcknaa
