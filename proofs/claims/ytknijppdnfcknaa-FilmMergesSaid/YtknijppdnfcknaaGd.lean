/- Walks of the document's answer: a span's, a colour's validity; sameness; a pixel with a sample more. -/
import Derived.Test.YtknijppdnfcknaaGb
import Derived.Test.YtknijppdnfcknaaRg
namespace Go.Proofs.Ytknijppdnfcknaa
open Go.RowKit FF

def minB (x : Nat) : Bool := (FloatKind.f64.format.order x 0 == some .eq) && ((x : Int) != 0)
set_option maxRecDepth 100000 in
theorem minus_q (x : Nat) : Qt 67 #[.float .f64 x] (.bool (minB x)) := by
  intro w
  unfold minB
  obtain ⟨b1, h1⟩ : ∃ b, (FloatKind.f64.format.order x 0 == some .eq) = b := ⟨_, rfl⟩
  obtain ⟨b2, h2⟩ : ∃ b, ((x : Int) != 0) = b := ⟨_, rfl⟩
  rw [h1, h2]
  cases b1 <;> cases b2
  all_goals
    go_enter Try.func67, Try.ntmps67
    go_wp2
    go_ret
    exact ⟨rfl, rfl⟩
def valB (a b : Nat) : Bool := (FloatKind.f64.format.order a b == some .lt || FloatKind.f64.format.order a b == some .eq) && (FloatKind.f64.format.order a 9218868437227405312 != some .eq) && (FloatKind.f64.format.order b 18442240474082181120 != some .eq) && (!minB a) && (!minB b)
set_option maxRecDepth 100000 in
set_option maxHeartbeats 2000000 in
theorem valid2_b (a b : Nat) : Bl 49 #[spv a b] (.bool (valB a b)) := by
  intro w
  unfold valB
  have ni : Op.negFloat .f64 9218868437227405312 = 18442240474082181120 := by rw [negFloat_eq _ (by omega)]
  have A := Lib.hid (minus_q a)
  have B := Lib.hid (minus_q b)
  obtain ⟨b1, h1⟩ : ∃ c, (FloatKind.f64.format.order a b == some .lt || FloatKind.f64.format.order a b == some .eq) = c := ⟨_, rfl⟩
  obtain ⟨b2, h2⟩ : ∃ c, (FloatKind.f64.format.order a 9218868437227405312 != some .eq) = c := ⟨_, rfl⟩
  obtain ⟨b3, h3⟩ : ∃ c, (FloatKind.f64.format.order b 18442240474082181120 != some .eq) = c := ⟨_, rfl⟩
  rw [h1, h2, h3]
  generalize minB a = b4 at *
  generalize minB b = b5 at *
  cases b1 with
  | false => as_aux_lemma =>
    go_enter Try.func49, Try.ntmps49
    go_wp2_with fail
    refine wp_region_over0 (by kernel_rfl) (by kernel_rfl) ?_
    repeat (first | go_big_quiet_step (first | (with_reducible exact rinf_q.quiet _ _) | (with_reducible exact A.out.quiet _ _) | (with_reducible exact B.out.quiet _ _)) | quiet_step (first | (with_reducible exact rinf_q.quiet _ _) | (with_reducible exact A.out.quiet _ _) | (with_reducible exact B.out.quiet _ _)))
    refine wpQuiet_nil ?_; intro _ hw'; obtain ⟨X, hw''⟩ := hw'; subst hw''
    go_wp2_with fail
    go_ret
    refine ⟨rfl, ?_⟩
    repeat (first | with_reducible exact Below.refl _ _ | with_reducible refine Below.setCell ?_ (by simp <;> omega) _ | with_reducible refine below_drewN ?_ _ | with_reducible refine Below.alloc ?_ (by simp <;> omega) _ | with_reducible refine Below.over ?_ (by simp <;> omega) _ | with_reducible refine Below.drew ?_)
  | true =>
    cases b2 with
    | false => as_aux_lemma =>
      go_enter Try.func49, Try.ntmps49
      go_wp2_with fail
      refine wp_region_over0 (by kernel_rfl) (by kernel_rfl) ?_
      repeat (first | go_big_quiet_step (first | (with_reducible exact rinf_q.quiet _ _) | (with_reducible exact A.out.quiet _ _) | (with_reducible exact B.out.quiet _ _)) | quiet_step (first | (with_reducible exact rinf_q.quiet _ _) | (with_reducible exact A.out.quiet _ _) | (with_reducible exact B.out.quiet _ _)))
      refine wpQuiet_nil ?_; intro _ hw'; obtain ⟨X, hw''⟩ := hw'; subst hw''
      go_wp2_with fail
      go_ret
      refine ⟨rfl, ?_⟩
      repeat (first | with_reducible exact Below.refl _ _ | with_reducible refine Below.setCell ?_ (by simp <;> omega) _ | with_reducible refine below_drewN ?_ _ | with_reducible refine Below.alloc ?_ (by simp <;> omega) _ | with_reducible refine Below.over ?_ (by simp <;> omega) _ | with_reducible refine Below.drew ?_)
    | true =>
      cases b3 with
      | false => as_aux_lemma =>
        go_enter Try.func49, Try.ntmps49
        go_wp2_with fail
        refine wp_region_over0 (by kernel_rfl) (by kernel_rfl) ?_
        repeat (first | go_big_quiet_step (first | (with_reducible exact rinf_q.quiet _ _) | (with_reducible exact A.out.quiet _ _) | (with_reducible exact B.out.quiet _ _)) | quiet_step (first | (with_reducible exact rinf_q.quiet _ _) | (with_reducible exact A.out.quiet _ _) | (with_reducible exact B.out.quiet _ _)))
        refine wpQuiet_nil ?_; intro _ hw'; obtain ⟨X, hw''⟩ := hw'; subst hw''
        go_wp2_with fail
        go_ret
        refine ⟨rfl, ?_⟩
        repeat (first | with_reducible exact Below.refl _ _ | with_reducible refine Below.setCell ?_ (by simp <;> omega) _ | with_reducible refine below_drewN ?_ _ | with_reducible refine Below.alloc ?_ (by simp <;> omega) _ | with_reducible refine Below.over ?_ (by simp <;> omega) _ | with_reducible refine Below.drew ?_)
      | true =>
        cases b4 with
        | false => as_aux_lemma =>
          go_enter Try.func49, Try.ntmps49
          go_wp2_with fail
          refine wp_region_over0 (by kernel_rfl) (by kernel_rfl) ?_
          repeat (first | go_big_quiet_step (first | (with_reducible exact rinf_q.quiet _ _) | (with_reducible exact A.out.quiet _ _) | (with_reducible exact B.out.quiet _ _)) | quiet_step (first | (with_reducible exact rinf_q.quiet _ _) | (with_reducible exact A.out.quiet _ _) | (with_reducible exact B.out.quiet _ _)))
          refine wpQuiet_nil ?_; intro _ hw'; obtain ⟨X, hw''⟩ := hw'; subst hw''
          go_wp2_with fail
          go_ret
          refine ⟨rfl, ?_⟩
          repeat (first | with_reducible exact Below.refl _ _ | with_reducible refine Below.setCell ?_ (by simp <;> omega) _ | with_reducible refine below_drewN ?_ _ | with_reducible refine Below.alloc ?_ (by simp <;> omega) _ | with_reducible refine Below.over ?_ (by simp <;> omega) _ | with_reducible refine Below.drew ?_)
        | true =>
          cases b5 with
          | false => as_aux_lemma =>
            go_enter Try.func49, Try.ntmps49
            go_wp2_with fail
            refine wp_region_over0 (by kernel_rfl) (by kernel_rfl) ?_
            repeat (first | go_big_quiet_step (first | (with_reducible exact rinf_q.quiet _ _) | (with_reducible exact A.out.quiet _ _) | (with_reducible exact B.out.quiet _ _)) | quiet_step (first | (with_reducible exact rinf_q.quiet _ _) | (with_reducible exact A.out.quiet _ _) | (with_reducible exact B.out.quiet _ _)))
            refine wpQuiet_nil ?_; intro _ hw'; obtain ⟨X, hw''⟩ := hw'; subst hw''
            go_wp2_with fail
            go_ret
            refine ⟨rfl, ?_⟩
            repeat (first | with_reducible exact Below.refl _ _ | with_reducible refine Below.setCell ?_ (by simp <;> omega) _ | with_reducible refine below_drewN ?_ _ | with_reducible refine Below.alloc ?_ (by simp <;> omega) _ | with_reducible refine Below.over ?_ (by simp <;> omega) _ | with_reducible refine Below.drew ?_)
          | true =>
            go_enter Try.func49, Try.ntmps49
            go_wp2_with fail
            refine wp_region_over0 (by kernel_rfl) (by kernel_rfl) ?_
            repeat (first | go_big_quiet_step (first | (with_reducible exact rinf_q.quiet _ _) | (with_reducible exact A.out.quiet _ _) | (with_reducible exact B.out.quiet _ _)) | quiet_step (first | (with_reducible exact rinf_q.quiet _ _) | (with_reducible exact A.out.quiet _ _) | (with_reducible exact B.out.quiet _ _)))
            refine wpQuiet_nil ?_; intro _ hw'; obtain ⟨X, hw''⟩ := hw'; subst hw''
            go_wp2_with fail
            go_ret
            refine ⟨rfl, ?_⟩
            repeat (first | with_reducible exact Below.refl _ _ | with_reducible refine Below.setCell ?_ (by simp <;> omega) _ | with_reducible refine below_drewN ?_ _ | with_reducible refine Below.alloc ?_ (by simp <;> omega) _ | with_reducible refine Below.over ?_ (by simp <;> omega) _ | with_reducible refine Below.drew ?_)
def C3.val (s : C3) : Bool := valB s.a s.b && valB s.c s.d && valB s.e s.f
set_option maxRecDepth 100000 in
theorem valid3_b (s : C3) : Bl 26 #[s.v] (.bool s.val) := by
  intro w
  unfold C3.val C3.v
  have A := Lib.hid (valid2_b s.a s.b)
  have B := Lib.hid (valid2_b s.c s.d)
  have C := Lib.hid (valid2_b s.e s.f)
  generalize valB s.a s.b = b1 at *
  generalize valB s.c s.d = b2 at *
  generalize valB s.e s.f = b3 at *
  obtain ⟨s0, s1, s2, s3, s4, s5⟩ := s
  simp only at *
  cases b1 <;> cases b2 <;> cases b3
  all_goals
    go_enter Try.func26, Try.ntmps26
    go_wp2_with (first | ((with_reducible refine ((A.out).at _).mono ?_); rintro _ _ ⟨rfl, X1, rfl⟩) | ((with_reducible refine ((B.out).at _).mono ?_); rintro _ _ ⟨rfl, X2, rfl⟩) | ((with_reducible refine ((C.out).at _).mono ?_); rintro _ _ ⟨rfl, X3, rfl⟩))
    go_ret
    refine ⟨rfl, ?_⟩
    repeat (first | with_reducible exact Below.refl _ _ | with_reducible refine Below.setCell ?_ (by simp <;> omega) _ | with_reducible refine below_drewN ?_ _ | with_reducible refine Below.alloc ?_ (by simp <;> omega) _ | with_reducible refine Below.over ?_ (by simp <;> omega) _ | with_reducible refine Below.drew ?_)
set_option maxRecDepth 100000 in
theorem same2_b (a b : Nat) : Bl 41 #[spv a b, spv a b] (.bool true) := by
  intro w
  go_enter Try.func41, Try.ntmps41
  go_wp2_with fail
  go_quiet (fail)
  go_wp2_with fail
  go_ret
  refine ⟨rfl, ?_⟩
  repeat (first | with_reducible exact Below.refl _ _ | with_reducible refine Below.setCell ?_ (by simp <;> omega) _ | with_reducible refine below_drewN ?_ _ | with_reducible refine Below.alloc ?_ (by simp <;> omega) _ | with_reducible refine Below.over ?_ (by simp <;> omega) _ | with_reducible refine Below.drew ?_)
set_option maxRecDepth 100000 in
theorem same3_b (s : C3) : Bl 20 #[s.v, s.v] (.bool true) := by
  intro w
  unfold C3.v
  obtain ⟨s0, s1, s2, s3, s4, s5⟩ := s
  simp only
  go_enter Try.func20, Try.ntmps20
  go_wp2_with (((with_reducible refine ((same2_b _ _).at _).mono ?_); rintro _ _ ⟨rfl, X1, rfl⟩))
  go_ret
  refine ⟨rfl, ?_⟩
  repeat (first | with_reducible exact Below.refl _ _ | with_reducible refine Below.setCell ?_ (by simp <;> omega) _ | with_reducible refine below_drewN ?_ _ | with_reducible refine Below.alloc ?_ (by simp <;> omega) _ | with_reducible refine Below.over ?_ (by simp <;> omega) _ | with_reducible refine Below.drew ?_)
set_option maxRecDepth 100000 in
theorem samepx_b (p : Px) : Bl 13 #[p.v, p.v] (.bool true) := by
  intro w
  have A := Lib.hid (same3_b p.s)
  obtain ⟨⟨s0, s1, s2, s3, s4, s5⟩, n, d⟩ := p
  unfold C3.v at A
  unfold Px.v
  simp only at *
  go_enter Try.func13, Try.ntmps13
  go_wp2_with (((with_reducible refine ((A.out).at _).mono ?_); rintro _ _ ⟨rfl, X1, rfl⟩))
  go_ret
  refine ⟨rfl, ?_⟩
  repeat (first | with_reducible exact Below.refl _ _ | with_reducible refine Below.setCell ?_ (by simp <;> omega) _ | with_reducible refine below_drewN ?_ _ | with_reducible refine Below.alloc ?_ (by simp <;> omega) _ | with_reducible refine Below.over ?_ (by simp <;> omega) _ | with_reducible refine Below.drew ?_)
end Go.Proofs.Ytknijppdnfcknaa
