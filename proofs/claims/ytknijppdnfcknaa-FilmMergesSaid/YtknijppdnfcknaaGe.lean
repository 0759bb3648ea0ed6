/- Walks: the document's sum of a pixel and a sample; a sample beside the film. -/
import Derived.Test.YtknijppdnfcknaaGc
import Derived.Test.YtknijppdnfcknaaGd
namespace Go.Proofs.Ytknijppdnfcknaa
open Go.RowKit FF

set_option maxRecDepth 100000 in
theorem radd_px (p : Px) (s : C3) (c : Bool) (hp : p.s.ok) (hs : s.ok) : Bl 27 #[p.v, smp s c] (padd p s c).v := by
  intro w
  have V := Lib.hid (r3add_b p.s s hp hs)
  unfold padd
  unfold C3.v at V
  generalize C3.add p.s s = q at *
  clear hp hs
  obtain ⟨⟨p0, p1, p2, p3, p4, p5⟩, p6, p7⟩ := p
  obtain ⟨s0, s1, s2, s3, s4, s5⟩ := s
  obtain ⟨q0, q1, q2, q3, q4, q5⟩ := q
  unfold smp Px.v
  simp only at *
  cases c
  all_goals
    go_enter Try.func27, Try.ntmps27
    go_wp2_with (((with_reducible refine ((V.out).at _).mono ?_); rintro _ _ ⟨rfl, X1, rfl⟩))
    refine bodyPost_ret (v := _) (by simp [results, Try.results27, go_sem] <;> rfl) rfl ⟨rfl, ?_⟩
    repeat (first | with_reducible exact Below.refl _ _ | with_reducible refine Below.setCell ?_ (by simp <;> omega) _ | with_reducible refine below_drewN ?_ _ | with_reducible refine Below.alloc ?_ (by simp <;> omega) _ | with_reducible refine Below.over ?_ (by simp <;> omega) _ | with_reducible refine Below.drew ?_)
set_option maxRecDepth 100000 in
theorem fadd_no {w : World} {fb ib pb W H : Nat} {px : Nat → Px} (h : FilmAt w fb ib pb W H px) (x y : Int) (hn : ¬ (0 ≤ x ∧ x < W ∧ 0 ≤ y ∧ y < H)) (s : C3) (c : Bool) :
    Calls Try.prog 15 #[.pointer (some ⟨fb, 0, none⟩), .int .i64 x, .int .i64 y, smp s c] w fun e w' => e = .returned (.int .i64 2) ∧ ∃ X, w' = w.over X := by
  have I := Lib.hid h.img
  have cf := h.c
  have lt := h.lt
  have A := Lib.hid (fun W' (hW : ImgAt W' ib pb W H px) => at_no hW x y hn)
  clear h hn
  obtain ⟨s0, s1, s2, s3, s4, s5⟩ := s
  unfold smp
  unfold pz Px.v at A
  simp only at *
  go_enter Try.func15, Try.ntmps15
  go_wp2_with ((with_reducible refine (A.out _ ?_).mono ?_); (repeat (first | exact I.out | refine ImgAt.alloc ?_ _ | refine ImgAt.over ?_ _ | refine ImgAt.drew ?_ | refine ImgAt.drewN ?_ _)); rintro _ _ ⟨rfl, X1, rfl⟩)
  go_ret
  refine ⟨rfl, Below.is_over ?_⟩
  repeat (first | with_reducible exact Below.refl _ _ | with_reducible refine Below.setCell ?_ (by simp <;> omega) _ | with_reducible refine below_drewN ?_ _ | with_reducible refine Below.alloc ?_ (by simp <;> omega) _ | with_reducible refine Below.over ?_ (by simp <;> omega) _ | with_reducible refine Below.drew ?_)
end Go.Proofs.Ytknijppdnfcknaa
