/- Walks of layer 19: New, Pixel, Add. -/
import Derived.Test.YtknijppdnfcknaaGb
import Derived.Test.YtknijppdnfcknaaXb
namespace Go.Proofs.Ytknijppdnfcknaa
open Go.RowKit FF

/-- New -/
def NewFilm (w : World) (W H : Nat) (e : Ending) (w' : World) : Prop :=
  ∃ fb ib pb, e = .returned (.tuple #[.pointer (some ⟨fb, 0, none⟩), .int .i64 0]) ∧ FilmAt w' fb ib pb W H (fun _ => pz) ∧ Below w.heap.size w w' ∧ w.heap.size ≤ fb ∧ w.heap.size ≤ ib ∧ w.heap.size ≤ pb
set_option maxRecDepth 100000 in
theorem fnew_b (w : World) (W H : Nat) (w1 : 1 ≤ W) (w2 : W ≤ 1024) (h1 : 1 ≤ H) (h2 : H ≤ 1024) (hp : W * H ≤ 65536) :
    Calls Try.prog 10 #[.int .i64 (W : Int), .int .i64 (H : Int)] w (NewFilm w W H) := by
  have N := Lib.hid (new_b w W H w1 w2 h1 h2 hp)
  clear w1 w2 h1 h2 hp
  go_enter Try.func10, Try.ntmps10
  go_wp2_with ((with_reducible refine (N.out).mono ?_); rintro _ w1 ⟨ib, pb, rfl, hi, hb, l1, l2⟩)
  have I := Lib.hid hi
  have B := Lib.hid hb
  have ls := hb.size
  have il := hi.lt
  have pl := hi.pix.lt
  clear hi hb
  go_wp2_with fail
  go_ret2
  refine ⟨w1.heap.size, ib, pb, rfl, ⟨by simp, ?_, by omega, I.out.alloc _⟩, ?_, by omega, l1, l2⟩
  · rw [cell_of_row _ _ _ _ _ _ (heap_alloc_last w1 _)]; rfl
  · exact (B.out).alloc ls _
set_option maxRecDepth 100000 in
theorem pixel_yes {w : World} {fb ib pb W H : Nat} {px : Nat → Px} (h : FilmAt w fb ib pb W H px) (x y : Int) (hx0 : 0 ≤ x) (hx : x < W) (hy0 : 0 ≤ y) (hy : y < H) :
    Calls Try.prog 12 #[.pointer (some ⟨fb, 0, none⟩), .int .i64 x, .int .i64 y] w fun e w' => e = .returned (.tuple #[(px (y * W + x).toNat).v, .int .i64 0]) ∧ ∃ X, w' = w.over X := by
  have I := Lib.hid h.img
  have c := h.c
  have lt := h.lt
  have A := Lib.hid (fun W' (hW : ImgAt W' ib pb W H px) => at_yes hW x y hx0 hx hy0 hy)
  clear h
  generalize px (y * W + x).toNat = p at *
  obtain ⟨⟨p0, p1, p2, p3, p4, p5⟩, p6, p7⟩ := p
  unfold Px.v at *
  simp only at *
  go_enter Try.func12, Try.ntmps12
  go_wp2_with ((with_reducible refine (A.out _ ?_).mono ?_); (repeat (first | exact I.out | refine ImgAt.alloc ?_ _ | refine ImgAt.over ?_ _ | refine ImgAt.drew ?_ | refine ImgAt.drewN ?_ _)); rintro _ _ ⟨rfl, X1, rfl⟩)
  refine bodyPost_ret (v := _) (by simp [results, Try.results12, go_sem] <;> rfl) rfl ⟨rfl, ?_⟩
  refine Below.is_over ?_
  repeat (first | with_reducible exact Below.refl _ _ | with_reducible refine Below.setCell ?_ (by simp <;> omega) _ | with_reducible refine below_drewN ?_ _ | with_reducible refine Below.alloc ?_ (by simp <;> omega) _ | with_reducible refine Below.over ?_ (by simp <;> omega) _ | with_reducible refine Below.drew ?_)
/-- a sample: a colour, and whether it is clear -/
def smp (s : C3) (c : Bool) : Value := .agg #[.float .f64 s.a, .float .f64 s.b, .float .f64 s.c, .float .f64 s.d, .float .f64 s.e, .float .f64 s.f, .bool c, .slice none 0 0]
/-- a pixel with a sample more -/
def padd (p : Px) (s : C3) (c : Bool) : Px := ⟨p.s.add s, wrap64 (p.n + 1), if c then p.d else wrap64 (p.d + 1)⟩
set_option maxRecDepth 100000 in
set_option maxHeartbeats 1600000 in
theorem fadd_yes {w : World} {fb ib pb W H : Nat} {px : Nat → Px} (h : FilmAt w fb ib pb W H px) (x y : Int) (hx0 : 0 ≤ x) (hx : x < W) (hy0 : 0 ≤ y) (hy : y < H)
    (s : C3) (c : Bool) (hp : (px (y * W + x).toNat).s.ok) (hs : s.ok) :
    Calls Try.prog 15 #[.pointer (some ⟨fb, 0, none⟩), .int .i64 x, .int .i64 y, smp s c] w fun e w' => e = .returned (.int .i64 0) ∧ ∃ X, w' = (w.setCells pb ((y * W + x).toNat * 8) (padd (px (y * W + x).toNat) s c).cells).over X := by
  have I := Lib.hid h.img
  have cf := h.c
  have lt := h.lt
  have lp := h.img.pix.lt
  have A := Lib.hid (fun W' (hW : ImgAt W' ib pb W H px) => at_yes hW x y hx0 hx hy0 hy)
  have ST := Lib.hid (fun W' (hW : ImgAt W' ib pb W H px) => set_yes hW x y hx0 hx hy0 hy)
  have V := Lib.hid (vadd_b _ s hp hs)
  clear h hp hs
  generalize px (y * W + x).toNat = p at *
  unfold padd
  unfold C3.v at V
  generalize C3.add p.s s = q at *
  obtain ⟨⟨p0, p1, p2, p3, p4, p5⟩, p6, p7⟩ := p
  obtain ⟨s0, s1, s2, s3, s4, s5⟩ := s
  obtain ⟨q0, q1, q2, q3, q4, q5⟩ := q
  unfold smp
  unfold Px.v at *
  simp only at *
  go_enter Try.func15, Try.ntmps15
  go_wp2_with (first | ((with_reducible refine (A.out _ ?_).mono ?_); (repeat (first | exact I.out | refine ImgAt.alloc ?_ _ | refine ImgAt.over ?_ _ | refine ImgAt.drew ?_ | refine ImgAt.drewN ?_ _)); rintro _ _ ⟨rfl, X1, rfl⟩))
  refine wp_any_world (fun W => (∃ X, W = w.over X) ∧ Blk W w.heap.size [.float .f64 s0, .float .f64 s1, .float .f64 s2, .float .f64 s3, .float .f64 s4, .float .f64 s5, .bool c, .slice none 0 0] ∧
    Blk W (w.heap.size + 1 + X1.n) [.float .f64 p0, .float .f64 p1, .float .f64 p2, .float .f64 p3, .float .f64 p4, .float .f64 p5, .int .i64 p6, .int .i64 p7]) ?_ ?_
  · refine ⟨Below.is_over ?_, (((Blk.new w _ _).over (by simp) _).alloc (by simp) _), ?_⟩
    · repeat (first | with_reducible exact Below.refl _ _ | with_reducible refine Below.setCell ?_ (by simp <;> omega) _ | with_reducible refine below_drewN ?_ _ | with_reducible refine Below.alloc ?_ (by simp <;> omega) _ | with_reducible refine Below.over ?_ (by simp <;> omega) _ | with_reducible refine Below.drew ?_)
    · have := Blk.new ((w.alloc (.cells #[.float .f64 s0, .float .f64 s1, .float .f64 s2, .float .f64 s3, .float .f64 s4, .float .f64 s5, .bool c, .slice none 0 0] 55)).over X1) #[.float .f64 p0, .float .f64 p1, .float .f64 p2, .float .f64 p3, .float .f64 p4, .float .f64 p5, .int .i64 p6, .int .i64 p7] 41
      rw [World.over_size, World.size_alloc] at this
      exact this
  have i9 : ib < w.heap.size + 1 + X1.n := by have := I.out.lt; omega
  have j9 : pb < w.heap.size + 1 + X1.n := by omega
  have k9 : fb < w.heap.size + 1 + X1.n := by omega
  have l9 : w.heap.size ≤ w.heap.size + 1 + X1.n := by omega
  have m9 : w.heap.size < w.heap.size + 1 + X1.n := by omega
  generalize w.heap.size + 1 + X1.n = t9 at *
  generalize hsz : w.heap.size = t7 at *
  have HSZ := Lib.hid hsz
  clear hsz
  rintro U ⟨⟨X2, hW⟩, A7, A9⟩
  have HW := Lib.hid hW
  have A7' := Lib.hid A7
  have A9' := Lib.hid A9
  clear hW
  go_cut [] (fun wx => (∃ X, wx = w.over X) ∧ Blk wx t7 [.float .f64 s0, .float .f64 s1, .float .f64 s2, .float .f64 s3, .float .f64 s4, .float .f64 s5, .bool c, .slice none 0 0] ∧
    Blk wx t9 [.float .f64 q0, .float .f64 q1, .float .f64 q2, .float .f64 q3, .float .f64 q4, .float .f64 q5, .int .i64 (wrap64 (p6 + 1)), .int .i64 p7])
  case first => as_aux_lemma =>
    have a0 := A7.1 0 _ rfl
    have a1 := A7.1 1 _ rfl
    have a2 := A7.1 2 _ rfl
    have a3 := A7.1 3 _ rfl
    have a4 := A7.1 4 _ rfl
    have a5 := A7.1 5 _ rfl
    have b0 := A9.1 0 _ rfl
    have b1 := A9.1 1 _ rfl
    have b2 := A9.1 2 _ rfl
    have b3 := A9.1 3 _ rfl
    have b4 := A9.1 4 _ rfl
    have b5 := A9.1 5 _ rfl
    have b6 := A9.1 6 _ rfl
    have f0 := (A9.2 0 (by simp)).2
    have f1 := (A9.2 1 (by simp)).2
    have f2 := (A9.2 2 (by simp)).2
    have f3 := (A9.2 3 (by simp)).2
    have f4 := (A9.2 4 (by simp)).2
    have f5 := (A9.2 5 (by simp)).2
    have f6 := (A9.2 6 (by simp)).2
    simp only [Nat.zero_add] at a0 a1 a2 a3 a4 a5 b0 b1 b2 b3 b4 b5 b6 f0 f1 f2 f3 f4 f5 f6
    have z7 := A7.lt (by simp)
    have z9 := A9.lt (by simp)
    clear A7 A9 A ST I
    have ew : IntKind.i64.wrap (p6 + 1) = wrap64 (p6 + 1) := by rw [IntKind.wrap_i64]; unfold wrap64; rfl
    go_region_with ((go_at_call 32; (with_reducible refine (V.out.at _).mono ?_); rintro _ _ ⟨rfl, X3, rfl⟩))
    all_goals
      go_wp2_with fail
      go_meet
      exact ⟨over_set7 ⟨X2, HW.out⟩ (by rw [HSZ.out]; exact l9) _, A7'.out.set7_other (by omega) (by simp) _, A9'.out.set7 _⟩
  case rest => as_aux_lemma =>
    obtain ⟨⟨X4, hX⟩, A7, A9⟩ := hcut
    have HX := Lib.hid hX
    clear hX A7' A9' HW X1 X2 A V
    have a6 := A7.1 6 _ rfl
    have b0 := A9.1 0 _ rfl
    have b1 := A9.1 1 _ rfl
    have b2 := A9.1 2 _ rfl
    have b3 := A9.1 3 _ rfl
    have b4 := A9.1 4 _ rfl
    have b5 := A9.1 5 _ rfl
    have b6 := A9.1 6 _ rfl
    have b7 := A9.1 7 _ rfl
    have f7 := (A9.2 7 (by simp)).2
    simp only [Nat.zero_add] at a6 b0 b1 b2 b3 b4 b5 b6 b7 f7
    have z7 := A7.lt (by simp)
    have z9 := A9.lt (by simp)
    clear A7 A9
    have IW := Lib.hid (show ImgAt wc ib pb W H px from (HX.out ▸ I.out.over X4))
    have cf' : wc.cell? ⟨fb, 0, none⟩ = some (.pointer (some ⟨ib, 0, none⟩)) := by rw [HX.out]; exact cell_over cf X4
    have l1 : fb ≠ t9 := by omega
    have l2 : ib ≠ t9 := by omega
    have l3 : pb ≠ t9 := by omega
    have ST0 := fun W' hW => ST.out W' hW ⟨⟨q0, q1, q2, q3, q4, q5⟩, wrap64 (p6 + 1), wrap64 (p7 + 1)⟩
    have ST1 := fun W' hW => ST.out W' hW ⟨⟨q0, q1, q2, q3, q4, q5⟩, wrap64 (p6 + 1), p7⟩
    dsimp only at ST0 ST1
    have ST0 := Lib.hid ST0
    have ST1 := Lib.hid ST1
    have l9' : w.heap.size ≤ t9 := by rw [HSZ.out]; exact l9
    have lp' : pb < w.heap.size := by rw [HSZ.out]; exact lp
    clear A7 A9 ST
    cases c
    · go_wp2_with fail
      go_region_with ((go_at_call 31; (with_reducible refine (ST0.out _ ?_).mono ?_); (repeat (first | exact IW.out | refine ImgAt.setCell ?_ l2 l3 _ _ | refine ImgAt.alloc ?_ _ | refine ImgAt.over ?_ _ | refine ImgAt.drew ?_ | refine ImgAt.drewN ?_ _)); rintro _ _ ⟨rfl, X5, rfl⟩))
      all_goals
        go_wp2_with fail
        go_ret
        refine ⟨rfl, sets_over ?_ lp' _⟩
        refine Below.is_over ?_
        rw [HX.out]
        repeat (first | with_reducible exact Below.refl _ _ | with_reducible refine Below.setCell ?_ (by simp <;> omega) _ | with_reducible refine below_drewN ?_ _ | with_reducible refine Below.alloc ?_ (by simp <;> omega) _ | with_reducible refine Below.over ?_ (by simp <;> omega) _ | with_reducible refine Below.drew ?_)
    · go_wp2_with fail
      go_region_with ((go_at_call 31; (with_reducible refine (ST1.out _ ?_).mono ?_); (repeat (first | exact IW.out | refine ImgAt.setCell ?_ l2 l3 _ _ | refine ImgAt.alloc ?_ _ | refine ImgAt.over ?_ _ | refine ImgAt.drew ?_ | refine ImgAt.drewN ?_ _)); rintro _ _ ⟨rfl, X5, rfl⟩))
      all_goals
        go_wp2_with fail
        go_ret
        refine ⟨rfl, sets_over ?_ lp' _⟩
        refine Below.is_over ?_
        rw [HX.out]
        repeat (first | with_reducible exact Below.refl _ _ | with_reducible refine Below.setCell ?_ (by simp <;> omega) _ | with_reducible refine below_drewN ?_ _ | with_reducible refine Below.alloc ?_ (by simp <;> omega) _ | with_reducible refine Below.over ?_ (by simp <;> omega) _ | with_reducible refine Below.drew ?_)
end Go.Proofs.Ytknijppdnfcknaa
