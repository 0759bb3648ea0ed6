/- The fixed fact of layer 19. -/
import Derived.Test.YtknijppdnfcknaaGe
import Derived.Test.YtknijppdnfcknaaSc
namespace Go.Proofs.Ytknijppdnfcknaa
open Go.RowKit FF

set_option maxRecDepth 100000 in
theorem rof2_b (x : Nat) (hf : fin x) : Bl 43 #[.float .f64 x] (spv (pl x) (pl x)) := by
  intro w
  have N := rnum_b x
  rw [decide_eq_true hf] at N
  replace N := Lib.hid N
  have Z := Lib.hid (rzero_q x hf.nn)
  clear hf
  generalize pl x = y at *
  go_enter Try.func43, Try.ntmps43
  go_wp2_with (first | ((with_reducible refine ((N.out).at _).mono ?_); rintro _ _ ⟨rfl, X1, rfl⟩) | ((with_reducible refine ((Z.out).at _).mono ?_); rintro _ _ ⟨rfl, rfl⟩))
  refine bodyPost_ret (v := _) (by simp [results, Try.results43, go_sem] <;> rfl) rfl ⟨rfl, ?_⟩
  repeat (first | with_reducible exact Below.refl _ _ | with_reducible refine Below.setCell ?_ (by simp <;> omega) _ | with_reducible refine below_drewN ?_ _ | with_reducible refine Below.alloc ?_ (by simp <;> omega) _ | with_reducible refine Below.over ?_ (by simp <;> omega) _ | with_reducible refine Below.drew ?_)
set_option maxRecDepth 100000 in
theorem rof3_b (x y z : Nat) (hx : fin x) (hy : fin y) (hz : fin z) : Bl 25 #[.agg #[.float .f64 x, .float .f64 y, .float .f64 z]] (v3v (pl x) (pl x) (pl y) (pl y) (pl z) (pl z)) := by
  intro w
  have A := Lib.hid (rof2_b x hx)
  have B := Lib.hid (rof2_b y hy)
  have C := Lib.hid (rof2_b z hz)
  clear hx hy hz
  generalize pl x = a at *
  generalize pl y = b at *
  generalize pl z = c at *
  go_enter Try.func25, Try.ntmps25
  go_wp2_with fail
  refine wp_region_lastD0 (List.cons_ne_nil _ _) (by kernel_rfl) (by kernel_rfl) (by kernel_rfl) ?_; simp only [List.dropLast_cons_cons, List.dropLast_singleton, List.getLast_cons_cons, List.getLast_singleton]
  repeat (first | go_big_quiet_step (first | (with_reducible exact A.out.quiet _ _) | (with_reducible exact B.out.quiet _ _) | (with_reducible exact C.out.quiet _ _)) | quiet_step (first | (with_reducible exact A.out.quiet _ _) | (with_reducible exact B.out.quiet _ _) | (with_reducible exact C.out.quiet _ _)))
  refine wpQuiet_nil ?_; intro _ hw'; obtain ⟨X, hw''⟩ := hw'; subst hw''
  go_wp2_with fail
  refine bodyPost_ret (v := _) (by simp [results, Try.results25, go_sem] <;> rfl) rfl ⟨rfl, ?_⟩
  repeat (first | with_reducible exact Below.refl _ _ | with_reducible refine Below.setCell ?_ (by simp <;> omega) _ | with_reducible refine below_drewN ?_ _ | with_reducible refine Below.alloc ?_ (by simp <;> omega) _ | with_reducible refine Below.over ?_ (by simp <;> omega) _ | with_reducible refine Below.drew ?_)
theorem add_closed : loA 4607182418800017408 0 = 4607182418800017408 := by decide +kernel
theorem div_closed : spdiv 4607182418800017408 4607182418800017408 4611686018427387904 4611686018427387904 = (4602678819172646912, 4602678819172646912) := by decide +kernel
theorem eq_closed (w : World) : (binOp .eql 39 (v3v 4602678819172646912 4602678819172646912 4607182418800017408 4607182418800017408 4609434218613702656 4609434218613702656) (v3v 4602678819172646912 4602678819172646912 4607182418800017408 4607182418800017408 4609434218613702656 4609434218613702656)).run Try.prog w = .ok (.bool true) w := by kernel_rfl
set_option maxRecDepth 100000 in
theorem sof_b (x : Nat) (hf : fin x) (hx : x < 18446744073709551616) : Bl 37 #[.float .f64 x] (spv (pl x) (pl x)) := by
  intro w
  have N := number_q x hx
  rw [decide_eq_true hf] at N
  replace N := Lib.hid N
  have hk := fun W => run_float_arith (P := Try.prog) W .add 35 .f64 x 0 (pl x) (add_zero_pl hf.nn hx)
  clear hf hx
  generalize pl x = y at *
  go_enter Try.func37, Try.ntmps37
  go_wp2_with (first | ((with_reducible refine ((N.out).at _).mono ?_); rintro _ _ ⟨rfl, rfl⟩))
  refine bodyPost_ret (v := _) (by simp [results, Try.results37, go_sem] <;> rfl) rfl ⟨rfl, ?_⟩
  repeat (first | with_reducible exact Below.refl _ _ | with_reducible refine Below.setCell ?_ (by simp <;> omega) _ | with_reducible refine below_drewN ?_ _ | with_reducible refine Below.alloc ?_ (by simp <;> omega) _ | with_reducible refine Below.over ?_ (by simp <;> omega) _ | with_reducible refine Below.drew ?_)
def pxA : Px := ⟨⟨4607182418800017408, 4607182418800017408, 4611686018427387904, 4611686018427387904, 4613937818241073152, 4613937818241073152⟩, 2, 1⟩
theorem fin1 : fin 4607182418800017408 := by decide
theorem fin2 : fin 4611686018427387904 := by decide
theorem fin3 : fin 4613937818241073152 := by decide
theorem cl1 : Cl 4607182418800017408 := ⟨by omega, by decide, fun h => absurd h (by decide)⟩
theorem cl2 : Cl 4611686018427387904 := ⟨by omega, by decide, fun h => absurd h (by decide)⟩
theorem cl3 : Cl 4613937818241073152 := ⟨by omega, by decide, fun h => absurd h (by decide)⟩
theorem div_c2 : spdiv 4611686018427387904 4611686018427387904 4611686018427387904 4611686018427387904 = (4607182418800017408, 4607182418800017408) := by decide +kernel
theorem div_c3 : spdiv 4613937818241073152 4613937818241073152 4611686018427387904 4611686018427387904 = (4609434218613702656, 4609434218613702656) := by decide +kernel
set_option maxRecDepth 100000 in
theorem mean_b : Bl 17 #[pxA.v] (v3v 4602678819172646912 4602678819172646912 4607182418800017408 4607182418800017408 4609434218613702656 4609434218613702656) := by
  intro w
  have O := sof_b 4611686018427387904 fin2 (by omega)
  rw [show pl 4611686018427387904 = 4611686018427387904 by decide] at O
  have D1 := sdiv_b _ _ _ _ cl1 cl1 cl2 cl2
  have D2 := sdiv_b _ _ _ _ cl2 cl2 cl2 cl2
  have D3 := sdiv_b _ _ _ _ cl3 cl3 cl2 cl2
  rw [div_closed] at D1
  rw [div_c2] at D2
  rw [div_c3] at D3
  dsimp only at D1 D2 D3
  replace O := Lib.hid O
  replace D1 := Lib.hid D1
  replace D2 := Lib.hid D2
  replace D3 := Lib.hid D3
  unfold pxA Px.v
  dsimp only
  have e2 : floatOfInt FloatKind.f64 2 = 4611686018427387904 := by decide +kernel
  go_enter Try.func17, Try.ntmps17
  go_wp2_with (((with_reducible refine ((O.out).at _).mono ?_); rintro _ _ ⟨rfl, X1, rfl⟩))
  have y1 : ∀ Y : Ext, w.heap.size < w.heap.size + 1 + 1 + X1.n + 1 + Y.n := fun Y => by omega
  have y2 : ∀ Y : Ext, w.heap.size + 1 < w.heap.size + 1 + 1 + X1.n + 1 + Y.n := fun Y => by omega
  have y3 : w.heap.size < w.heap.size + 1 + 1 + X1.n + 1 := by omega
  have y4 : w.heap.size + 1 < w.heap.size + 1 + 1 + X1.n + 1 := by omega
  have y5 : w.heap.size < w.heap.size + 1 + 1 + X1.n := by omega
  have y6 : w.heap.size + 1 < w.heap.size + 1 + 1 + X1.n := by omega
  refine wp_region_lastD0 (List.cons_ne_nil _ _) (by kernel_rfl) (by kernel_rfl) (by kernel_rfl) ?_; simp only [List.dropLast_cons_cons, List.dropLast_singleton, List.getLast_cons_cons, List.getLast_singleton]
  repeat (first | go_big_quiet_step (first | (with_reducible exact D1.out.quiet _ _) | (with_reducible exact D2.out.quiet _ _) | (with_reducible exact D3.out.quiet _ _)) | quiet_step (first | (with_reducible exact D1.out.quiet _ _) | (with_reducible exact D2.out.quiet _ _) | (with_reducible exact D3.out.quiet _ _)))
  refine wpQuiet_nil ?_; intro _ hw'; obtain ⟨X, hw''⟩ := hw'; subst hw''
  go_wp2_with fail
  refine bodyPost_ret (v := _) (by simp [results, Try.results17, go_sem, y4, y6] <;> rfl) rfl ⟨rfl, ?_⟩
  repeat (first | with_reducible exact Below.refl _ _ | with_reducible refine Below.setCell ?_ (by simp <;> omega) _ | with_reducible refine below_drewN ?_ _ | with_reducible refine Below.alloc ?_ (by simp <;> omega) _ | with_reducible refine Below.over ?_ (by simp <;> omega) _ | with_reducible refine Below.drew ?_)
theorem fadd_00 {w : World} {fb ib pb : Nat} {px : Nat → Px} (h : FilmAt w fb ib pb 1 1 px) (s : C3) (c : Bool) (hp : (px 0).s.ok) (hs : s.ok) :
    Calls Try.prog 15 #[.pointer (some ⟨fb, 0, none⟩), .int .i64 0, .int .i64 0, smp s c] w fun e w' => e = .returned (.int .i64 0) ∧ FilmAt w' fb ib pb 1 1 (upd px 0 (padd (px 0) s c)) ∧ Kept (fun n => n = pb) w w' :=
  (fadd_yes h 0 0 (by omega) (by omega) (by omega) (by omega) s c hp hs).mono fun e w' ⟨he, X, hw⟩ => by
    subst hw
    exact ⟨he, (h.set (k := 0) (by omega) _).over X, (Kept.setCells (p := fun n => n = pb) w rfl _ _).trans (Kept.over _ _ _)⟩
theorem pixel_00 {w : World} {fb ib pb : Nat} {px : Nat → Px} (h : FilmAt w fb ib pb 1 1 px) :
    Calls Try.prog 12 #[.pointer (some ⟨fb, 0, none⟩), .int .i64 0, .int .i64 0] w fun e w' => e = .returned (.tuple #[(px 0).v, .int .i64 0]) ∧ ∃ X, w' = w.over X :=
  pixel_yes h 0 0 (by omega) (by omega) (by omega) (by omega)
def sA : C3 := ⟨4607182418800017408, 4607182418800017408, 4611686018427387904, 4611686018427387904, 4613937818241073152, 4613937818241073152⟩
def sZ : C3 := ⟨0, 0, 0, 0, 0, 0⟩
theorem px_closed : padd (padd pz sA true) sZ false = pxA := by kernel_rfl
theorem padd_ok (p : Px) (s : C3) (c : Bool) : (padd p s c).s.ok := ⟨(cl_loA _ _).b, (cl_hiA _ _).b, (cl_loA _ _).b, (cl_hiA _ _).b, (cl_loA _ _).b, (cl_hiA _ _).b⟩
theorem sA_ok : sA.ok := ⟨by decide, by decide, by decide, by decide, by decide, by decide⟩
theorem sZ_ok : sZ.ok := ⟨by decide, by decide, by decide, by decide, by decide, by decide⟩
theorem pz_ok : pz.s.ok := ⟨by decide, by decide, by decide, by decide, by decide, by decide⟩
set_option maxRecDepth 100000 in
set_option maxHeartbeats 1000000 in
theorem awake_b : Bl 7 #[] (.bool true) := by
  intro w
  have NF : Calls Try.prog 10 #[.int .i64 1, .int .i64 1] w (NewFilm w 1 1) := fnew_b w 1 1 (by omega) (by omega) (by omega) (by omega) (by omega)
  have O1 := rof3_b 4607182418800017408 4611686018427387904 4613937818241073152 fin1 fin2 fin3
  rw [show pl 4607182418800017408 = 4607182418800017408 by decide, show pl 4611686018427387904 = 4611686018427387904 by decide, show pl 4613937818241073152 = 4613937818241073152 by decide] at O1
  have O2 := rof3_b 4602678819172646912 4607182418800017408 4609434218613702656 (by decide) (by decide) (by decide)
  rw [show pl 4607182418800017408 = 4607182418800017408 by decide, show pl 4602678819172646912 = 4602678819172646912 by decide, show pl 4609434218613702656 = 4609434218613702656 by decide] at O2
  have M := mean_b
  unfold pxA Px.v at M
  dsimp only at M
  replace NF := Lib.hid NF
  replace O1 := Lib.hid O1
  replace O2 := Lib.hid O2
  replace M := Lib.hid M
  have EQ := fun W => eq_closed W
  go_enter Try.func7, Try.ntmps7
  go_wp2_with ((with_reducible refine (NF.out).mono ?_); rintro _ w1 ⟨fb, ib, pb, rfl, hf, hb, l1, l2, l3⟩)
  have B1 := Lib.hid hb
  have hp1 : (upd (fun _ => pz) 0 (padd pz sA true) 0) = padd pz sA true := by unfold upd; rw [if_pos rfl]
  have hp2 : (upd (upd (fun _ => pz) 0 (padd pz sA true)) 0 (padd (upd (fun _ => pz) 0 (padd pz sA true) 0) sZ false) 0) = pxA := by rw [hp1]; unfold upd; rw [if_pos rfl]; exact px_closed
  have A1 := fun W' (hW : FilmAt W' fb ib pb 1 1 (fun _ => pz)) => fadd_00 hW sA true pz_ok sA_ok
  have A2 := fun W' (hW : FilmAt W' fb ib pb 1 1 (upd (fun _ => pz) 0 (padd pz sA true))) => fadd_00 hW sZ false (by rw [hp1]; exact padd_ok _ _ _) sZ_ok
  have P1 := fun W' (hW : FilmAt W' fb ib pb 1 1 (upd (upd (fun _ => pz) 0 (padd pz sA true)) 0 (padd (upd (fun _ => pz) 0 (padd pz sA true) 0) sZ false))) => pixel_00 hW
  rw [hp2] at P1
  generalize upd (upd (fun _ => pz) 0 (padd pz sA true)) 0 (padd (upd (fun _ => pz) 0 (padd pz sA true) 0) sZ false) = g2 at *
  generalize upd (fun _ => pz) 0 (padd pz sA true) = g1 at *
  unfold smp sA at A1
  unfold smp sZ at A2
  unfold pxA Px.v at P1
  dsimp only at A1 A2 P1
  replace A1 := Lib.hid A1
  replace A2 := Lib.hid A2
  replace P1 := Lib.hid P1
  have F1 := Lib.hid hf
  clear hf hb hp1 hp2
  go_wp2_with (first | ((with_reducible refine ((O1.out).at _).mono ?_); rintro _ _ ⟨rfl, X1, rfl⟩) | ((with_reducible refine (A1.out _ (F1.out.over _)).mono ?_); rintro _ w2 ⟨rfl, hf2, hk2⟩) | ((with_reducible refine (A2.out _ ?_).mono ?_); (assumption); rintro _ w3 ⟨rfl, hf3, hk3⟩) | ((with_reducible refine (P1.out _ ?_).mono ?_); (assumption); rintro _ _ ⟨rfl, X4, rfl⟩) | ((with_reducible refine ((M.out).at _).mono ?_); rintro _ _ ⟨rfl, X5, rfl⟩) | ((with_reducible refine ((O2.out).at _).mono ?_); rintro _ _ ⟨rfl, X6, rfl⟩))
  go_ret
  have Z : Below w.heap.size w w3 := (B1.out.over B1.out.size X1).trans ((hk2.trans hk3).below (by rw [World.over_size]; have := B1.out.size; omega) (fun b hb e => by omega))
  have z := Z.size
  exact ⟨rfl, ((Z.over z _).alloc (by simp; omega) _).over (by simp; omega) _⟩
end Go.Proofs.Ytknijppdnfcknaa
