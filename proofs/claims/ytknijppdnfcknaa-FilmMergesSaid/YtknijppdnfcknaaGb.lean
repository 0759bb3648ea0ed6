/- Walks of layer 7: the image of pixels. -/
import Derived.Test.YtknijppdnfcknaaWb
import Derived.Test.YtknijppdnfcknaaGa
import Derived.Test.YtknijppdnfcknaaWz
import Derived.Laws.MakeOwn
namespace Go.Proofs.Ytknijppdnfcknaa
open Go.RowKit

theorem drewN_over (w : World) (n : Nat) : ∃ X, w.drewN n = w.over X := ⟨⟨#[], (w.drewN n).drawn⟩, by simp [World.over, World.drewN]⟩

set_option maxRecDepth 100000 in
theorem inside_yes {w : World} {ib pb W H : Nat} {px : Nat → Px} (h : ImgAt w ib pb W H px) (x y : Int) (hx0 : 0 ≤ x) (hx : x < W) (hy0 : 0 ≤ y) (hy : y < H) :
    Calls Try.prog 51 #[.pointer (some ⟨ib, 0, none⟩), .int .i64 x, .int .i64 y] w fun e w' => e = .returned (.bool true) ∧ w = w' := by
  have c0 := h.c0
  have c1 := h.c1
  clear h
  go_enter Try.func51, Try.ntmps51
  go_wp2
  go_ret
  exact ⟨rfl, rfl⟩
set_option maxRecDepth 100000 in
theorem isize_b {w : World} {ib pb W H : Nat} {px : Nat → Px} (h : ImgAt w ib pb W H px) :
    Calls Try.prog 29 #[.pointer (some ⟨ib, 0, none⟩)] w fun e w' => e = .returned (.tuple #[.int .i64 W, .int .i64 H]) ∧ ∃ X, w' = w.over X := by
  have c0 := h.c0
  have c1 := h.c1
  clear h
  go_enter Try.func29, Try.ntmps29
  go_wp2_with fail
  go_quiet (fail)
  go_wp2_with fail
  go_ret2
  exact ⟨rfl, drewN_over _ _⟩
theorem place_wrap {w : World} {ib pb W H : Nat} {px : Nat → Px} (h : ImgAt w ib pb W H px) {x y : Int} (hx0 : 0 ≤ x) (hx : x < W) (hy0 : 0 ≤ y) (hy : y < H) :
    ∃ m k : Int, wrap64 (y * W) = m ∧ wrap64 (m + x) = k ∧ k = y * W + x ∧ 0 ≤ k ∧ k < ((W * H : Nat) : Int) := by
  obtain ⟨p1, p2, p3, p4, p5⟩ := place_lt hx0 hx hy0 hy
  have hb : W * H ≤ 1024 * 1024 := Nat.mul_le_mul h.w2 h.h2
  have e : (W : Int) * H = ((W * H : Nat) : Int) := by simp
  rw [e] at p3 p5
  refine ⟨y * W, y * W + x, ?_, ?_, rfl, p2, p3⟩ <;> (generalize y * (W : Int) = q at *; unfold wrap64; omega)
set_option maxRecDepth 100000 in

theorem at_yes {w : World} {ib pb W H : Nat} {px : Nat → Px} (h : ImgAt w ib pb W H px) (x y : Int) (hx0 : 0 ≤ x) (hx : x < W) (hy0 : 0 ≤ y) (hy : y < H) :
    Calls Try.prog 30 #[.pointer (some ⟨ib, 0, none⟩), .int .i64 x, .int .i64 y] w fun e w' => e = .returned (.tuple #[(px (y * W + x).toNat).v, .int .i64 0]) ∧ ∃ X, w' = w.over X := by
  have I := Lib.hid h
  have c0 := h.c0
  have c1 := h.c1
  have c2 := h.c2
  have lt := h.lt
  obtain ⟨m, k, wa, wb, hk, k0, k1⟩ := place_wrap h hx0 hx hy0 hy
  rw [← hk]
  obtain ⟨d0, d1, d2, d3, d4, d5, d6, d7⟩ := h.pix.cells8 (k := k.toNat) (by omega)
  have lp := h.pix.lt
  clear hk h
  generalize px k.toNat = p at *
  obtain ⟨⟨p0, p1, p2, p3, p4, p5⟩, p6, p7⟩ := p
  unfold Px.v
  simp only at *
  go_enter Try.func30, Try.ntmps30
  go_wp2_with ((with_reducible refine (inside_yes (px := px) (W := W) (H := H) (pb := pb) ?_ _ _ hx0 hx hy0 hy).mono ?_); (repeat (first | exact I.out | refine ImgAt.alloc ?_ _ | refine ImgAt.over ?_ _ | refine ImgAt.drew ?_ | refine ImgAt.drewN ?_ _)); rintro _ _ ⟨rfl, rfl⟩)
  refine wp_region_tailQ 14 (by kernel_rfl) (by kernel_rfl) (by kernel_rfl) (by kernel_rfl) ?_; simp only [List.take_succ_cons, List.take_zero, List.drop_succ_cons, List.drop_zero]
  repeat (first | go_big_quiet_step (fail) | quiet_step (fail))
  refine wpQuiet_nil ?_; intro _ hw'; obtain ⟨nq, hw''⟩ := hw'; subst hw''
  go_wp2_with fail
  refine bodyPost_ret (v := _) (by simp [results, Try.results30, go_sem] <;> rfl) rfl ⟨rfl, ?_⟩
  refine Below.is_over ?_
  repeat (first | with_reducible exact Below.refl _ _ | with_reducible refine Below.setCell ?_ (by simp <;> omega) _ | with_reducible refine below_drewN ?_ _ | with_reducible refine Below.alloc ?_ (by simp <;> omega) _ | with_reducible refine Below.over ?_ (by simp <;> omega) _ | with_reducible refine Below.drew ?_)
set_option maxRecDepth 100000 in
theorem inside_no {w : World} {ib pb W H : Nat} {px : Nat → Px} (h : ImgAt w ib pb W H px) (x y : Int) (hn : ¬ (0 ≤ x ∧ x < W ∧ 0 ≤ y ∧ y < H)) :
    Calls Try.prog 51 #[.pointer (some ⟨ib, 0, none⟩), .int .i64 x, .int .i64 y] w fun e w' => e = .returned (.bool false) ∧ w = w' := by
  have c0 := h.c0
  have c1 := h.c1
  clear h
  by_cases h1 : 0 ≤ x
  · by_cases h2 : x < W
    · by_cases h3 : 0 ≤ y
      · have h4 : ¬ y < H := fun h4 => hn ⟨h1, h2, h3, h4⟩
        clear hn
        go_enter Try.func51, Try.ntmps51
        go_wp2
        go_ret
        exact ⟨rfl, rfl⟩
      · clear hn
        go_enter Try.func51, Try.ntmps51
        go_wp2
        go_ret
        exact ⟨rfl, rfl⟩
    · clear hn
      go_enter Try.func51, Try.ntmps51
      go_wp2
      go_ret
      exact ⟨rfl, rfl⟩
  · clear hn
    go_enter Try.func51, Try.ntmps51
    go_wp2
    go_ret
    exact ⟨rfl, rfl⟩
set_option maxRecDepth 100000 in
theorem at_no {w : World} {ib pb W H : Nat} {px : Nat → Px} (h : ImgAt w ib pb W H px) (x y : Int) (hn : ¬ (0 ≤ x ∧ x < W ∧ 0 ≤ y ∧ y < H)) :
    Calls Try.prog 30 #[.pointer (some ⟨ib, 0, none⟩), .int .i64 x, .int .i64 y] w fun e w' => e = .returned (.tuple #[pz.v, .int .i64 2]) ∧ ∃ X, w' = w.over X := by
  have I := Lib.hid h
  have N := Lib.hid hn
  have lt := h.lt
  clear h hn
  unfold pz Px.v
  go_enter Try.func30, Try.ntmps30
  go_wp2_with ((with_reducible refine (inside_no (px := px) (W := W) (H := H) (pb := pb) ?_ _ _ N.out).mono ?_); (repeat (first | exact I.out | refine ImgAt.alloc ?_ _ | refine ImgAt.over ?_ _ | refine ImgAt.drew ?_ | refine ImgAt.drewN ?_ _)); rintro _ _ ⟨rfl, rfl⟩)
  refine bodyPost_ret (v := _) (by simp [results, Try.results30, go_sem] <;> rfl) rfl ⟨rfl, ?_⟩
  refine Below.is_over ?_
  repeat (first | with_reducible exact Below.refl _ _ | with_reducible refine Below.setCell ?_ (by simp <;> omega) _ | with_reducible refine below_drewN ?_ _ | with_reducible refine Below.alloc ?_ (by simp <;> omega) _ | with_reducible refine Below.over ?_ (by simp <;> omega) _ | with_reducible refine Below.drew ?_)
set_option maxRecDepth 100000 in
theorem set_yes {w : World} {ib pb W H : Nat} {px : Nat → Px} (h : ImgAt w ib pb W H px) (x y : Int) (hx0 : 0 ≤ x) (hx : x < W) (hy0 : 0 ≤ y) (hy : y < H) (p : Px) :
    Calls Try.prog 31 #[.pointer (some ⟨ib, 0, none⟩), .int .i64 x, .int .i64 y, p.v] w fun e w' => e = .returned (.int .i64 0) ∧ ∃ X, w' = (w.setCells pb ((y * W + x).toNat * 8) p.cells).over X := by
  have I := Lib.hid h
  have c0 := h.c0
  have c1 := h.c1
  have c2 := h.c2
  have lt := h.lt
  obtain ⟨m, k, wa, wb, hk, k0, k1⟩ := place_wrap h hx0 hx hy0 hy
  rw [← hk]
  obtain ⟨d0, d1, d2, d3, d4, d5, d6, d7⟩ := h.pix.cells8 (k := k.toNat) (by omega)
  obtain ⟨f0, f1, f2, f3, f4, f5, f6, f7⟩ := h.pix.froz8 (k := k.toNat) (by omega)
  have lp := h.pix.lt
  have S8 := Lib.hid (fun W' v0 v1 v2 v3 v4 v5 v6 v7 => @set8_over w W' pb (k.toNat * 8) v0 v1 v2 v3 v4 v5 v6 v7)
  clear hk h
  generalize px k.toNat = q at *
  obtain ⟨⟨q0, q1, q2, q3, q4, q5⟩, q6, q7⟩ := q
  obtain ⟨⟨p0, p1, p2, p3, p4, p5⟩, p6, p7⟩ := p
  unfold Px.v Px.cells
  simp only at *
  go_enter Try.func31, Try.ntmps31
  go_wp2_with ((with_reducible refine (inside_yes (px := px) (W := W) (H := H) (pb := pb) ?_ _ _ hx0 hx hy0 hy).mono ?_); (repeat (first | exact I.out | refine ImgAt.alloc ?_ _ | refine ImgAt.over ?_ _ | refine ImgAt.drew ?_ | refine ImgAt.drewN ?_ _)); rintro _ _ ⟨rfl, rfl⟩)
  refine wp_region_tailQ 14 (by kernel_rfl) (by kernel_rfl) (by kernel_rfl) (by kernel_rfl) ?_; simp only [List.take_succ_cons, List.take_zero, List.drop_succ_cons, List.drop_zero]
  repeat (first | go_big_quiet_step (fail) | quiet_step (fail))
  refine wpQuiet_nil ?_; intro _ hw'; obtain ⟨nq, hw''⟩ := hw'; subst hw''
  go_wp2_with fail
  go_ret
  refine ⟨rfl, S8.out _ _ _ _ _ _ _ _ _ ?_ lp⟩
  refine Below.is_over ?_
  repeat (first | with_reducible exact Below.refl _ _ | with_reducible refine Below.setCell ?_ (by simp <;> omega) _ | with_reducible refine below_drewN ?_ _ | with_reducible refine Below.alloc ?_ (by simp <;> omega) _ | with_reducible refine Below.over ?_ (by simp <;> omega) _ | with_reducible refine Below.drew ?_)
theorem infoPx : (Try.prog.info? 41).map (fun i => (i.zero, i.size, i.bytes)) = some (some pz.v, 8, 64) := by kernel_rfl
theorem makePx (n : Nat) (hn : n ≤ 1048576) (w : World) : (Instr.makeSlice 28 (.int .i64 (n : Int)) (.int .i64 (n : Int))).run Try.prog w =
    .ok (.slice (some ⟨w.heap.size, 0, none⟩) n n) (w.alloc (.cells (madeCells pz.cells.toArray (n * 8)) 41)) := by
  obtain ⟨i, hi, hzz⟩ := Option.map_eq_some_iff.1 infoPx
  simp only [Prod.mk.injEq] at hzz
  obtain ⟨hz, hs, hb⟩ := hzz
  have hr := run_make (P := Try.prog) w 28 41 i pz.v Try.underlying28 hi hz .i64 .i64 n n (by omega) (Int.le_refl _) (by rw [hb]; omega) (by omega)
  simp only [Int.toNat_natCast, hs] at hr
  exact hr
theorem madePx {n i : Nat} (hi : i < n) {j : Nat} {v : Value} (h : pz.cells[j]? = some v) : (madeCells pz.cells.toArray (n * 8))[i * 8 + j]? = some v := by
  have hj : j < 8 := (List.getElem?_eq_some_iff.1 h).1
  unfold madeCells
  have e8 : pz.cells.toArray.size = 8 := rfl
  rw [Array.getElem?_map, Array.getElem?_range, if_pos (by omega)]
  simp only [Option.map_some, e8]
  rw [show (i * 8 + j) % 8 = j by omega, ← h]
  rw [getElem!_pos pz.cells.toArray j (by rw [e8]; exact hj)]
  simp
/-- New -/
def NewImg (w : World) (W H : Nat) (e : Ending) (w' : World) : Prop :=
  ∃ ib pb, e = .returned (.tuple #[.pointer (some ⟨ib, 0, none⟩), .int .i64 0]) ∧ ImgAt w' ib pb W H (fun _ => pz) ∧ Below w.heap.size w w' ∧ w.heap.size ≤ ib ∧ w.heap.size ≤ pb
set_option maxRecDepth 100000 in
theorem new_b (w : World) (W H : Nat) (w1 : 1 ≤ W) (w2 : W ≤ 1024) (h1 : 1 ≤ H) (h2 : H ≤ 1024) (hp : W * H ≤ 65536) :
    Calls Try.prog 28 #[.int .i64 (W : Int), .int .i64 (H : Int)] w (NewImg w W H) := by
  have e : wrap64 ((W : Int) * H) = ((W * H : Nat) : Int) := by
    have e' : (W : Int) * H = ((W * H : Nat) : Int) := by simp
    rw [e']; unfold wrap64; omega
  have mk := Lib.hid (fun w => PixAt.made (w := w) (n := W * H) (cs := madeCells pz.cells.toArray (W * H * 8)) (T := 41) (size_madeCells _ _) (fun i hi j v h => madePx hi h))
  obtain ⟨N, hN'⟩ : ∃ N, W * H = N := ⟨W * H, rfl⟩
  rw [hN'] at e hp mk
  have hN := Lib.hid hN'
  clear hN'
  have hm := fun w => makePx N (by omega) w
  have g1 : decide ((W : Int) < 1) = false := by simp; omega
  have g2 : decide ((H : Int) < 1) = false := by simp; omega
  have g3 : decide ((1024 : Int) < W) = false := by simp; omega
  have g4 : decide ((1024 : Int) < H) = false := by simp; omega
  have g5 : decide ((65536 : Int) < ((N : Nat) : Int)) = false := by simp only [decide_eq_false_iff_not]; omega
  have P1 := Lib.hid (And.intro (And.intro w1 w2) (And.intro h1 h2))
  clear w1 w2 h1 h2 hp
  go_enter Try.func28, Try.ntmps28
  go_wp2_with fail
  go_ret2
  obtain ⟨⟨w1, w2⟩, h1, h2⟩ := P1.out
  refine ⟨w.heap.size + 1, w.heap.size, rfl, ?_, ?_, by omega, by omega⟩
  · have hs : (w.alloc (.cells (madeCells pz.cells.toArray (N * 8)) 41)).heap.size = w.heap.size + 1 := by simp
    have hb : ∀ o : Obj, ((w.alloc (.cells (madeCells pz.cells.toArray (N * 8)) 41)).alloc o).heap[w.heap.size + 1]? = some o := fun o => by rw [← hs]; exact heap_alloc_last _ o
    refine ⟨by simp, ?_, ?_, ?_, by omega, w1, w2, h1, h2, ?_⟩
    · rw [cell_of_row _ _ _ _ _ _ (hb _)]; rfl
    · rw [cell_of_row _ _ _ _ _ _ (hb _)]; rfl
    · rw [cell_of_row _ _ _ _ _ _ (hb _), hN.out]; rfl
    · rw [hN.out]; exact (mk.out w).kept (Kept.alloc (fun _ => False) _ _) id
  · repeat (first | with_reducible exact Below.refl _ _ | with_reducible refine Below.setCell ?_ (by simp <;> omega) _ | with_reducible refine below_drewN ?_ _ | with_reducible refine Below.alloc ?_ (by simp <;> omega) _ | with_reducible refine Below.over ?_ (by simp <;> omega) _ | with_reducible refine Below.drew ?_)
end Go.Proofs.Ytknijppdnfcknaa
