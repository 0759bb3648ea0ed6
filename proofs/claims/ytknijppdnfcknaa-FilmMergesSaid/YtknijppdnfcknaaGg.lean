/- The law's drops: a film and the document's pixels, side by side. -/
import Derived.Test.YtknijppdnfcknaaGe
import Derived.Test.YtknijppdnfcknaaGf
import Derived.Test.YtknijppdnfcknaaSb
namespace Go.Proofs.Ytknijppdnfcknaa
open Go.RowKit FF

theorem C3.add_ok (s t : C3) : (s.add t).ok := ⟨(cl_loA _ _).b, (cl_hiA _ _).b, (cl_loA _ _).b, (cl_hiA _ _).b, (cl_loA _ _).b, (cl_hiA _ _).b⟩
/-- does a sample fall onto the film? -/
def Dr.inn (d : Dr) (W H : Nat) : Prop := 0 ≤ d.x ∧ d.x < W ∧ 0 ≤ d.y ∧ d.y < H
instance (d : Dr) (W H : Nat) : Decidable (d.inn W H) := by unfold Dr.inn; infer_instance
def Dr.at (d : Dr) (W : Nat) : Nat := (d.y * W + d.x).toNat
/-- the pixels behind the first k samples -/
def dropF (W H : Nat) (dr : Nat → Dr) : Nat → Nat → Px
  | 0 => fun _ => pz
  | k + 1 => if (dr k).inn W H then upd (dropF W H dr k) ((dr k).at W) (padd (dropF W H dr k ((dr k).at W)) (dr k).l (!(dr k).dim)) else dropF W H dr k
theorem dropF_ok (W H : Nat) (dr : Nat → Dr) (k i : Nat) : (dropF W H dr k i).s.ok := by
  induction k generalizing i with
  | zero => exact (⟨by decide, by decide, by decide, by decide, by decide, by decide⟩ : pz.s.ok)
  | succ k ih =>
    unfold dropF
    split
    · unfold upd
      split
      · exact C3.add_ok _ _
      · exact ih i
    · exact ih i
theorem dropF_in {W H : Nat} {dr : Nat → Dr} {k : Nat} (h : (dr k).inn W H) : dropF W H dr (k + 1) = upd (dropF W H dr k) ((dr k).at W) (padd (dropF W H dr k ((dr k).at W)) (dr k).l (!(dr k).dim)) := by
  rw [dropF, if_pos h]
theorem dropF_out {W H : Nat} {dr : Nat → Dr} {k : Nat} (h : ¬ (dr k).inn W H) : dropF W H dr (k + 1) = dropF W H dr k := by
  rw [dropF, if_neg h]
/-- what dropped comes to -/
def DropPost (w : World) (W H n : Nat) (dr : Nat → Dr) (e : Ending) (w' : World) : Prop :=
  ∃ fb ib pb wb, e = .returned (.tuple #[.pointer (some ⟨fb, 0, none⟩), .slice (some ⟨wb, 0, none⟩) (W * H) (W * H), .bool true]) ∧
    FilmAt w' fb ib pb W H (dropF W H dr (min n 200)) ∧ PixAt w' wb (W * H) (dropF W H dr (min n 200)) ∧ Below w.heap.size w w' ∧
    w.heap.size ≤ fb ∧ w.heap.size ≤ ib ∧ w.heap.size ≤ pb ∧ w.heap.size ≤ wb ∧ wb ≠ fb ∧ wb ≠ ib ∧ wb ≠ pb
def DropRel (w : World) (fb ib pb wb W H n : Nat) (dr : Nat → Dr) (i : Value) (wr : World) : Prop :=
  ∃ k : Nat, k ≤ n ∧ k ≤ 200 ∧ i = .int .i64 k ∧ FilmAt wr fb ib pb W H (dropF W H dr k) ∧ PixAt wr wb (W * H) (dropF W H dr k) ∧ Below w.heap.size w wr
theorem PixAt.other {w : World} {b n : Nat} {px : Nat → Px} (h : PixAt w b n px) {b' : Nat} (hb : b ≠ b') (o : Nat) (vs : List Value) : PixAt (w.setCells b' o vs) b n px :=
  h.kept (Kept.setCells (p := fun m => m = b') w rfl o vs) hb
theorem PixAt.alloc {w : World} {b n : Nat} {px : Nat → Px} (h : PixAt w b n px) (o : Obj) : PixAt (w.alloc o) b n px := h.kept (Kept.alloc (fun _ => False) w o) id
theorem FilmAt.other {w : World} {fb ib pb W H : Nat} {px : Nat → Px} (h : FilmAt w fb ib pb W H px) {b' : Nat} (h1 : fb ≠ b') (h2 : ib ≠ b') (h3 : pb ≠ b') (o : Nat) (vs : List Value) : FilmAt (w.setCells b' o vs) fb ib pb W H px :=
  h.kept (Kept.setCells (p := fun m => m = b') w rfl o vs) h1 h2 h3
theorem Blk.other {w : World} {b b' : Nat} {cs : List Value} (h : Blk w b cs) (hb : b ≠ b') (hc : cs ≠ []) (o : Nat) (vs : List Value) : Blk (w.setCells b' o vs) b cs :=
  h.kept (Kept.setCells (p := fun m => m = b') w rfl o vs) hb hc
theorem below_sets {B : Nat} {a w : World} (h : Below B a w) {b : Nat} (hb : B ≤ b) (o : Nat) (vs : List Value) : Below B a (w.setCells b o vs) := by
  induction vs generalizing w o with
  | nil => exact h
  | cons v r ih => rw [World.setCells]; exact ih (h.setCell hb _) _
set_option maxRecDepth 100000 in
set_option maxHeartbeats 4000000 in
theorem dropped_b {w : World} {db o n : Nat} {dr : Nat → Dr} (h : DrAt w db o n dr) (cap W H : Nat) (w1 : 1 ≤ W) (w2 : W ≤ 1024) (h1 : 1 ≤ H) (h2 : H ≤ 1024) (hp : W * H ≤ 65536) :
    Calls Try.prog 9 #[.int .i64 (W : Int), .int .i64 (H : Int), .slice (some ⟨db, o, none⟩) n cap] w (DropPost w W H n dr) := by
  have D := Lib.hid h
  have len := h.len
  have lt := h.lt
  have NF := Lib.hid (fnew_b w W H w1 w2 h1 h2 hp)
  have e : wrap64 ((W : Int) * H) = ((W * H : Nat) : Int) := by
    have e' : (W : Int) * H = ((W * H : Nat) : Int) := by simp
    rw [e']; unfold wrap64; omega
  have mk := Lib.hid (fun w => PixAt.made (w := w) (n := W * H) (cs := madeCells pz.cells.toArray (W * H * 8)) (T := 41) (size_madeCells _ _) (fun i hi j v h => madePx hi h))
  obtain ⟨N, hN'⟩ : ∃ N, W * H = N := ⟨W * H, rfl⟩
  rw [hN'] at e hp mk
  have hN := Lib.hid hN'
  have HW := Lib.hid (And.intro (And.intro w1 w2) (And.intro h1 h2))
  clear hN' h w1 w2 h1 h2
  have hm := fun w => makePx N (by omega) w
  go_enter Try.func9, Try.ntmps9
  go_wp2_with ((with_reducible refine (NF.out).mono ?_); rintro _ w1 ⟨fb, ib, pb, rfl, hf, hb, l1, l2, l3⟩)
  have F1 := Lib.hid hf
  have B1 := Lib.hid hb
  have sz1 := hb.size
  have k1 := hf.lt
  have k2 := hf.img.lt
  have k3 := hf.img.pix.lt
  clear hf hb
  go_wp2_with fail
  have R0 : DropRel w fb ib pb w1.heap.size W H n dr (.int .i64 ((0 : Nat) : Int)) (w1.alloc (.cells (madeCells pz.cells.toArray (N * 8)) 41)) :=
    ⟨0, by omega, by omega, rfl, F1.out.alloc _, by rw [hN.out]; exact mk.out w1, B1.out.alloc sz1 _⟩
  replace R0 := Lib.hid R0
  clear hm mk
  clear F1 B1
  generalize w1.heap.size = wb at *
  rw [e]
  clear e
  go_loopw [12] (fun i wr => DropRel w fb ib pb wb W H n dr i wr) (fun i _ => n - (intOf i).toNat)
  case atStart => exact R0.out
  case round =>
    obtain ⟨k, hk, hk2, rfl, hF, hP, hB⟩ := hrel
    have HF := Lib.hid hF
    have HP := Lib.hid hP
    have HB := Lib.hid hB
    have DD := Lib.hid (D.out.of_block (hB.block _ lt))
    clear hF hP hB R0
    by_cases hlt : k < n
    · by_cases hlt2 : k < 200
      · obtain ⟨c0, c1, c2, c3, c4, c5, c6, c7, c8⟩ := DD.out.cells9 hlt
        have lt2 := DD.out.lt
        by_cases hin : (dr k).inn W H
        · obtain ⟨x0, x1, y0, y1⟩ := id hin
          have E1 := dropF_in hin
          obtain ⟨m, kk, wa, wb', hkk, kk0, kk1⟩ := place_wrap HF.out.img x0 x1 y0 y1
          have AD := fun W' (hW : FilmAt W' fb ib pb W H (dropF W H dr k)) => fadd_yes hW (dr k).x (dr k).y x0 x1 y0 y1 (dr k).l (!(dr k).dim) (dropF_ok _ _ _ _ _) (DD.out.ok k hlt)
          have RA := radd_px (dropF W H dr k kk.toNat) (dr k).l (!(dr k).dim) (dropF_ok _ _ _ _ _) (DD.out.ok k hlt)
          unfold Dr.at at E1
          rw [hN.out] at kk1
          simp only [← hkk] at AD E1
          have HI := HP.out
          rw [hN.out] at HI
          obtain ⟨e0, e1, e2, e3, e4, e5, e6, e7⟩ := HI.cells8 (k := kk.toNat) (by omega)
          obtain ⟨f0, f1, f2, f3, f4, f5, f6, f7⟩ := HI.froz8 (k := kk.toNat) (by omega)
          have ltw := HI.lt
          have HP' := Lib.hid HI
          clear HI hin hkk
          replace E1 := Lib.hid E1
          replace AD := Lib.hid AD
          replace RA := Lib.hid RA
          generalize dropF W H dr k = P at *
          generalize hpk : P kk.toNat = p at *
          generalize hr : padd p (dr k).l (!(dr k).dim) = r at *
          clear hr
          obtain ⟨⟨p0, p1, p2, p3, p4, p5⟩, p6, p7⟩ := p
          obtain ⟨⟨r0, r1, r2, r3, r4, r5⟩, r6, r7⟩ := r
          replace hpk := Lib.hid hpk
          unfold smp at AD RA
          unfold Px.v at RA
          generalize (dr k).l.a = s0 at *
          generalize (dr k).l.b = s1 at *
          generalize (dr k).l.c = s2 at *
          generalize (dr k).l.d = s3 at *
          generalize (dr k).l.e = s4 at *
          generalize (dr k).l.f = s5 at *
          generalize (dr k).x = x at *
          generalize (dr k).y = y at *
          generalize (dr k).dim = dm at *
          simp only at *
          go_wp2_with ((with_reducible refine (AD.out _ ?_).mono ?_); (repeat (first | exact HF.out | refine FilmAt.alloc ?_ _ | refine FilmAt.over ?_ _ | refine FilmAt.drew ?_ | refine FilmAt.drewN ?_ _)); rintro _ _ ⟨rfl, X1, rfl⟩)
          have lb := HB.out.size
          have g1 : pb ≠ wr.heap.size := by have := HF.out.img.pix.lt; omega
          have g2 : pb ≠ wr.heap.size + 1 := by have := HF.out.img.pix.lt; omega
          have g3 : wb ≠ pb := by omega
          refine wp_any_world (fun U => FilmAt U fb ib pb W H (upd P kk.toNat ⟨⟨r0, r1, r2, r3, r4, r5⟩, r6, r7⟩) ∧ PixAt U wb N P ∧
            Blk U wr.heap.size [.int .i64 x, .int .i64 y, .float .f64 s0, .float .f64 s1, .float .f64 s2, .float .f64 s3, .float .f64 s4, .float .f64 s5, .bool dm] ∧
            Blk U (wr.heap.size + 1) [.float .f64 s0, .float .f64 s1, .float .f64 s2, .float .f64 s3, .float .f64 s4, .float .f64 s5, .bool (!dm), .slice none 0 0] ∧ Below w.heap.size w U ∧ wr.heap.size < U.heap.size) ?_ ?_
          · refine ⟨(((HF.out.alloc _).alloc _).set (by rw [hN.out]; omega) _).over _, (((HP'.out.alloc _).alloc _).other g3 _ _).over _, ((((Blk.new wr _ _).alloc (by simp) _).other (Ne.symm g1) (by simp) _ _).over (by simp) _), ?_, ?_, ?_⟩
            · have := Blk.new (wr.alloc (.cells #[.int .i64 x, .int .i64 y, .float .f64 s0, .float .f64 s1, .float .f64 s2, .float .f64 s3, .float .f64 s4, .float .f64 s5, .bool dm] 52)) #[.float .f64 s0, .float .f64 s1, .float .f64 s2, .float .f64 s3, .float .f64 s4, .float .f64 s5, .bool (!dm), .slice none 0 0] 55
              rw [World.size_alloc] at this
              exact (this.other (Ne.symm g2) (by simp) _ _).over (by simp) _
            · exact (below_sets ((HB.out.alloc lb _).alloc (by simp; omega) _) (by omega) _ _).over (by rw [World.size_setCells]; simp; omega) _
            · rw [World.over_size, World.size_setCells]; simp; omega
          clear c0 c1 c2 c3 c4 c5 c6 c7 c8 e0 e1 e2 e3 e4 e5 e6 e7 f0 f1 f2 f3 f4 f5 f6 f7 g1 g2 AD HF HP HP' HB lb x0 x1 y0 y1 lt2
          generalize wr.heap.size = t13 at *
          rintro U ⟨hU, hPU, A13, A14, hBU, ZU⟩
          have HF := Lib.hid hU
          have HP := Lib.hid hPU
          have HB := Lib.hid hBU
          have a0 := A13.1 0 _ rfl
          have a1 := A13.1 1 _ rfl
          have b0 := A14.1 0 _ rfl
          have b1 := A14.1 1 _ rfl
          have b2 := A14.1 2 _ rfl
          have b3 := A14.1 3 _ rfl
          have b4 := A14.1 4 _ rfl
          have b5 := A14.1 5 _ rfl
          have b6 := A14.1 6 _ rfl
          have b7 := A14.1 7 _ rfl
          simp only [Nat.zero_add] at a0 a1 b0 b1 b2 b3 b4 b5 b6 b7
          have z14 := A14.lt (by simp)
          obtain ⟨e0, e1, e2, e3, e4, e5, e6, e7⟩ := hPU.cells8 (k := kk.toNat) (by omega)
          obtain ⟨f0, f1, f2, f3, f4, f5, f6, f7⟩ := hPU.froz8 (k := kk.toNat) (by omega)
          have zw := hPU.lt
          have lb := hBU.size
          clear hU hPU hBU A13 A14
          rw [hpk.out] at e0 e1 e2 e3 e4 e5 e6 e7
          have S8 := Lib.hid (fun W' v0 v1 v2 v3 v4 v5 v6 v7 => @set8_over U W' wb (kk.toNat * 8) v0 v1 v2 v3 v4 v5 v6 v7)
          clear hpk
          refine wp_region_lastD0 (List.cons_ne_nil _ _) (by kernel_rfl) (by kernel_rfl) (by kernel_rfl) ?_; simp only [List.dropLast_cons_cons, List.dropLast_singleton, List.getLast_cons_cons, List.getLast_singleton]
          repeat (first | go_big_quiet_step (with_reducible exact RA.out.quiet _ _) | quiet_step (with_reducible exact RA.out.quiet _ _))
          refine wpQuiet_nil ?_; intro _ hw'; obtain ⟨X, hw''⟩ := hw'; subst hw''
          go_wp2_with fail
          go_roundw
          case rel =>
            obtain ⟨X', hX'⟩ := S8.out U (.float .f64 r0) (.float .f64 r1) (.float .f64 r2) (.float .f64 r3) (.float .f64 r4) (.float .f64 r5) (.int .i64 r6) (.int .i64 r7) ⟨_, over_refl U⟩ zw
            rw [hX']
            refine ⟨k + 1, by omega, by omega, by go_num, ?_, ?_, ?_⟩
            · rw [E1.out]; exact ((HF.out.other (by omega) (by omega) g3.symm _ _).over _).over _
            · rw [E1.out, hN.out]; exact ((HP.out.set (k := kk.toNat) (by omega) ⟨⟨r0, r1, r2, r3, r4, r5⟩, r6, r7⟩).over _).over _
            · exact ((below_sets HB.out (by omega) _ _).over (by rw [World.size_setCells]; exact lb) _).over (by rw [World.over_size, World.size_setCells]; omega) _
          case measure => simp [intOf]; omega
        · have E1 := Lib.hid (dropF_out (W := W) (H := H) hin)
          have AD := fun W' (hW : FilmAt W' fb ib pb W H (dropF W H dr k)) => fadd_no hW (dr k).x (dr k).y hin (dr k).l (!(dr k).dim)
          replace AD := Lib.hid AD
          have IN := Lib.hid hin
          have lb := HB.out.size
          unfold smp at AD
          unfold Dr.inn at hin
          generalize hP : dropF W H dr k = P at *
          replace hP := Lib.hid hP
          generalize (dr k).l.a = s0 at *
          generalize (dr k).l.b = s1 at *
          generalize (dr k).l.c = s2 at *
          generalize (dr k).l.d = s3 at *
          generalize (dr k).l.e = s4 at *
          generalize (dr k).l.f = s5 at *
          clear IN
          generalize (dr k).x = x at *
          generalize (dr k).y = y at *
          generalize (dr k).dim = dm at *
          by_cases x0 : 0 ≤ x
          · by_cases x1 : x < W
            · by_cases y0 : 0 ≤ y
              · have y1 : ¬ y < H := fun y1 => hin ⟨x0, x1, y0, y1⟩
                clear hin
                go_wp2_with ((with_reducible refine (AD.out _ ?_).mono ?_); (repeat (first | exact HF.out | refine FilmAt.alloc ?_ _ | refine FilmAt.over ?_ _ | refine FilmAt.drew ?_ | refine FilmAt.drewN ?_ _)); rintro _ _ ⟨rfl, X1, rfl⟩)
                all_goals
                  go_roundw
                  case rel =>
                    refine ⟨k + 1, by omega, by omega, by go_num, ?_, ?_, ?_⟩
                    · rw [E1.out]; exact ((HF.out.alloc _).alloc _).over _
                    · rw [E1.out]; exact ((HP.out.alloc _).alloc _).over _
                    · exact ((HB.out.alloc lb _).alloc (by simp; omega) _).over (by simp; omega) _
                  case measure => simp [intOf]; omega
              · clear hin
                go_wp2_with ((with_reducible refine (AD.out _ ?_).mono ?_); (repeat (first | exact HF.out | refine FilmAt.alloc ?_ _ | refine FilmAt.over ?_ _ | refine FilmAt.drew ?_ | refine FilmAt.drewN ?_ _)); rintro _ _ ⟨rfl, X1, rfl⟩)
                all_goals
                  go_roundw
                  case rel =>
                    refine ⟨k + 1, by omega, by omega, by go_num, ?_, ?_, ?_⟩
                    · rw [E1.out]; exact ((HF.out.alloc _).alloc _).over _
                    · rw [E1.out]; exact ((HP.out.alloc _).alloc _).over _
                    · exact ((HB.out.alloc lb _).alloc (by simp; omega) _).over (by simp; omega) _
                  case measure => simp [intOf]; omega
            · clear hin
              go_wp2_with ((with_reducible refine (AD.out _ ?_).mono ?_); (repeat (first | exact HF.out | refine FilmAt.alloc ?_ _ | refine FilmAt.over ?_ _ | refine FilmAt.drew ?_ | refine FilmAt.drewN ?_ _)); rintro _ _ ⟨rfl, X1, rfl⟩)
              all_goals
                go_roundw
                case rel =>
                  refine ⟨k + 1, by omega, by omega, by go_num, ?_, ?_, ?_⟩
                  · rw [E1.out]; exact ((HF.out.alloc _).alloc _).over _
                  · rw [E1.out]; exact ((HP.out.alloc _).alloc _).over _
                  · exact ((HB.out.alloc lb _).alloc (by simp; omega) _).over (by simp; omega) _
                case measure => simp [intOf]; omega
          · clear hin
            go_wp2_with ((with_reducible refine (AD.out _ ?_).mono ?_); (repeat (first | exact HF.out | refine FilmAt.alloc ?_ _ | refine FilmAt.over ?_ _ | refine FilmAt.drew ?_ | refine FilmAt.drewN ?_ _)); rintro _ _ ⟨rfl, X1, rfl⟩)
            all_goals
              go_roundw
              case rel =>
                refine ⟨k + 1, by omega, by omega, by go_num, ?_, ?_, ?_⟩
                · rw [E1.out]; exact ((HF.out.alloc _).alloc _).over _
                · rw [E1.out]; exact ((HP.out.alloc _).alloc _).over _
                · exact ((HB.out.alloc lb _).alloc (by simp; omega) _).over (by simp; omega) _
              case measure => simp [intOf]; omega
      · have hk3 : k = 200 := by omega
        subst hk3
        clear hk hk2 hlt2
        go_wp2_with fail
        go_ret3
        refine ⟨fb, ib, pb, wb, (by rw [hN.out]; rfl), ?_, ?_, HB.out, l1, l2, l3, sz1, by omega, by omega, by omega⟩
        · rw [show min n 200 = 200 by omega]; exact HF.out
        · rw [show min n 200 = 200 by omega]; exact HP.out
    · have hk3 : k = n := by omega
      subst hk3
      go_wp2_with fail
      go_ret3
      refine ⟨fb, ib, pb, wb, (by rw [hN.out]; rfl), ?_, ?_, HB.out, l1, l2, l3, sz1, by omega, by omega, by omega⟩
      · rw [show min k 200 = k by omega]; exact HF.out
      · rw [show min k 200 = k by omega]; exact HP.out
end Go.Proofs.Ytknijppdnfcknaa
